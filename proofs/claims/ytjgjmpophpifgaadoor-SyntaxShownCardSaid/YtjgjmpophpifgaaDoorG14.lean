/- Bodies in the calculus' own words. Printed by gen.py, a program of this claim's own. -/
import Derived.Test.YtjgjmpophpifgaaDoorTy
set_option linter.unusedVariables false
set_option maxRecDepth 100000
namespace Go.AD
open Go.Proofs.Tryd
/-! ### tedder/tedderlaw06.quote (function 38) -/
def an38 : An := { mu := [], cut := [], loop := [(3, [0, 1, 5, 6])], any := [5] }
def L38_3 (env : Env) (I3 : Nat → List AV → AS → Prop) (m3 : Nat) (s0_l3 q1_l3 b5_l3 i6_l3 : AV) (σ : AS) (K : AV → AS → Prop) (X : PV → AS → Prop) : Prop :=
 (lock lenD prog 9 s0_l3 fun t11 =>
 (lock binD prog .lss 3 i6_l3 t11 fun t12 =>
 (condD t12
 (lock indexD prog 9 s0_l3 i6_l3 fun t18 =>
 (lock binD prog .quo 5 t18 (.pv (.int .u8 64)) fun t19 =>
 (lock binD prog .add 5 (.pv (.int .u8 48)) t19 fun t20 =>
 (lock indexD prog 9 s0_l3 i6_l3 fun t23 =>
 (lock binD prog .quo 5 t23 (.pv (.int .u8 8)) fun t24 =>
 (lock binD prog .rem 5 t24 (.pv (.int .u8 8)) fun t25 =>
 (lock binD prog .add 5 (.pv (.int .u8 48)) t25 fun t26 =>
 (lock indexD prog 9 s0_l3 i6_l3 fun t29 =>
 (lock binD prog .rem 5 t29 (.pv (.int .u8 8)) fun t30 =>
 (lock binD prog .add 5 (.pv (.int .u8 48)) t30 fun t31 =>
 ((lock buildSliceD prog false σ 30 4 4 [(0, (.pv (.int .u8 92))), (1, t20), (2, t26), (3, t31)] fun t32 σ3 =>
 ((lock appendD prog false σ3 30 b5_l3 t32 fun t33 σ4 =>
 (lock binD prog .add 3 i6_l3 (.pv (.int .i64 1)) fun t14 =>
 (∃ m', m' < m3 ∧ I3 m' [s0_l3, q1_l3, t33, t14] σ4))) ∧ True)) ∧ True)))))))))))
 (lock buildSliceD prog false σ 30 1 1 [(0, q1_l3)] fun t36 σ5 =>
 (lock appendD prog false σ5 30 b5_l3 t36 fun t37 σ6 =>
 (lock convD prog σ6 30 9 t37 fun t38 =>
 (retV (t38) σ6 K)))))))
theorem L38_3_eq (env : Env) (I3 : Nat → List AV → AS → Prop) (m3 : Nat) (s0_l3 q1_l3 b5_l3 i6_l3 : AV) (σ : AS) (K : AV → AS → Prop) (X : PV → AS → Prop) : L38_3 env I3 m3 s0_l3 q1_l3 b5_l3 i6_l3 σ K X = wpD prog env an38 (subC (bodyC f38) [1, 1, 0, 1, 0, 0]) (contQ prog env an38 (bodyC f38) [1, 1, 0, 1, 0, 0] [(I3, m3)] (rootQ prog f38 K X)) [(0, s0_l3), (1, q1_l3), (5, b5_l3), (6, i6_l3)] σ := by
  unfold L38_3
  kernel_rfl
theorem lp38_3 {α : Type} {env : Env}  {s0_l3 q1_l3 : AV} {σ : AS} {K : AV → AS → Prop} {X : PV → AS → Prop} (μ : α → AS → Nat) (I : α → AS → Prop) (eb5_l3 ei6_l3 : α → AV) (a0 : α) (h0 : I a0 σ)
 (h : ∀ a σ, I a σ → L38_3 env  (Inv (fun a => [s0_l3, q1_l3, eb5_l3 a, ei6_l3 a]) μ I) (μ a σ) s0_l3 q1_l3 (eb5_l3 a) (ei6_l3 a) σ K X) :
 ∃ I3 : Nat → List AV → AS → Prop, (∃ m, I3 m [s0_l3, q1_l3, eb5_l3 a0, ei6_l3 a0] σ) ∧ ∀ (m : Nat) (x0 x1 x2 x3 : AV), ∀ σ, I3 m [x0, x1, x2, x3] σ →
 L38_3 env  I3 m x0 x1 x2 x3 σ K X := by
  refine ⟨Inv (fun a => [s0_l3, q1_l3, eb5_l3 a, ei6_l3 a]) μ I, ⟨_, a0, rfl, rfl, h0⟩, ?_⟩
  rintro m x0 x1 x2 x3 σ' ⟨a, hv, rfl, hI⟩
  simp only [List.cons.injEq, and_true] at hv
  obtain ⟨rfl, rfl, rfl, rfl⟩ := hv
  exact h a σ' hI
def S38 (env : Env) (s0_a q1_a : AV) (σ : AS) (K : AV → AS → Prop) (X : PV → AS → Prop) : Prop :=
 (lock buildSliceD prog false σ 30 1 1 [(0, q1_a)] fun t8 σ1 =>
 (∃ I3 : Nat → List AV → AS → Prop, (∃ m, I3 m [s0_a, q1_a, t8, (.pv (.int .i64 0))] σ1) ∧ ∀ (m3 : Nat) (s0_l3 q1_l3 b5_l3 i6_l3 : AV), ∀ σ2, I3 m3 [s0_l3, q1_l3, b5_l3, i6_l3] σ2 →
 (L38_3 env I3 m3 s0_l3 q1_l3 b5_l3 i6_l3 σ2 K X)))
theorem S38_eq (env : Env) (s0_a q1_a : AV) (σ : AS) (K : AV → AS → Prop) (X : PV → AS → Prop) : S38 env s0_a q1_a σ K X = bodyD prog env an38 f38 [s0_a, q1_a] σ K X := by
  unfold S38
  simp only [L38_3_eq]
  kernel_rfl
theorem S38_ok : (match f38.body with | some c => okCode an38 prog f38.ntmps c | none => false) = true := by kernel_rfl
/-! ### tedder/tedderlaw06.slashes (function 39) -/
def an39 : An := { mu := [], cut := [(6, [0, 3, 4, 21]), (10, [0, 3, 4])], loop := [(3, [0, 3, 4])], any := [6] }
def J39_10 (env : Env) (I3 : Nat → List AV → AS → Prop) (m3 : Nat) (s0_j10 b3_j10 i4_j10 : AV) (σ : AS) (K : AV → AS → Prop) (X : PV → AS → Prop) : Prop :=
 (lock indexD prog 9 s0_j10 i4_j10 fun t44 =>
 (lock buildSliceD prog false σ 30 1 1 [(0, t44)] fun t45 σ6 =>
 (lock appendD prog false σ6 30 b3_j10 t45 fun t46 σ7 =>
 (lock binD prog .add 3 i4_j10 (.pv (.int .i64 1)) fun t10 =>
 (∃ m', m' < m3 ∧ I3 m' [s0_j10, t46, t10] σ7)))))
theorem J39_10_eq (env : Env) (I3 : Nat → List AV → AS → Prop) (m3 : Nat) (s0_j10 b3_j10 i4_j10 : AV) (σ : AS) (K : AV → AS → Prop) (X : PV → AS → Prop) : J39_10 env I3 m3 s0_j10 b3_j10 i4_j10 σ K X = wpD prog env an39 (subC (bodyC f39) [1, 1, 0, 1, 0, 0, 1, 0, 0, 1, 1]) (contQ prog env an39 (bodyC f39) [1, 1, 0, 1, 0, 0, 1, 0, 0, 1, 1] [(I3, m3)] (rootQ prog f39 K X)) [(0, s0_j10), (3, b3_j10), (4, i4_j10)] σ := by
  unfold J39_10
  kernel_rfl
def J39_6 (env : Env) (I3 : Nat → List AV → AS → Prop) (m3 : Nat) (s0_j6 b3_j6 i4_j6 t21_j6 : AV) (σ : AS) (K : AV → AS → Prop) (X : PV → AS → Prop) : Prop :=
 (condD t21_j6
 (lock indexD prog 9 s0_j6 i4_j6 fun t25 =>
 (lock binD prog .add 3 i4_j6 (.pv (.int .i64 1)) fun t28 =>
 (lock indexD prog 9 s0_j6 t28 fun t29 =>
 ((lock buildSliceD prog false σ 30 2 2 [(0, t25), (1, t29)] fun t30 σ2 =>
 ((lock appendD prog false σ2 30 b3_j6 t30 fun t31 σ3 =>
 (lock binD prog .add 3 i4_j6 (.pv (.int .i64 1)) fun t33 =>
 (lock binD prog .add 3 t33 (.pv (.int .i64 1)) fun t10 =>
 (∃ m', m' < m3 ∧ I3 m' [s0_j6, t31, t10] σ3)))) ∧ True)) ∧ True))))
 (lock indexD prog 9 s0_j6 i4_j6 fun t36 =>
 (lock binD prog .eql 5 t36 (.pv (.int .u8 47)) fun t37 =>
 (condD t37
 (lock buildSliceD prog false σ 30 1 1 [(0, (.pv (.int .u8 92)))] fun t39 σ4 =>
 (lock appendD prog false σ4 30 b3_j6 t39 fun t40 σ5 =>
 (J39_10 env I3 m3 (s0_j6) (t40) (i4_j6) σ5 K X)))
 (J39_10 env I3 m3 (s0_j6) (b3_j6) (i4_j6) σ K X)))))
theorem J39_6_eq (env : Env) (I3 : Nat → List AV → AS → Prop) (m3 : Nat) (s0_j6 b3_j6 i4_j6 t21_j6 : AV) (σ : AS) (K : AV → AS → Prop) (X : PV → AS → Prop) : J39_6 env I3 m3 s0_j6 b3_j6 i4_j6 t21_j6 σ K X = wpD prog env an39 (subC (bodyC f39) [1, 1, 0, 1, 0, 0, 1, 0, 0, 0, 1]) (contQ prog env an39 (bodyC f39) [1, 1, 0, 1, 0, 0, 1, 0, 0, 0, 1] [(I3, m3)] (rootQ prog f39 K X)) [(0, s0_j6), (3, b3_j6), (4, i4_j6), (21, t21_j6)] σ := by
  unfold J39_6
  kernel_rfl
def L39_3 (env : Env) (I3 : Nat → List AV → AS → Prop) (m3 : Nat) (s0_l3 b3_l3 i4_l3 : AV) (σ : AS) (K : AV → AS → Prop) (X : PV → AS → Prop) : Prop :=
 (lock lenD prog 9 s0_l3 fun t7 =>
 (lock binD prog .lss 3 i4_l3 t7 fun t8 =>
 (condD t8
 (lock indexD prog 9 s0_l3 i4_l3 fun t13 =>
 (lock binD prog .eql 5 t13 (.pv (.int .u8 92)) fun t14 =>
 (guardD t14 true
 (lock binD prog .add 3 i4_l3 (.pv (.int .i64 1)) fun t17 =>
 (lock lenD prog 9 s0_l3 fun t19 =>
 (lock binD prog .lss 3 t17 t19 fun t20 =>
 (J39_6 env I3 m3 (s0_l3) (b3_l3) (i4_l3) (t20) σ K X))))
 (J39_6 env I3 m3 (s0_l3) (b3_l3) (i4_l3) (.pv (.bool false)) σ K X))))
 (lock convD prog σ 30 9 b3_l3 fun t48 =>
 (retV (t48) σ K)))))
theorem L39_3_eq (env : Env) (I3 : Nat → List AV → AS → Prop) (m3 : Nat) (s0_l3 b3_l3 i4_l3 : AV) (σ : AS) (K : AV → AS → Prop) (X : PV → AS → Prop) : L39_3 env I3 m3 s0_l3 b3_l3 i4_l3 σ K X = wpD prog env an39 (subC (bodyC f39) [1, 1, 0, 1, 0, 0]) (contQ prog env an39 (bodyC f39) [1, 1, 0, 1, 0, 0] [(I3, m3)] (rootQ prog f39 K X)) [(0, s0_l3), (3, b3_l3), (4, i4_l3)] σ := by
  unfold L39_3
  kernel_rfl
theorem lp39_3 {α : Type} {env : Env}  {s0_l3 : AV} {σ : AS} {K : AV → AS → Prop} {X : PV → AS → Prop} (μ : α → AS → Nat) (I : α → AS → Prop) (eb3_l3 ei4_l3 : α → AV) (a0 : α) (h0 : I a0 σ)
 (h : ∀ a σ, I a σ → L39_3 env  (Inv (fun a => [s0_l3, eb3_l3 a, ei4_l3 a]) μ I) (μ a σ) s0_l3 (eb3_l3 a) (ei4_l3 a) σ K X) :
 ∃ I3 : Nat → List AV → AS → Prop, (∃ m, I3 m [s0_l3, eb3_l3 a0, ei4_l3 a0] σ) ∧ ∀ (m : Nat) (x0 x1 x2 : AV), ∀ σ, I3 m [x0, x1, x2] σ →
 L39_3 env  I3 m x0 x1 x2 σ K X := by
  refine ⟨Inv (fun a => [s0_l3, eb3_l3 a, ei4_l3 a]) μ I, ⟨_, a0, rfl, rfl, h0⟩, ?_⟩
  rintro m x0 x1 x2 σ' ⟨a, hv, rfl, hI⟩
  simp only [List.cons.injEq, and_true] at hv
  obtain ⟨rfl, rfl, rfl⟩ := hv
  exact h a σ' hI
def S39 (env : Env) (s0_a : AV) (σ : AS) (K : AV → AS → Prop) (X : PV → AS → Prop) : Prop :=
 (∃ I3 : Nat → List AV → AS → Prop, (∃ m, I3 m [s0_a, (.nilS), (.pv (.int .i64 0))] σ) ∧ ∀ (m3 : Nat) (s0_l3 b3_l3 i4_l3 : AV), ∀ σ1, I3 m3 [s0_l3, b3_l3, i4_l3] σ1 →
 (L39_3 env I3 m3 s0_l3 b3_l3 i4_l3 σ1 K X))
theorem S39_eq (env : Env) (s0_a : AV) (σ : AS) (K : AV → AS → Prop) (X : PV → AS → Prop) : S39 env s0_a σ K X = bodyD prog env an39 f39 [s0_a] σ K X := by
  unfold S39
  simp only [L39_3_eq]
  kernel_rfl
theorem S39_ok : (match f39.body with | some c => okCode an39 prog f39.ntmps c | none => false) = true := by kernel_rfl
/-! ### tedder/tedderlaw06.bare (function 22) -/
def an22 : An := { mu := [], cut := [(2, [1, 2]), (3, [1, 2])], loop := [(1, [1, 2]), (5, [2, 3, 25, 26, 27])], any := [7] }
def J22_2 (env : Env) (I1 : Nat → List AV → AS → Prop) (m1 : Nat) (n1_j2 t2_j2 : AV) (σ : AS) (K : AV → AS → Prop) (X : PV → AS → Prop) : Prop :=
 (lock fieldAddrD prog 39 n1_j2 2 fun t15 =>
 (lock loadD prog σ 35 t15 fun t16 =>
 (lock indexAddrD prog 35 t16 (.pv (.int .i64 0)) fun t17 =>
 (lock loadD prog σ 39 t17 fun t18 =>
 (lock storeD prog σ 39 n1_j2 t18 fun σ4 =>
 (∃ m', m' < m1 ∧ I1 m' [n1_j2, t2_j2] σ4))))))
theorem J22_2_eq (env : Env) (I1 : Nat → List AV → AS → Prop) (m1 : Nat) (n1_j2 t2_j2 : AV) (σ : AS) (K : AV → AS → Prop) (X : PV → AS → Prop) : J22_2 env I1 m1 n1_j2 t2_j2 σ K X = wpD prog env an22 (subC (bodyC f22) [1, 0, 0, 0, 1]) (contQ prog env an22 (bodyC f22) [1, 0, 0, 0, 1] [(I1, m1)] (rootQ prog f22 K X)) [(1, n1_j2), (2, t2_j2)] σ := by
  unfold J22_2
  kernel_rfl
def L22_5 (env : Env) (I5 : Nat → List AV → AS → Prop) (m5 : Nat) (t2_l5 out3_l5 t25_l5 t26_l5 t27_l5 : AV) (σ : AS) (K : AV → AS → Prop) (X : PV → AS → Prop) : Prop :=
 (lock binD prog .lss 3 t27_l5 t26_l5 fun t28 =>
 (condD t28
 (lock indexAddrD prog 35 t25_l5 t27_l5 fun t29 =>
 (lock loadD prog σ 39 t29 fun t30 =>
 (lock allocD prog σ 39 fun t5 σ8 =>
 (lock storeD prog σ8 39 t5 t30 fun σ9 =>
 (lock fieldAddrD prog 39 out3_l5 2 fun t31 =>
 ((lock loadD prog σ9 35 t31 fun t32 =>
 ((lock loadD prog σ9 39 t5 fun t33 =>
 ((env 22 [t33] σ9 (fun t34 σ21 =>
 ((lock buildSliceD prog false σ21 35 1 1 [(0, t34)] fun t35 σ22 =>
 ((lock appendD prog false σ22 35 t32 t35 fun t36 σ23 =>
 (lock fieldAddrD prog 39 out3_l5 2 fun t37 =>
 ((lock storeD prog σ23 35 t37 t36 fun σ24 =>
 (lock binD prog .add 3 t27_l5 (.pv (.int .i64 1)) fun t38 =>
 (∃ m', m' < m5 ∧ I5 m' [t2_l5, out3_l5, t25_l5, t26_l5, t38] σ24))) ∧ True))) ∧ True)) ∧ True)) (panV X)) ∧ True)) ∧ True)) ∧ ((lock loadD prog σ9 39 t5 fun t33 =>
 ((lock loadD prog σ9 35 t31 fun t32 =>
 ((env 22 [t33] σ9 (fun t34 σ17 =>
 ((lock buildSliceD prog false σ17 35 1 1 [(0, t34)] fun t35 σ18 =>
 ((lock appendD prog false σ18 35 t32 t35 fun t36 σ19 =>
 (lock fieldAddrD prog 39 out3_l5 2 fun t37 =>
 ((lock storeD prog σ19 35 t37 t36 fun σ20 =>
 (lock binD prog .add 3 t27_l5 (.pv (.int .i64 1)) fun t38 =>
 (∃ m', m' < m5 ∧ I5 m' [t2_l5, out3_l5, t25_l5, t26_l5, t38] σ20))) ∧ True))) ∧ True)) ∧ True)) (panV X)) ∧ True)) ∧ ((env 22 [t33] σ9 (fun t34 σ10 =>
 ((lock loadD prog σ10 35 t31 fun t32 =>
 ((lock buildSliceD prog false σ10 35 1 1 [(0, t34)] fun t35 σ14 =>
 ((lock appendD prog false σ14 35 t32 t35 fun t36 σ15 =>
 (lock fieldAddrD prog 39 out3_l5 2 fun t37 =>
 ((lock storeD prog σ15 35 t37 t36 fun σ16 =>
 (lock binD prog .add 3 t27_l5 (.pv (.int .i64 1)) fun t38 =>
 (∃ m', m' < m5 ∧ I5 m' [t2_l5, out3_l5, t25_l5, t26_l5, t38] σ16))) ∧ True))) ∧ True)) ∧ True)) ∧ ((lock buildSliceD prog false σ10 35 1 1 [(0, t34)] fun t35 σ11 =>
 ((lock loadD prog σ11 35 t31 fun t32 =>
 ((lock appendD prog false σ11 35 t32 t35 fun t36 σ12 =>
 (lock fieldAddrD prog 39 out3_l5 2 fun t37 =>
 ((lock storeD prog σ12 35 t37 t36 fun σ13 =>
 (lock binD prog .add 3 t27_l5 (.pv (.int .i64 1)) fun t38 =>
 (∃ m', m' < m5 ∧ I5 m' [t2_l5, out3_l5, t25_l5, t26_l5, t38] σ13))) ∧ True))) ∧ True)) ∧ True)) ∧ True))) (panV X)) ∧ True))) ∧ True)))))))
 (lock loadD prog σ 39 out3_l5 fun t39 =>
 (lock storeD prog σ 39 t2_l5 t39 fun σ25 =>
 (lock loadD prog σ25 39 t2_l5 fun r0 =>
 (retV (r0) σ25 K))))))
theorem L22_5_eq (env : Env) (I5 : Nat → List AV → AS → Prop) (m5 : Nat) (t2_l5 out3_l5 t25_l5 t26_l5 t27_l5 : AV) (σ : AS) (K : AV → AS → Prop) (X : PV → AS → Prop) : L22_5 env I5 m5 t2_l5 out3_l5 t25_l5 t26_l5 t27_l5 σ K X = wpD prog env an22 (subC (bodyC f22) [1, 1, 1, 0, 1, 0, 0]) (contQ prog env an22 (bodyC f22) [1, 1, 1, 0, 1, 0, 0] [(I5, m5)] (rootQ prog f22 K X)) [(2, t2_l5), (3, out3_l5), (25, t25_l5), (26, t26_l5), (27, t27_l5)] σ := by
  unfold L22_5
  kernel_rfl
theorem lp22_5 {α : Type} {env : Env}  {t2_l5 out3_l5 t25_l5 t26_l5 : AV} {σ : AS} {K : AV → AS → Prop} {X : PV → AS → Prop} (μ : α → AS → Nat) (I : α → AS → Prop) (et27_l5 : α → AV) (a0 : α) (h0 : I a0 σ)
 (h : ∀ a σ, I a σ → L22_5 env  (Inv (fun a => [t2_l5, out3_l5, t25_l5, t26_l5, et27_l5 a]) μ I) (μ a σ) t2_l5 out3_l5 t25_l5 t26_l5 (et27_l5 a) σ K X) :
 ∃ I5 : Nat → List AV → AS → Prop, (∃ m, I5 m [t2_l5, out3_l5, t25_l5, t26_l5, et27_l5 a0] σ) ∧ ∀ (m : Nat) (x0 x1 x2 x3 x4 : AV), ∀ σ, I5 m [x0, x1, x2, x3, x4] σ →
 L22_5 env  I5 m x0 x1 x2 x3 x4 σ K X := by
  refine ⟨Inv (fun a => [t2_l5, out3_l5, t25_l5, t26_l5, et27_l5 a]) μ I, ⟨_, a0, rfl, rfl, h0⟩, ?_⟩
  rintro m x0 x1 x2 x3 x4 σ' ⟨a, hv, rfl, hI⟩
  simp only [List.cons.injEq, and_true] at hv
  obtain ⟨rfl, rfl, rfl, rfl, rfl⟩ := hv
  exact h a σ' hI
def J22_3 (env : Env)  (n1_j3 t2_j3 : AV) (σ : AS) (K : AV → AS → Prop) (X : PV → AS → Prop) : Prop :=
 (lock fieldAddrD prog 39 n1_j3 0 fun t19 =>
 (lock loadD prog σ 9 t19 fun t20 =>
 (lock fieldAddrD prog 39 n1_j3 1 fun t21 =>
 (lock loadD prog σ 9 t21 fun t22 =>
 (lock buildD prog 39 [(0, t20), (1, t22)] fun t23 =>
 (lock allocD prog σ 39 fun t3 σ5 =>
 (lock storeD prog σ5 39 t3 t23 fun σ6 =>
 (lock fieldAddrD prog 39 n1_j3 2 fun t24 =>
 (lock loadD prog σ6 35 t24 fun t25 =>
 (lock lenD prog 35 t25 fun t26 =>
 (∃ I5 : Nat → List AV → AS → Prop, (∃ m, I5 m [t2_j3, t3, t25, t26, (.pv (.int .i64 0))] σ6) ∧ ∀ (m5 : Nat) (t2_l5 out3_l5 t25_l5 t26_l5 t27_l5 : AV), ∀ σ7, I5 m5 [t2_l5, out3_l5, t25_l5, t26_l5, t27_l5] σ7 →
 (L22_5 env I5 m5 t2_l5 out3_l5 t25_l5 t26_l5 t27_l5 σ7 K X))))))))))))
theorem J22_3_eq (env : Env)  (n1_j3 t2_j3 : AV) (σ : AS) (K : AV → AS → Prop) (X : PV → AS → Prop) : J22_3 env  n1_j3 t2_j3 σ K X = wpD prog env an22 (subC (bodyC f22) [1, 1]) (contQ prog env an22 (bodyC f22) [1, 1] [] (rootQ prog f22 K X)) [(1, n1_j3), (2, t2_j3)] σ := by
  unfold J22_3
  simp only [L22_5_eq]
  kernel_rfl
def L22_1 (env : Env) (I1 : Nat → List AV → AS → Prop) (m1 : Nat) (n1_l1 t2_l1 : AV) (σ : AS) (K : AV → AS → Prop) (X : PV → AS → Prop) : Prop :=
 (lock fieldAddrD prog 39 n1_l1 0 fun t6 =>
 (lock loadD prog σ 9 t6 fun t7 =>
 (lock binD prog .eql 9 t7 (.pv (.str [103, 114, 111, 117, 112])) fun t8 =>
 (guardD t8 true
 (lock fieldAddrD prog 39 n1_l1 2 fun t10 =>
 (lock loadD prog σ 35 t10 fun t11 =>
 (lock lenD prog 35 t11 fun t12 =>
 (lock binD prog .eql 3 t12 (.pv (.int .i64 1)) fun t13 =>
 (condD t13
 (J22_2 env I1 m1 (n1_l1) (t2_l1) σ K X)
 (J22_3 env  (n1_l1) (t2_l1) σ K X))))))
 (J22_3 env  (n1_l1) (t2_l1) σ K X)))))
theorem L22_1_eq (env : Env) (I1 : Nat → List AV → AS → Prop) (m1 : Nat) (n1_l1 t2_l1 : AV) (σ : AS) (K : AV → AS → Prop) (X : PV → AS → Prop) : L22_1 env I1 m1 n1_l1 t2_l1 σ K X = wpD prog env an22 (subC (bodyC f22) [1, 0, 0, 0]) (contQ prog env an22 (bodyC f22) [1, 0, 0, 0] [(I1, m1)] (rootQ prog f22 K X)) [(1, n1_l1), (2, t2_l1)] σ := by
  unfold L22_1
  kernel_rfl
theorem lp22_1 {α : Type} {env : Env}  {n1_l1 t2_l1 : AV} {σ : AS} {K : AV → AS → Prop} {X : PV → AS → Prop} (μ : α → AS → Nat) (I : α → AS → Prop) (a0 : α) (h0 : I a0 σ)
 (h : ∀ a σ, I a σ → L22_1 env  (Inv (fun a => [n1_l1, t2_l1]) μ I) (μ a σ) n1_l1 t2_l1 σ K X) :
 ∃ I1 : Nat → List AV → AS → Prop, (∃ m, I1 m [n1_l1, t2_l1] σ) ∧ ∀ (m : Nat) (x0 x1 : AV), ∀ σ, I1 m [x0, x1] σ →
 L22_1 env  I1 m x0 x1 σ K X := by
  refine ⟨Inv (fun a => [n1_l1, t2_l1]) μ I, ⟨_, a0, rfl, rfl, h0⟩, ?_⟩
  rintro m x0 x1 σ' ⟨a, hv, rfl, hI⟩
  simp only [List.cons.injEq, and_true] at hv
  obtain ⟨rfl, rfl⟩ := hv
  exact h a σ' hI
def S22 (env : Env) (n0_a : AV) (σ : AS) (K : AV → AS → Prop) (X : PV → AS → Prop) : Prop :=
 (lock boxD σ n0_a fun t1 σ1 =>
 (lock allocD prog σ1 39 fun t2 σ2 =>
 (∃ I1 : Nat → List AV → AS → Prop, (∃ m, I1 m [t1, t2] σ2) ∧ ∀ (m1 : Nat) (n1_l1 t2_l1 : AV), ∀ σ3, I1 m1 [n1_l1, t2_l1] σ3 →
 (L22_1 env I1 m1 n1_l1 t2_l1 σ3 K X))))
theorem S22_eq (env : Env) (n0_a : AV) (σ : AS) (K : AV → AS → Prop) (X : PV → AS → Prop) : S22 env n0_a σ K X = bodyD prog env an22 f22 [n0_a] σ K X := by
  unfold S22
  simp only [L22_1_eq]
  kernel_rfl
theorem S22_ok : (match f22.body with | some c => okCode an22 prog f22.ntmps c | none => false) = true := by kernel_rfl
/-! ### tedder/tedderlaw06.Show$1 (function 35) -/
def an35 : An := { mu := [], cut := [], loop := [] }
def S35 (env : Env) (i0_a t1_a : AV) (σ : AS) (K : AV → AS → Prop) (X : PV → AS → Prop) : Prop :=
 (lock fieldAddrD prog 39 t1_a 2 fun t4 =>
 (lock loadD prog σ 35 t4 fun t5 =>
 (lock indexAddrD prog 35 t5 i0_a fun t7 =>
 (lock loadD prog σ 39 t7 fun t8 =>
 (env 20 [t8] σ (fun t9 σ1 =>
 (lock binD prog .add 9 (.pv (.str [40])) t9 fun t10 =>
 (lock binD prog .add 9 t10 (.pv (.str [41])) fun t11 =>
 (retV (t11) σ1 K)))) (panV X))))))
theorem S35_eq (env : Env) (i0_a t1_a : AV) (σ : AS) (K : AV → AS → Prop) (X : PV → AS → Prop) : S35 env i0_a t1_a σ K X = bodyD prog env an35 f35 [i0_a, t1_a] σ K X := by
  unfold S35
  kernel_rfl
theorem S35_ok : (match f35.body with | some c => okCode an35 prog f35.ntmps c | none => false) = true := by kernel_rfl
/-! ### tedder/tedderlaw06.Show$2 (function 36) -/
def an36 : An := { mu := [], cut := [(7, [3, 5, 6, 7, 8])], loop := [(3, [3, 6, 7, 8])] }
def J36_7 (env : Env) (I3 : Nat → List AV → AS → Prop) (m3 : Nat) (s3_j7 k5_j7 t6_j7 t7_j7 t8_j7 : AV) (σ : AS) (K : AV → AS → Prop) (X : PV → AS → Prop) : Prop :=
 (lock loadD prog σ 39 k5_j7 fun t18 =>
 (env 20 [t18] σ (fun t19 σ4 =>
 (lock binD prog .add 9 s3_j7 t19 fun t20 =>
 (lock binD prog .add 3 t8_j7 (.pv (.int .i64 1)) fun t21 =>
 (∃ m', m' < m3 ∧ I3 m' [t20, t6_j7, t7_j7, t21] σ4)))) (panV X)))
theorem J36_7_eq (env : Env) (I3 : Nat → List AV → AS → Prop) (m3 : Nat) (s3_j7 k5_j7 t6_j7 t7_j7 t8_j7 : AV) (σ : AS) (K : AV → AS → Prop) (X : PV → AS → Prop) : J36_7 env I3 m3 s3_j7 k5_j7 t6_j7 t7_j7 t8_j7 σ K X = wpD prog env an36 (subC (bodyC f36) [1, 1, 0, 1, 0, 0, 1, 1, 0, 0, 1, 1]) (contQ prog env an36 (bodyC f36) [1, 1, 0, 1, 0, 0, 1, 1, 0, 0, 1, 1] [(I3, m3)] (rootQ prog f36 K X)) [(3, s3_j7), (5, k5_j7), (6, t6_j7), (7, t7_j7), (8, t8_j7)] σ := by
  unfold J36_7
  kernel_rfl
def L36_3 (env : Env) (I3 : Nat → List AV → AS → Prop) (m3 : Nat) (s3_l3 t6_l3 t7_l3 t8_l3 : AV) (σ : AS) (K : AV → AS → Prop) (X : PV → AS → Prop) : Prop :=
 (lock binD prog .lss 3 t8_l3 t7_l3 fun t9 =>
 (condD t9
 (lock indexAddrD prog 35 t6_l3 t8_l3 fun t11 =>
 (lock loadD prog σ 39 t11 fun t12 =>
 (lock allocD prog σ 39 fun t5 σ2 =>
 (lock storeD prog σ2 39 t5 t12 fun σ3 =>
 (lock binD prog .gtr 3 t8_l3 (.pv (.int .i64 0)) fun t14 =>
 (condD t14
 (lock binD prog .add 9 s3_l3 (.pv (.str [44, 32])) fun t16 =>
 (J36_7 env I3 m3 (t16) (t5) (t6_l3) (t7_l3) (t8_l3) σ3 K X))
 (J36_7 env I3 m3 (s3_l3) (t5) (t6_l3) (t7_l3) (t8_l3) σ3 K X)))))))
 (retV (s3_l3) σ K)))
theorem L36_3_eq (env : Env) (I3 : Nat → List AV → AS → Prop) (m3 : Nat) (s3_l3 t6_l3 t7_l3 t8_l3 : AV) (σ : AS) (K : AV → AS → Prop) (X : PV → AS → Prop) : L36_3 env I3 m3 s3_l3 t6_l3 t7_l3 t8_l3 σ K X = wpD prog env an36 (subC (bodyC f36) [1, 1, 0, 1, 0, 0]) (contQ prog env an36 (bodyC f36) [1, 1, 0, 1, 0, 0] [(I3, m3)] (rootQ prog f36 K X)) [(3, s3_l3), (6, t6_l3), (7, t7_l3), (8, t8_l3)] σ := by
  unfold L36_3
  kernel_rfl
theorem lp36_3 {α : Type} {env : Env}  {t6_l3 t7_l3 : AV} {σ : AS} {K : AV → AS → Prop} {X : PV → AS → Prop} (μ : α → AS → Nat) (I : α → AS → Prop) (es3_l3 et8_l3 : α → AV) (a0 : α) (h0 : I a0 σ)
 (h : ∀ a σ, I a σ → L36_3 env  (Inv (fun a => [es3_l3 a, t6_l3, t7_l3, et8_l3 a]) μ I) (μ a σ) (es3_l3 a) t6_l3 t7_l3 (et8_l3 a) σ K X) :
 ∃ I3 : Nat → List AV → AS → Prop, (∃ m, I3 m [es3_l3 a0, t6_l3, t7_l3, et8_l3 a0] σ) ∧ ∀ (m : Nat) (x0 x1 x2 x3 : AV), ∀ σ, I3 m [x0, x1, x2, x3] σ →
 L36_3 env  I3 m x0 x1 x2 x3 σ K X := by
  refine ⟨Inv (fun a => [es3_l3 a, t6_l3, t7_l3, et8_l3 a]) μ I, ⟨_, a0, rfl, rfl, h0⟩, ?_⟩
  rintro m x0 x1 x2 x3 σ' ⟨a, hv, rfl, hI⟩
  simp only [List.cons.injEq, and_true] at hv
  obtain ⟨rfl, rfl, rfl, rfl⟩ := hv
  exact h a σ' hI
def S36 (env : Env) (l0_a : AV) (σ : AS) (K : AV → AS → Prop) (X : PV → AS → Prop) : Prop :=
 (lock lenD prog 35 l0_a fun t7 =>
 (∃ I3 : Nat → List AV → AS → Prop, (∃ m, I3 m [(.pv (.str [])), l0_a, t7, (.pv (.int .i64 0))] σ) ∧ ∀ (m3 : Nat) (s3_l3 t6_l3 t7_l3 t8_l3 : AV), ∀ σ1, I3 m3 [s3_l3, t6_l3, t7_l3, t8_l3] σ1 →
 (L36_3 env I3 m3 s3_l3 t6_l3 t7_l3 t8_l3 σ1 K X)))
theorem S36_eq (env : Env) (l0_a : AV) (σ : AS) (K : AV → AS → Prop) (X : PV → AS → Prop) : S36 env l0_a σ K X = bodyD prog env an36 f36 [l0_a] σ K X := by
  unfold S36
  simp only [L36_3_eq]
  kernel_rfl
theorem S36_ok : (match f36.body with | some c => okCode an36 prog f36.ntmps c | none => false) = true := by kernel_rfl
/-! ### tedder/tedderlaw06.Show$3 (function 37) -/
def an37 : An := { mu := [], cut := [], loop := [] }
def S37 (env : Env) (k0_a : AV) (σ : AS) (K : AV → AS → Prop) (X : PV → AS → Prop) : Prop :=
 (lock boxD σ k0_a fun t1 σ1 =>
 (lock loadD prog σ1 39 t1 fun t3 =>
 (env 20 [t3] σ1 (fun t4 σ2 =>
 (retV (t4) σ2 K)) (panV X))))
theorem S37_eq (env : Env) (k0_a : AV) (σ : AS) (K : AV → AS → Prop) (X : PV → AS → Prop) : S37 env k0_a σ K X = bodyD prog env an37 f37 [k0_a] σ K X := by
  unfold S37
  kernel_rfl
theorem S37_ok : (match f37.body with | some c => okCode an37 prog f37.ntmps c | none => false) = true := by kernel_rfl
/-! ### tedder/tedderlaw06.Show (function 20) -/
def an20 : An := { mu := [], cut := [(7, [1, 3, 4, 5, 9, 10]), (19, [1, 4]), (30, [3, 6])], loop := [], any := [13, 15, 19, 25, 34, 36, 38, 40] }
def J20_19 (env : Env)  (n1_j19 list4_j19 : AV) (σ : AS) (K : AV → AS → Prop) (X : PV → AS → Prop) : Prop :=
 (lock fieldAddrD prog 39 n1_j19 1 fun t60 =>
 (lock fieldAddrD prog 39 n1_j19 2 fun t64 =>
 ((lock loadD prog σ 9 t60 fun t61 =>
 (lock binD prog .add 9 t61 (.pv (.str [40])) fun t62 =>
 ((lock loadD prog σ 35 t64 fun t65 =>
 ((callD env list4_j19 [t65] σ (fun t66 σ12 =>
 (lock binD prog .add 9 t62 t66 fun t67 =>
 (lock binD prog .add 9 t67 (.pv (.str [41])) fun t68 =>
 (retV (t68) σ12 K)))) (panV X)) ∧ True)) ∧ True))) ∧ ((lock loadD prog σ 35 t64 fun t65 =>
 ((lock loadD prog σ 9 t60 fun t61 =>
 (lock binD prog .add 9 t61 (.pv (.str [40])) fun t62 =>
 ((callD env list4_j19 [t65] σ (fun t66 σ11 =>
 (lock binD prog .add 9 t62 t66 fun t67 =>
 (lock binD prog .add 9 t67 (.pv (.str [41])) fun t68 =>
 (retV (t68) σ11 K)))) (panV X)) ∧ True))) ∧ ((callD env list4_j19 [t65] σ (fun t66 σ10 =>
 ((lock loadD prog σ10 9 t60 fun t61 =>
 (lock binD prog .add 9 t61 (.pv (.str [40])) fun t62 =>
 (lock binD prog .add 9 t62 t66 fun t67 =>
 (lock binD prog .add 9 t67 (.pv (.str [41])) fun t68 =>
 (retV (t68) σ10 K))))) ∧ True)) (panV X)) ∧ True))) ∧ True))))
theorem J20_19_eq (env : Env)  (n1_j19 list4_j19 : AV) (σ : AS) (K : AV → AS → Prop) (X : PV → AS → Prop) : J20_19 env  n1_j19 list4_j19 σ K X = wpD prog env an20 (subC (bodyC f20) [1, 1, 1, 1, 0, 1, 0, 1, 1, 1, 1, 1, 1, 1, 1, 1, 1, 1, 0, 1]) (contQ prog env an20 (bodyC f20) [1, 1, 1, 1, 0, 1, 0, 1, 1, 1, 1, 1, 1, 1, 1, 1, 1, 1, 0, 1] [] (rootQ prog f20 K X)) [(1, n1_j19), (4, list4_j19)] σ := by
  unfold J20_19
  kernel_rfl
def J20_30 (env : Env)  (in3_j30 t6_j30 : AV) (σ : AS) (K : AV → AS → Prop) (X : PV → AS → Prop) : Prop :=
 (callD env in3_j30 [(.pv (.int .i64 0))] σ (fun t95 σ17 =>
 (lock binD prog .add 9 t95 (.pv (.str [32])) fun t96 =>
 (lock binD prog .add 9 t96 t6_j30 fun t98 =>
 (lock binD prog .add 9 t98 (.pv (.str [32])) fun t99 =>
 (callD env in3_j30 [(.pv (.int .i64 1))] σ17 (fun t101 σ18 =>
 (lock binD prog .add 9 t99 t101 fun t102 =>
 (retV (t102) σ18 K))) (panV X)))))) (panV X))
theorem J20_30_eq (env : Env)  (in3_j30 t6_j30 : AV) (σ : AS) (K : AV → AS → Prop) (X : PV → AS → Prop) : J20_30 env  in3_j30 t6_j30 σ K X = wpD prog env an20 (subC (bodyC f20) [1, 1, 1, 1, 0, 1, 0, 1, 1, 1, 1, 1, 1, 1, 1, 1, 1, 1, 1, 1, 1, 1, 1, 1, 1, 1, 0, 1, 1]) (contQ prog env an20 (bodyC f20) [1, 1, 1, 1, 0, 1, 0, 1, 1, 1, 1, 1, 1, 1, 1, 1, 1, 1, 1, 1, 1, 1, 1, 1, 1, 1, 0, 1, 1] [] (rootQ prog f20 K X)) [(3, in3_j30), (6, t6_j30)] σ := by
  unfold J20_30
  kernel_rfl
def J20_7 (env : Env)  (n1_j7 in3_j7 list4_j7 put5_j7 t9_j7 t10_j7 : AV) (σ : AS) (K : AV → AS → Prop) (X : PV → AS → Prop) : Prop :=
 (condD t10_j7
 (lock fieldAddrD prog 39 n1_j7 1 fun t13 =>
 (lock loadD prog σ 9 t13 fun t14 =>
 (retV (t14) σ K)))
 (lock binD prog .eql 9 t9_j7 (.pv (.str [115, 116, 114])) fun t16 =>
 (condD t16
 (lock fieldAddrD prog 39 n1_j7 1 fun t17 =>
 (lock loadD prog σ 9 t17 fun t18 =>
 (env 38 [t18, (.pv (.int .u8 34))] σ (fun t19 σ2 =>
 (retV (t19) σ2 K)) (panV X))))
 (lock binD prog .eql 9 t9_j7 (.pv (.str [101, 114, 101])) fun t21 =>
 (condD t21
 (lock fieldAddrD prog 39 n1_j7 1 fun t22 =>
 (lock loadD prog σ 9 t22 fun t23 =>
 (env 39 [t23] σ (fun t24 σ3 =>
 (lock binD prog .add 9 (.pv (.str [47])) t24 fun t25 =>
 (lock binD prog .add 9 t25 (.pv (.str [47])) fun t26 =>
 (retV (t26) σ3 K)))) (panV X))))
 (lock binD prog .eql 9 t9_j7 (.pv (.str [101, 108, 101, 109])) fun t28 =>
 (condD t28
 (lock fieldAddrD prog 39 n1_j7 1 fun t29 =>
 (lock fieldAddrD prog 39 n1_j7 2 fun t33 =>
 ((lock loadD prog σ 9 t29 fun t30 =>
 (lock binD prog .add 9 t30 (.pv (.str [91])) fun t31 =>
 ((lock loadD prog σ 35 t33 fun t34 =>
 ((callD env list4_j7 [t34] σ (fun t35 σ6 =>
 (lock binD prog .add 9 t31 t35 fun t36 =>
 (lock binD prog .add 9 t36 (.pv (.str [93])) fun t37 =>
 (retV (t37) σ6 K)))) (panV X)) ∧ True)) ∧ True))) ∧ ((lock loadD prog σ 35 t33 fun t34 =>
 ((lock loadD prog σ 9 t29 fun t30 =>
 (lock binD prog .add 9 t30 (.pv (.str [91])) fun t31 =>
 ((callD env list4_j7 [t34] σ (fun t35 σ5 =>
 (lock binD prog .add 9 t31 t35 fun t36 =>
 (lock binD prog .add 9 t36 (.pv (.str [93])) fun t37 =>
 (retV (t37) σ5 K)))) (panV X)) ∧ True))) ∧ ((callD env list4_j7 [t34] σ (fun t35 σ4 =>
 ((lock loadD prog σ4 9 t29 fun t30 =>
 (lock binD prog .add 9 t30 (.pv (.str [91])) fun t31 =>
 (lock binD prog .add 9 t31 t35 fun t36 =>
 (lock binD prog .add 9 t36 (.pv (.str [93])) fun t37 =>
 (retV (t37) σ4 K))))) ∧ True)) (panV X)) ∧ True))) ∧ True))))
 (lock binD prog .eql 9 t9_j7 (.pv (.str [99, 97, 108, 108])) fun t39 =>
 (condD t39
 (lock fieldAddrD prog 39 n1_j7 1 fun t40 =>
 (lock fieldAddrD prog 39 n1_j7 2 fun t44 =>
 ((lock loadD prog σ 9 t40 fun t41 =>
 (lock binD prog .add 9 t41 (.pv (.str [40])) fun t42 =>
 ((lock loadD prog σ 35 t44 fun t45 =>
 ((callD env list4_j7 [t45] σ (fun t46 σ9 =>
 (lock binD prog .add 9 t42 t46 fun t47 =>
 (lock binD prog .add 9 t47 (.pv (.str [41])) fun t48 =>
 (retV (t48) σ9 K)))) (panV X)) ∧ True)) ∧ True))) ∧ ((lock loadD prog σ 35 t44 fun t45 =>
 ((lock loadD prog σ 9 t40 fun t41 =>
 (lock binD prog .add 9 t41 (.pv (.str [40])) fun t42 =>
 ((callD env list4_j7 [t45] σ (fun t46 σ8 =>
 (lock binD prog .add 9 t42 t46 fun t47 =>
 (lock binD prog .add 9 t47 (.pv (.str [41])) fun t48 =>
 (retV (t48) σ8 K)))) (panV X)) ∧ True))) ∧ ((callD env list4_j7 [t45] σ (fun t46 σ7 =>
 ((lock loadD prog σ7 9 t40 fun t41 =>
 (lock binD prog .add 9 t41 (.pv (.str [40])) fun t42 =>
 (lock binD prog .add 9 t42 t46 fun t47 =>
 (lock binD prog .add 9 t47 (.pv (.str [41])) fun t48 =>
 (retV (t48) σ7 K))))) ∧ True)) (panV X)) ∧ True))) ∧ True))))
 (lock binD prog .eql 9 t9_j7 (.pv (.str [98, 117, 105, 108, 116])) fun t50 =>
 (condD t50
 (lock fieldAddrD prog 39 n1_j7 2 fun t51 =>
 (lock loadD prog σ 35 t51 fun t52 =>
 (lock lenD prog 35 t52 fun t53 =>
 (lock binD prog .eql 3 t53 (.pv (.int .i64 0)) fun t54 =>
 (guardD t54 true
 (lock fieldAddrD prog 39 n1_j7 1 fun t56 =>
 (lock loadD prog σ 9 t56 fun t57 =>
 (lock binD prog .eql 9 t57 (.pv (.str [108, 101, 110, 103, 116, 104])) fun t58 =>
 (condD t58
 (retV ((.pv (.str [108, 101, 110, 103, 116, 104, 40, 41]))) σ K)
 (J20_19 env  (n1_j7) (list4_j7) σ K X)))))
 (J20_19 env  (n1_j7) (list4_j7) σ K X))))))
 (lock binD prog .eql 9 t9_j7 (.pv (.str [103, 114, 111, 117, 112])) fun t70 =>
 (condD t70
 (lock fieldAddrD prog 39 n1_j7 2 fun t71 =>
 (lock loadD prog σ 35 t71 fun t72 =>
 (lock indexAddrD prog 35 t72 (.pv (.int .i64 0)) fun t73 =>
 (lock loadD prog σ 39 t73 fun t74 =>
 (env 20 [t74] σ (fun t75 σ13 =>
 (retV (t75) σ13 K)) (panV X))))))
 (lock binD prog .eql 9 t9_j7 (.pv (.str [102, 105, 101, 108, 100])) fun t77 =>
 (condD t77
 (callD env in3_j7 [(.pv (.int .i64 0))] σ (fun t79 σ14 =>
 (lock binD prog .add 9 (.pv (.str [36])) t79 fun t80 =>
 (retV (t80) σ14 K))) (panV X))
 (lock binD prog .eql 9 t9_j7 (.pv (.str [117, 110, 97, 114, 121])) fun t82 =>
 (condD t82
 (lock fieldAddrD prog 39 n1_j7 1 fun t83 =>
 ((lock loadD prog σ 9 t83 fun t84 =>
 ((callD env in3_j7 [(.pv (.int .i64 0))] σ (fun t86 σ16 =>
 (lock binD prog .add 9 t84 t86 fun t87 =>
 (retV (t87) σ16 K))) (panV X)) ∧ True)) ∧ ((callD env in3_j7 [(.pv (.int .i64 0))] σ (fun t86 σ15 =>
 ((lock loadD prog σ15 9 t83 fun t84 =>
 (lock binD prog .add 9 t84 t86 fun t87 =>
 (retV (t87) σ15 K))) ∧ True)) (panV X)) ∧ True)))
 (lock binD prog .eql 9 t9_j7 (.pv (.str [98, 105, 110])) fun t89 =>
 (condD t89
 (lock fieldAddrD prog 39 n1_j7 1 fun t90 =>
 (lock loadD prog σ 9 t90 fun t91 =>
 (lock binD prog .eql 9 t91 (.pv (.str [99, 97, 116])) fun t93 =>
 (condD t93
 (J20_30 env  (in3_j7) (.pv (.str [])) σ K X)
 (J20_30 env  (in3_j7) (t91) σ K X)))))
 (lock binD prog .eql 9 t9_j7 (.pv (.str [99, 111, 110, 100])) fun t104 =>
 (condD t104
 (callD env in3_j7 [(.pv (.int .i64 0))] σ (fun t106 σ19 =>
 (lock binD prog .add 9 t106 (.pv (.str [32, 63, 32])) fun t107 =>
 (callD env in3_j7 [(.pv (.int .i64 1))] σ19 (fun t109 σ20 =>
 (lock binD prog .add 9 t107 t109 fun t110 =>
 (lock binD prog .add 9 t110 (.pv (.str [32, 58, 32])) fun t111 =>
 (callD env in3_j7 [(.pv (.int .i64 2))] σ20 (fun t113 σ21 =>
 (lock binD prog .add 9 t111 t113 fun t114 =>
 (retV (t114) σ21 K))) (panV X))))) (panV X)))) (panV X))
 (lock binD prog .eql 9 t9_j7 (.pv (.str [97, 115, 115, 105, 103, 110])) fun t116 =>
 (condD t116
 (lock fieldAddrD prog 39 n1_j7 2 fun t118 =>
 (lock fieldAddrD prog 39 n1_j7 1 fun t124 =>
 ((lock loadD prog σ 35 t118 fun t119 =>
 (lock indexAddrD prog 35 t119 (.pv (.int .i64 0)) fun t120 =>
 ((lock loadD prog σ 39 t120 fun t121 =>
 ((callD env put5_j7 [t121] σ (fun t122 σ28 =>
 (lock binD prog .add 9 t122 (.pv (.str [32])) fun t123 =>
 ((lock loadD prog σ28 9 t124 fun t125 =>
 (lock binD prog .add 9 t123 t125 fun t126 =>
 (lock binD prog .add 9 t126 (.pv (.str [32])) fun t127 =>
 ((callD env in3_j7 [(.pv (.int .i64 1))] σ28 (fun t129 σ30 =>
 (lock binD prog .add 9 t127 t129 fun t130 =>
 (retV (t130) σ30 K))) (panV X)) ∧ True)))) ∧ ((callD env in3_j7 [(.pv (.int .i64 1))] σ28 (fun t129 σ29 =>
 ((lock loadD prog σ29 9 t124 fun t125 =>
 (lock binD prog .add 9 t123 t125 fun t126 =>
 (lock binD prog .add 9 t126 (.pv (.str [32])) fun t127 =>
 (lock binD prog .add 9 t127 t129 fun t130 =>
 (retV (t130) σ29 K))))) ∧ True)) (panV X)) ∧ True)))) (panV X)) ∧ ((lock loadD prog σ 9 t124 fun t125 =>
 ((callD env put5_j7 [t121] σ (fun t122 σ26 =>
 (lock binD prog .add 9 t122 (.pv (.str [32])) fun t123 =>
 (lock binD prog .add 9 t123 t125 fun t126 =>
 (lock binD prog .add 9 t126 (.pv (.str [32])) fun t127 =>
 ((callD env in3_j7 [(.pv (.int .i64 1))] σ26 (fun t129 σ27 =>
 (lock binD prog .add 9 t127 t129 fun t130 =>
 (retV (t130) σ27 K))) (panV X)) ∧ True))))) (panV X)) ∧ True)) ∧ True))) ∧ ((lock loadD prog σ 9 t124 fun t125 =>
 ((lock loadD prog σ 39 t120 fun t121 =>
 ((callD env put5_j7 [t121] σ (fun t122 σ24 =>
 (lock binD prog .add 9 t122 (.pv (.str [32])) fun t123 =>
 (lock binD prog .add 9 t123 t125 fun t126 =>
 (lock binD prog .add 9 t126 (.pv (.str [32])) fun t127 =>
 ((callD env in3_j7 [(.pv (.int .i64 1))] σ24 (fun t129 σ25 =>
 (lock binD prog .add 9 t127 t129 fun t130 =>
 (retV (t130) σ25 K))) (panV X)) ∧ True))))) (panV X)) ∧ True)) ∧ True)) ∧ True)))) ∧ ((lock loadD prog σ 9 t124 fun t125 =>
 ((lock loadD prog σ 35 t118 fun t119 =>
 (lock indexAddrD prog 35 t119 (.pv (.int .i64 0)) fun t120 =>
 ((lock loadD prog σ 39 t120 fun t121 =>
 ((callD env put5_j7 [t121] σ (fun t122 σ22 =>
 (lock binD prog .add 9 t122 (.pv (.str [32])) fun t123 =>
 (lock binD prog .add 9 t123 t125 fun t126 =>
 (lock binD prog .add 9 t126 (.pv (.str [32])) fun t127 =>
 ((callD env in3_j7 [(.pv (.int .i64 1))] σ22 (fun t129 σ23 =>
 (lock binD prog .add 9 t127 t129 fun t130 =>
 (retV (t130) σ23 K))) (panV X)) ∧ True))))) (panV X)) ∧ True)) ∧ True))) ∧ True)) ∧ True))))
 (lock binD prog .eql 9 t9_j7 (.pv (.str [112, 114, 101])) fun t132 =>
 (condD t132
 (lock fieldAddrD prog 39 n1_j7 1 fun t133 =>
 (lock fieldAddrD prog 39 n1_j7 2 fun t136 =>
 ((lock loadD prog σ 9 t133 fun t134 =>
 ((lock loadD prog σ 35 t136 fun t137 =>
 (lock indexAddrD prog 35 t137 (.pv (.int .i64 0)) fun t138 =>
 ((lock loadD prog σ 39 t138 fun t139 =>
 ((callD env put5_j7 [t139] σ (fun t140 σ34 =>
 (lock binD prog .add 9 t134 t140 fun t141 =>
 (retV (t141) σ34 K))) (panV X)) ∧ True)) ∧ True))) ∧ True)) ∧ ((lock loadD prog σ 35 t136 fun t137 =>
 (lock indexAddrD prog 35 t137 (.pv (.int .i64 0)) fun t138 =>
 ((lock loadD prog σ 9 t133 fun t134 =>
 ((lock loadD prog σ 39 t138 fun t139 =>
 ((callD env put5_j7 [t139] σ (fun t140 σ33 =>
 (lock binD prog .add 9 t134 t140 fun t141 =>
 (retV (t141) σ33 K))) (panV X)) ∧ True)) ∧ True)) ∧ ((lock loadD prog σ 39 t138 fun t139 =>
 ((lock loadD prog σ 9 t133 fun t134 =>
 ((callD env put5_j7 [t139] σ (fun t140 σ32 =>
 (lock binD prog .add 9 t134 t140 fun t141 =>
 (retV (t141) σ32 K))) (panV X)) ∧ True)) ∧ ((callD env put5_j7 [t139] σ (fun t140 σ31 =>
 ((lock loadD prog σ31 9 t133 fun t134 =>
 (lock binD prog .add 9 t134 t140 fun t141 =>
 (retV (t141) σ31 K))) ∧ True)) (panV X)) ∧ True))) ∧ True)))) ∧ True))))
 (lock binD prog .eql 9 t9_j7 (.pv (.str [112, 111, 115, 116])) fun t143 =>
 (condD t143
 (lock fieldAddrD prog 39 n1_j7 2 fun t145 =>
 (lock fieldAddrD prog 39 n1_j7 1 fun t150 =>
 ((lock loadD prog σ 35 t145 fun t146 =>
 (lock indexAddrD prog 35 t146 (.pv (.int .i64 0)) fun t147 =>
 ((lock loadD prog σ 39 t147 fun t148 =>
 ((callD env put5_j7 [t148] σ (fun t149 σ38 =>
 ((lock loadD prog σ38 9 t150 fun t151 =>
 (lock binD prog .add 9 t149 t151 fun t152 =>
 (retV (t152) σ38 K))) ∧ True)) (panV X)) ∧ ((lock loadD prog σ 9 t150 fun t151 =>
 ((callD env put5_j7 [t148] σ (fun t149 σ37 =>
 (lock binD prog .add 9 t149 t151 fun t152 =>
 (retV (t152) σ37 K))) (panV X)) ∧ True)) ∧ True))) ∧ ((lock loadD prog σ 9 t150 fun t151 =>
 ((lock loadD prog σ 39 t147 fun t148 =>
 ((callD env put5_j7 [t148] σ (fun t149 σ36 =>
 (lock binD prog .add 9 t149 t151 fun t152 =>
 (retV (t152) σ36 K))) (panV X)) ∧ True)) ∧ True)) ∧ True)))) ∧ ((lock loadD prog σ 9 t150 fun t151 =>
 ((lock loadD prog σ 35 t145 fun t146 =>
 (lock indexAddrD prog 35 t146 (.pv (.int .i64 0)) fun t147 =>
 ((lock loadD prog σ 39 t147 fun t148 =>
 ((callD env put5_j7 [t148] σ (fun t149 σ35 =>
 (lock binD prog .add 9 t149 t151 fun t152 =>
 (retV (t152) σ35 K))) (panV X)) ∧ True)) ∧ True))) ∧ True)) ∧ True))))
 (lock binD prog .eql 9 t9_j7 (.pv (.str [105, 110])) fun t154 =>
 (condD t154
 (lock fieldAddrD prog 39 n1_j7 2 fun t156 =>
 (lock fieldAddrD prog 39 n1_j7 1 fun t161 =>
 ((lock loadD prog σ 35 t156 fun t157 =>
 ((callD env list4_j7 [t157] σ (fun t158 σ41 =>
 (lock binD prog .add 9 (.pv (.str [40])) t158 fun t159 =>
 (lock binD prog .add 9 t159 (.pv (.str [41, 32, 105, 110, 32])) fun t160 =>
 ((lock loadD prog σ41 9 t161 fun t162 =>
 (lock binD prog .add 9 t160 t162 fun t163 =>
 (retV (t163) σ41 K))) ∧ True)))) (panV X)) ∧ ((lock loadD prog σ 9 t161 fun t162 =>
 ((callD env list4_j7 [t157] σ (fun t158 σ40 =>
 (lock binD prog .add 9 (.pv (.str [40])) t158 fun t159 =>
 (lock binD prog .add 9 t159 (.pv (.str [41, 32, 105, 110, 32])) fun t160 =>
 (lock binD prog .add 9 t160 t162 fun t163 =>
 (retV (t163) σ40 K))))) (panV X)) ∧ True)) ∧ True))) ∧ ((lock loadD prog σ 9 t161 fun t162 =>
 ((lock loadD prog σ 35 t156 fun t157 =>
 ((callD env list4_j7 [t157] σ (fun t158 σ39 =>
 (lock binD prog .add 9 (.pv (.str [40])) t158 fun t159 =>
 (lock binD prog .add 9 t159 (.pv (.str [41, 32, 105, 110, 32])) fun t160 =>
 (lock binD prog .add 9 t160 t162 fun t163 =>
 (retV (t163) σ39 K))))) (panV X)) ∧ True)) ∧ True)) ∧ True))))
 (retV ((.pv (.str []))) σ K))))))))))))))))))))))))))))))
theorem J20_7_eq (env : Env)  (n1_j7 in3_j7 list4_j7 put5_j7 t9_j7 t10_j7 : AV) (σ : AS) (K : AV → AS → Prop) (X : PV → AS → Prop) : J20_7 env  n1_j7 in3_j7 list4_j7 put5_j7 t9_j7 t10_j7 σ K X = wpD prog env an20 (subC (bodyC f20) [1, 1, 1, 1, 0, 1, 0, 1]) (contQ prog env an20 (bodyC f20) [1, 1, 1, 1, 0, 1, 0, 1] [] (rootQ prog f20 K X)) [(1, n1_j7), (3, in3_j7), (4, list4_j7), (5, put5_j7), (9, t9_j7), (10, t10_j7)] σ := by
  unfold J20_7
  kernel_rfl
def S20 (env : Env) (n0_a : AV) (σ : AS) (K : AV → AS → Prop) (X : PV → AS → Prop) : Prop :=
 (lock boxD σ n0_a fun t1 σ1 =>
 (lock fieldAddrD prog 39 t1 0 fun t8 =>
 (lock loadD prog σ1 9 t8 fun t9 =>
 (lock binD prog .eql 9 t9 (.pv (.str [110, 117, 109])) fun t11 =>
 (condD t11
 (J20_7 env  (t1) (.clo 35 [] [t1]) (.pv (.func 36)) (.pv (.func 37)) (t9) (t11) σ1 K X)
 (lock binD prog .eql 9 t9 (.pv (.str [118, 97, 114])) fun t12 =>
 (J20_7 env  (t1) (.clo 35 [] [t1]) (.pv (.func 36)) (.pv (.func 37)) (t9) (t12) σ1 K X)))))))
theorem S20_eq (env : Env) (n0_a : AV) (σ : AS) (K : AV → AS → Prop) (X : PV → AS → Prop) : S20 env n0_a σ K X = bodyD prog env an20 f20 [n0_a] σ K X := by
  unfold S20
  kernel_rfl
theorem S20_ok : (match f20.body with | some c => okCode an20 prog f20.ntmps c | none => false) = true := by kernel_rfl
/-! ### tedder/tedderlaw06.SyntaxShown (function 6) -/
def an6 : An := { mu := [], cut := [(8, [3]), (11, [3, 5])], loop := [], any := [11] }
def J6_11 (env : Env)  (l3_j11 m5_j11 : AV) (σ : AS) (K : AV → AS → Prop) (X : PV → AS → Prop) : Prop :=
 (lock indexAddrD prog 35 l3_j11 (.pv (.int .i64 0)) fun t85 =>
 (lock fieldAddrD prog 39 t85 2 fun t86 =>
 (lock indexAddrD prog 35 m5_j11 (.pv (.int .i64 0)) fun t93 =>
 (lock fieldAddrD prog 39 t93 2 fun t94 =>
 ((lock loadD prog σ 35 t86 fun t87 =>
 (lock indexAddrD prog 35 t87 (.pv (.int .i64 0)) fun t88 =>
 ((lock loadD prog σ 39 t88 fun t89 =>
 ((env 22 [t89] σ (fun t90 σ126 =>
 ((lock buildSliceD prog false σ126 35 1 1 [(0, t90)] fun t91 σ142 =>
 ((lock loadD prog σ142 35 t94 fun t95 =>
 (lock indexAddrD prog 35 t95 (.pv (.int .i64 0)) fun t96 =>
 ((lock loadD prog σ142 39 t96 fun t97 =>
 ((env 22 [t97] σ142 (fun t98 σ143 =>
 ((lock buildSliceD prog false σ143 35 1 1 [(0, t98)] fun t99 σ144 =>
 ((env 21 [t91, t99] σ144 (fun t100 σ145 =>
 (retV (t100) σ145 K)) (panV X)) ∧ True)) ∧ True)) (panV X)) ∧ True)) ∧ True))) ∧ True)) ∧ ((lock loadD prog σ126 35 t94 fun t95 =>
 (lock indexAddrD prog 35 t95 (.pv (.int .i64 0)) fun t96 =>
 ((lock buildSliceD prog false σ126 35 1 1 [(0, t90)] fun t91 σ138 =>
 ((lock loadD prog σ138 39 t96 fun t97 =>
 ((env 22 [t97] σ138 (fun t98 σ139 =>
 ((lock buildSliceD prog false σ139 35 1 1 [(0, t98)] fun t99 σ140 =>
 ((env 21 [t91, t99] σ140 (fun t100 σ141 =>
 (retV (t100) σ141 K)) (panV X)) ∧ True)) ∧ True)) (panV X)) ∧ True)) ∧ True)) ∧ ((lock loadD prog σ126 39 t96 fun t97 =>
 ((lock buildSliceD prog false σ126 35 1 1 [(0, t90)] fun t91 σ134 =>
 ((env 22 [t97] σ134 (fun t98 σ135 =>
 ((lock buildSliceD prog false σ135 35 1 1 [(0, t98)] fun t99 σ136 =>
 ((env 21 [t91, t99] σ136 (fun t100 σ137 =>
 (retV (t100) σ137 K)) (panV X)) ∧ True)) ∧ True)) (panV X)) ∧ True)) ∧ ((env 22 [t97] σ126 (fun t98 σ127 =>
 ((lock buildSliceD prog false σ127 35 1 1 [(0, t90)] fun t91 σ131 =>
 ((lock buildSliceD prog false σ131 35 1 1 [(0, t98)] fun t99 σ132 =>
 ((env 21 [t91, t99] σ132 (fun t100 σ133 =>
 (retV (t100) σ133 K)) (panV X)) ∧ True)) ∧ True)) ∧ ((lock buildSliceD prog false σ127 35 1 1 [(0, t98)] fun t99 σ128 =>
 ((lock buildSliceD prog false σ128 35 1 1 [(0, t90)] fun t91 σ129 =>
 ((env 21 [t91, t99] σ129 (fun t100 σ130 =>
 (retV (t100) σ130 K)) (panV X)) ∧ True)) ∧ True)) ∧ True))) (panV X)) ∧ True))) ∧ True)))) ∧ True))) (panV X)) ∧ ((lock loadD prog σ 35 t94 fun t95 =>
 (lock indexAddrD prog 35 t95 (.pv (.int .i64 0)) fun t96 =>
 ((env 22 [t89] σ (fun t90 σ110 =>
 ((lock buildSliceD prog false σ110 35 1 1 [(0, t90)] fun t91 σ122 =>
 ((lock loadD prog σ122 39 t96 fun t97 =>
 ((env 22 [t97] σ122 (fun t98 σ123 =>
 ((lock buildSliceD prog false σ123 35 1 1 [(0, t98)] fun t99 σ124 =>
 ((env 21 [t91, t99] σ124 (fun t100 σ125 =>
 (retV (t100) σ125 K)) (panV X)) ∧ True)) ∧ True)) (panV X)) ∧ True)) ∧ True)) ∧ ((lock loadD prog σ110 39 t96 fun t97 =>
 ((lock buildSliceD prog false σ110 35 1 1 [(0, t90)] fun t91 σ118 =>
 ((env 22 [t97] σ118 (fun t98 σ119 =>
 ((lock buildSliceD prog false σ119 35 1 1 [(0, t98)] fun t99 σ120 =>
 ((env 21 [t91, t99] σ120 (fun t100 σ121 =>
 (retV (t100) σ121 K)) (panV X)) ∧ True)) ∧ True)) (panV X)) ∧ True)) ∧ ((env 22 [t97] σ110 (fun t98 σ111 =>
 ((lock buildSliceD prog false σ111 35 1 1 [(0, t90)] fun t91 σ115 =>
 ((lock buildSliceD prog false σ115 35 1 1 [(0, t98)] fun t99 σ116 =>
 ((env 21 [t91, t99] σ116 (fun t100 σ117 =>
 (retV (t100) σ117 K)) (panV X)) ∧ True)) ∧ True)) ∧ ((lock buildSliceD prog false σ111 35 1 1 [(0, t98)] fun t99 σ112 =>
 ((lock buildSliceD prog false σ112 35 1 1 [(0, t90)] fun t91 σ113 =>
 ((env 21 [t91, t99] σ113 (fun t100 σ114 =>
 (retV (t100) σ114 K)) (panV X)) ∧ True)) ∧ True)) ∧ True))) (panV X)) ∧ True))) ∧ True))) (panV X)) ∧ ((lock loadD prog σ 39 t96 fun t97 =>
 ((env 22 [t89] σ (fun t90 σ98 =>
 ((lock buildSliceD prog false σ98 35 1 1 [(0, t90)] fun t91 σ106 =>
 ((env 22 [t97] σ106 (fun t98 σ107 =>
 ((lock buildSliceD prog false σ107 35 1 1 [(0, t98)] fun t99 σ108 =>
 ((env 21 [t91, t99] σ108 (fun t100 σ109 =>
 (retV (t100) σ109 K)) (panV X)) ∧ True)) ∧ True)) (panV X)) ∧ True)) ∧ ((env 22 [t97] σ98 (fun t98 σ99 =>
 ((lock buildSliceD prog false σ99 35 1 1 [(0, t90)] fun t91 σ103 =>
 ((lock buildSliceD prog false σ103 35 1 1 [(0, t98)] fun t99 σ104 =>
 ((env 21 [t91, t99] σ104 (fun t100 σ105 =>
 (retV (t100) σ105 K)) (panV X)) ∧ True)) ∧ True)) ∧ ((lock buildSliceD prog false σ99 35 1 1 [(0, t98)] fun t99 σ100 =>
 ((lock buildSliceD prog false σ100 35 1 1 [(0, t90)] fun t91 σ101 =>
 ((env 21 [t91, t99] σ101 (fun t100 σ102 =>
 (retV (t100) σ102 K)) (panV X)) ∧ True)) ∧ True)) ∧ True))) (panV X)) ∧ True))) (panV X)) ∧ True)) ∧ True)))) ∧ True))) ∧ ((lock loadD prog σ 35 t94 fun t95 =>
 (lock indexAddrD prog 35 t95 (.pv (.int .i64 0)) fun t96 =>
 ((lock loadD prog σ 39 t88 fun t89 =>
 ((env 22 [t89] σ (fun t90 σ82 =>
 ((lock buildSliceD prog false σ82 35 1 1 [(0, t90)] fun t91 σ94 =>
 ((lock loadD prog σ94 39 t96 fun t97 =>
 ((env 22 [t97] σ94 (fun t98 σ95 =>
 ((lock buildSliceD prog false σ95 35 1 1 [(0, t98)] fun t99 σ96 =>
 ((env 21 [t91, t99] σ96 (fun t100 σ97 =>
 (retV (t100) σ97 K)) (panV X)) ∧ True)) ∧ True)) (panV X)) ∧ True)) ∧ True)) ∧ ((lock loadD prog σ82 39 t96 fun t97 =>
 ((lock buildSliceD prog false σ82 35 1 1 [(0, t90)] fun t91 σ90 =>
 ((env 22 [t97] σ90 (fun t98 σ91 =>
 ((lock buildSliceD prog false σ91 35 1 1 [(0, t98)] fun t99 σ92 =>
 ((env 21 [t91, t99] σ92 (fun t100 σ93 =>
 (retV (t100) σ93 K)) (panV X)) ∧ True)) ∧ True)) (panV X)) ∧ True)) ∧ ((env 22 [t97] σ82 (fun t98 σ83 =>
 ((lock buildSliceD prog false σ83 35 1 1 [(0, t90)] fun t91 σ87 =>
 ((lock buildSliceD prog false σ87 35 1 1 [(0, t98)] fun t99 σ88 =>
 ((env 21 [t91, t99] σ88 (fun t100 σ89 =>
 (retV (t100) σ89 K)) (panV X)) ∧ True)) ∧ True)) ∧ ((lock buildSliceD prog false σ83 35 1 1 [(0, t98)] fun t99 σ84 =>
 ((lock buildSliceD prog false σ84 35 1 1 [(0, t90)] fun t91 σ85 =>
 ((env 21 [t91, t99] σ85 (fun t100 σ86 =>
 (retV (t100) σ86 K)) (panV X)) ∧ True)) ∧ True)) ∧ True))) (panV X)) ∧ True))) ∧ True))) (panV X)) ∧ ((lock loadD prog σ 39 t96 fun t97 =>
 ((env 22 [t89] σ (fun t90 σ70 =>
 ((lock buildSliceD prog false σ70 35 1 1 [(0, t90)] fun t91 σ78 =>
 ((env 22 [t97] σ78 (fun t98 σ79 =>
 ((lock buildSliceD prog false σ79 35 1 1 [(0, t98)] fun t99 σ80 =>
 ((env 21 [t91, t99] σ80 (fun t100 σ81 =>
 (retV (t100) σ81 K)) (panV X)) ∧ True)) ∧ True)) (panV X)) ∧ True)) ∧ ((env 22 [t97] σ70 (fun t98 σ71 =>
 ((lock buildSliceD prog false σ71 35 1 1 [(0, t90)] fun t91 σ75 =>
 ((lock buildSliceD prog false σ75 35 1 1 [(0, t98)] fun t99 σ76 =>
 ((env 21 [t91, t99] σ76 (fun t100 σ77 =>
 (retV (t100) σ77 K)) (panV X)) ∧ True)) ∧ True)) ∧ ((lock buildSliceD prog false σ71 35 1 1 [(0, t98)] fun t99 σ72 =>
 ((lock buildSliceD prog false σ72 35 1 1 [(0, t90)] fun t91 σ73 =>
 ((env 21 [t91, t99] σ73 (fun t100 σ74 =>
 (retV (t100) σ74 K)) (panV X)) ∧ True)) ∧ True)) ∧ True))) (panV X)) ∧ True))) (panV X)) ∧ True)) ∧ True))) ∧ ((lock loadD prog σ 39 t96 fun t97 =>
 ((lock loadD prog σ 39 t88 fun t89 =>
 ((env 22 [t89] σ (fun t90 σ58 =>
 ((lock buildSliceD prog false σ58 35 1 1 [(0, t90)] fun t91 σ66 =>
 ((env 22 [t97] σ66 (fun t98 σ67 =>
 ((lock buildSliceD prog false σ67 35 1 1 [(0, t98)] fun t99 σ68 =>
 ((env 21 [t91, t99] σ68 (fun t100 σ69 =>
 (retV (t100) σ69 K)) (panV X)) ∧ True)) ∧ True)) (panV X)) ∧ True)) ∧ ((env 22 [t97] σ58 (fun t98 σ59 =>
 ((lock buildSliceD prog false σ59 35 1 1 [(0, t90)] fun t91 σ63 =>
 ((lock buildSliceD prog false σ63 35 1 1 [(0, t98)] fun t99 σ64 =>
 ((env 21 [t91, t99] σ64 (fun t100 σ65 =>
 (retV (t100) σ65 K)) (panV X)) ∧ True)) ∧ True)) ∧ ((lock buildSliceD prog false σ59 35 1 1 [(0, t98)] fun t99 σ60 =>
 ((lock buildSliceD prog false σ60 35 1 1 [(0, t90)] fun t91 σ61 =>
 ((env 21 [t91, t99] σ61 (fun t100 σ62 =>
 (retV (t100) σ62 K)) (panV X)) ∧ True)) ∧ True)) ∧ True))) (panV X)) ∧ True))) (panV X)) ∧ True)) ∧ True)) ∧ True)))) ∧ True)))) ∧ ((lock loadD prog σ 35 t94 fun t95 =>
 (lock indexAddrD prog 35 t95 (.pv (.int .i64 0)) fun t96 =>
 ((lock loadD prog σ 35 t86 fun t87 =>
 (lock indexAddrD prog 35 t87 (.pv (.int .i64 0)) fun t88 =>
 ((lock loadD prog σ 39 t88 fun t89 =>
 ((env 22 [t89] σ (fun t90 σ42 =>
 ((lock buildSliceD prog false σ42 35 1 1 [(0, t90)] fun t91 σ54 =>
 ((lock loadD prog σ54 39 t96 fun t97 =>
 ((env 22 [t97] σ54 (fun t98 σ55 =>
 ((lock buildSliceD prog false σ55 35 1 1 [(0, t98)] fun t99 σ56 =>
 ((env 21 [t91, t99] σ56 (fun t100 σ57 =>
 (retV (t100) σ57 K)) (panV X)) ∧ True)) ∧ True)) (panV X)) ∧ True)) ∧ True)) ∧ ((lock loadD prog σ42 39 t96 fun t97 =>
 ((lock buildSliceD prog false σ42 35 1 1 [(0, t90)] fun t91 σ50 =>
 ((env 22 [t97] σ50 (fun t98 σ51 =>
 ((lock buildSliceD prog false σ51 35 1 1 [(0, t98)] fun t99 σ52 =>
 ((env 21 [t91, t99] σ52 (fun t100 σ53 =>
 (retV (t100) σ53 K)) (panV X)) ∧ True)) ∧ True)) (panV X)) ∧ True)) ∧ ((env 22 [t97] σ42 (fun t98 σ43 =>
 ((lock buildSliceD prog false σ43 35 1 1 [(0, t90)] fun t91 σ47 =>
 ((lock buildSliceD prog false σ47 35 1 1 [(0, t98)] fun t99 σ48 =>
 ((env 21 [t91, t99] σ48 (fun t100 σ49 =>
 (retV (t100) σ49 K)) (panV X)) ∧ True)) ∧ True)) ∧ ((lock buildSliceD prog false σ43 35 1 1 [(0, t98)] fun t99 σ44 =>
 ((lock buildSliceD prog false σ44 35 1 1 [(0, t90)] fun t91 σ45 =>
 ((env 21 [t91, t99] σ45 (fun t100 σ46 =>
 (retV (t100) σ46 K)) (panV X)) ∧ True)) ∧ True)) ∧ True))) (panV X)) ∧ True))) ∧ True))) (panV X)) ∧ ((lock loadD prog σ 39 t96 fun t97 =>
 ((env 22 [t89] σ (fun t90 σ30 =>
 ((lock buildSliceD prog false σ30 35 1 1 [(0, t90)] fun t91 σ38 =>
 ((env 22 [t97] σ38 (fun t98 σ39 =>
 ((lock buildSliceD prog false σ39 35 1 1 [(0, t98)] fun t99 σ40 =>
 ((env 21 [t91, t99] σ40 (fun t100 σ41 =>
 (retV (t100) σ41 K)) (panV X)) ∧ True)) ∧ True)) (panV X)) ∧ True)) ∧ ((env 22 [t97] σ30 (fun t98 σ31 =>
 ((lock buildSliceD prog false σ31 35 1 1 [(0, t90)] fun t91 σ35 =>
 ((lock buildSliceD prog false σ35 35 1 1 [(0, t98)] fun t99 σ36 =>
 ((env 21 [t91, t99] σ36 (fun t100 σ37 =>
 (retV (t100) σ37 K)) (panV X)) ∧ True)) ∧ True)) ∧ ((lock buildSliceD prog false σ31 35 1 1 [(0, t98)] fun t99 σ32 =>
 ((lock buildSliceD prog false σ32 35 1 1 [(0, t90)] fun t91 σ33 =>
 ((env 21 [t91, t99] σ33 (fun t100 σ34 =>
 (retV (t100) σ34 K)) (panV X)) ∧ True)) ∧ True)) ∧ True))) (panV X)) ∧ True))) (panV X)) ∧ True)) ∧ True))) ∧ ((lock loadD prog σ 39 t96 fun t97 =>
 ((lock loadD prog σ 39 t88 fun t89 =>
 ((env 22 [t89] σ (fun t90 σ18 =>
 ((lock buildSliceD prog false σ18 35 1 1 [(0, t90)] fun t91 σ26 =>
 ((env 22 [t97] σ26 (fun t98 σ27 =>
 ((lock buildSliceD prog false σ27 35 1 1 [(0, t98)] fun t99 σ28 =>
 ((env 21 [t91, t99] σ28 (fun t100 σ29 =>
 (retV (t100) σ29 K)) (panV X)) ∧ True)) ∧ True)) (panV X)) ∧ True)) ∧ ((env 22 [t97] σ18 (fun t98 σ19 =>
 ((lock buildSliceD prog false σ19 35 1 1 [(0, t90)] fun t91 σ23 =>
 ((lock buildSliceD prog false σ23 35 1 1 [(0, t98)] fun t99 σ24 =>
 ((env 21 [t91, t99] σ24 (fun t100 σ25 =>
 (retV (t100) σ25 K)) (panV X)) ∧ True)) ∧ True)) ∧ ((lock buildSliceD prog false σ19 35 1 1 [(0, t98)] fun t99 σ20 =>
 ((lock buildSliceD prog false σ20 35 1 1 [(0, t90)] fun t91 σ21 =>
 ((env 21 [t91, t99] σ21 (fun t100 σ22 =>
 (retV (t100) σ22 K)) (panV X)) ∧ True)) ∧ True)) ∧ True))) (panV X)) ∧ True))) (panV X)) ∧ True)) ∧ True)) ∧ True)))) ∧ ((lock loadD prog σ 39 t96 fun t97 =>
 ((lock loadD prog σ 35 t86 fun t87 =>
 (lock indexAddrD prog 35 t87 (.pv (.int .i64 0)) fun t88 =>
 ((lock loadD prog σ 39 t88 fun t89 =>
 ((env 22 [t89] σ (fun t90 σ6 =>
 ((lock buildSliceD prog false σ6 35 1 1 [(0, t90)] fun t91 σ14 =>
 ((env 22 [t97] σ14 (fun t98 σ15 =>
 ((lock buildSliceD prog false σ15 35 1 1 [(0, t98)] fun t99 σ16 =>
 ((env 21 [t91, t99] σ16 (fun t100 σ17 =>
 (retV (t100) σ17 K)) (panV X)) ∧ True)) ∧ True)) (panV X)) ∧ True)) ∧ ((env 22 [t97] σ6 (fun t98 σ7 =>
 ((lock buildSliceD prog false σ7 35 1 1 [(0, t90)] fun t91 σ11 =>
 ((lock buildSliceD prog false σ11 35 1 1 [(0, t98)] fun t99 σ12 =>
 ((env 21 [t91, t99] σ12 (fun t100 σ13 =>
 (retV (t100) σ13 K)) (panV X)) ∧ True)) ∧ True)) ∧ ((lock buildSliceD prog false σ7 35 1 1 [(0, t98)] fun t99 σ8 =>
 ((lock buildSliceD prog false σ8 35 1 1 [(0, t90)] fun t91 σ9 =>
 ((env 21 [t91, t99] σ9 (fun t100 σ10 =>
 (retV (t100) σ10 K)) (panV X)) ∧ True)) ∧ True)) ∧ True))) (panV X)) ∧ True))) (panV X)) ∧ True)) ∧ True))) ∧ True)) ∧ True)))) ∧ True))))))
theorem J6_11_eq (env : Env)  (l3_j11 m5_j11 : AV) (σ : AS) (K : AV → AS → Prop) (X : PV → AS → Prop) : J6_11 env  l3_j11 m5_j11 σ K X = wpD prog env an6 (subC (bodyC f6) [1, 1, 1, 1, 1, 1, 1]) (contQ prog env an6 (bodyC f6) [1, 1, 1, 1, 1, 1, 1] [] (rootQ prog f6 K X)) [(3, l3_j11), (5, m5_j11)] σ := by
  unfold J6_11
  kernel_rfl
def J6_8 (env : Env)  (l3_j8 : AV) (σ : AS) (K : AV → AS → Prop) (X : PV → AS → Prop) : Prop :=
 (lock indexAddrD prog 35 l3_j8 (.pv (.int .i64 0)) fun t60 =>
 (lock fieldAddrD prog 39 t60 2 fun t61 =>
 (lock loadD prog σ 35 t61 fun t62 =>
 (lock indexAddrD prog 35 t62 (.pv (.int .i64 0)) fun t63 =>
 (lock loadD prog σ 39 t63 fun t64 =>
 (env 20 [t64] σ (fun t65 σ4 =>
 (lock binD prog .add 9 t65 (.pv (.str [10])) fun t66 =>
 (env 18 [t66] σ4 (fun t67 σ5 =>
 (lock extractD t67 0 fun t68 =>
 (lock extractD t67 1 fun t69 =>
 (unD .not t69 fun t71 =>
 (guardD t71 false
 (lock lenD prog 35 t68 fun t74 =>
 (lock binD prog .neq 3 t74 (.pv (.int .i64 1)) fun t75 =>
 (guardD t75 false
 (lock indexAddrD prog 35 t68 (.pv (.int .i64 0)) fun t79 =>
 (lock fieldAddrD prog 39 t79 0 fun t80 =>
 (lock loadD prog σ5 9 t80 fun t81 =>
 (lock binD prog .neq 9 t81 (.pv (.str [114, 117, 108, 101])) fun t82 =>
 (condD t82
 (retV ((.pv (.bool false))) σ5 K)
 (J6_11 env  (l3_j8) (t68) σ5 K X))))))
 (retV ((.pv (.bool false))) σ5 K))))
 (retV ((.pv (.bool false))) σ5 K)))))) (panV X)))) (panV X)))))))
theorem J6_8_eq (env : Env)  (l3_j8 : AV) (σ : AS) (K : AV → AS → Prop) (X : PV → AS → Prop) : J6_8 env  l3_j8 σ K X = wpD prog env an6 (subC (bodyC f6) [1, 1, 1, 1, 1]) (contQ prog env an6 (bodyC f6) [1, 1, 1, 1, 1] [] (rootQ prog f6 K X)) [(3, l3_j8)] σ := by
  unfold J6_8
  kernel_rfl
def S6 (env : Env) (s0_a : AV) (σ : AS) (K : AV → AS → Prop) (X : PV → AS → Prop) : Prop :=
 (env 17 [] σ (fun t7 σ1 =>
 (unD .not t7 fun t8 =>
 (condD t8
 (retV ((.pv (.bool false))) σ1 K)
 (lock lenD prog 9 s0_a fun t10 =>
 (lock binD prog .gtr 3 t10 (.pv (.int .i64 1000)) fun t11 =>
 (condD t11
 (retV ((.pv (.bool true))) σ1 K)
 (env 18 [s0_a] σ1 (fun t14 σ2 =>
 (lock extractD t14 0 fun t15 =>
 (lock extractD t14 1 fun t16 =>
 (unD .not t16 fun t18 =>
 (guardD t18 false
 (lock lenD prog 35 t15 fun t21 =>
 (lock binD prog .neq 3 t21 (.pv (.int .i64 1)) fun t22 =>
 (guardD t22 false
 (lock indexAddrD prog 35 t15 (.pv (.int .i64 0)) fun t26 =>
 (lock fieldAddrD prog 39 t26 0 fun t27 =>
 (lock loadD prog σ2 9 t27 fun t28 =>
 (lock binD prog .neq 9 t28 (.pv (.str [114, 117, 108, 101])) fun t29 =>
 (guardD t29 false
 (lock indexAddrD prog 35 t15 (.pv (.int .i64 0)) fun t33 =>
 (lock fieldAddrD prog 39 t33 2 fun t34 =>
 (lock loadD prog σ2 35 t34 fun t35 =>
 (lock indexAddrD prog 35 t35 (.pv (.int .i64 1)) fun t36 =>
 (lock fieldAddrD prog 39 t36 0 fun t37 =>
 (lock loadD prog σ2 9 t37 fun t38 =>
 (lock binD prog .neq 9 t38 (.pv (.str [110, 111, 110, 101])) fun t39 =>
 (guardD t39 false
 (lock indexAddrD prog 35 t15 (.pv (.int .i64 0)) fun t43 =>
 (lock fieldAddrD prog 39 t43 2 fun t44 =>
 (lock loadD prog σ2 35 t44 fun t45 =>
 (lock indexAddrD prog 35 t45 (.pv (.int .i64 0)) fun t46 =>
 (lock fieldAddrD prog 39 t46 0 fun t47 =>
 (lock loadD prog σ2 9 t47 fun t48 =>
 (lock binD prog .eql 9 t48 (.pv (.str [110, 111, 110, 101])) fun t49 =>
 (guardD t49 false
 (lock indexAddrD prog 35 t15 (.pv (.int .i64 0)) fun t53 =>
 (lock loadD prog σ2 39 t53 fun t54 =>
 (env 19 [t54] σ2 (fun t55 σ3 =>
 (lock binD prog .gtr 3 t55 (.pv (.int .i64 60)) fun t56 =>
 (condD t56
 (retV ((.pv (.bool true))) σ3 K)
 (J6_8 env  (t15) σ3 K X)))) (panV X))))
 (retV ((.pv (.bool true))) σ2 K)))))))))
 (retV ((.pv (.bool true))) σ2 K)))))))))
 (retV ((.pv (.bool true))) σ2 K))))))
 (retV ((.pv (.bool true))) σ2 K))))
 (retV ((.pv (.bool true))) σ2 K)))))) (panV X)))))))) (panV X))
theorem S6_eq (env : Env) (s0_a : AV) (σ : AS) (K : AV → AS → Prop) (X : PV → AS → Prop) : S6 env s0_a σ K X = bodyD prog env an6 f6 [s0_a] σ K X := by
  unfold S6
  kernel_rfl
theorem S6_ok : (match f6.body with | some c => okCode an6 prog f6.ntmps c | none => false) = true := by kernel_rfl
end Go.AD
