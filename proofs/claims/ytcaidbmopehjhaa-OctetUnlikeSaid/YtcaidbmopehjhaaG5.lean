/- Bodies in the calculus' own words. Printed by gen.py, a program of this claim's own. -/
import Derived.Test.YtcaidbmopehjhaaTy
set_option linter.unusedVariables false
set_option maxRecDepth 100000
namespace Go.AD
/-! ### tedder/octet.Upper$1 (function 49) -/
def an49 : An := { mu := [], cut := [], loop := [] }
def S49 (env : Env) (c0_a : AV) (σ : AS) (K : AV → AS → Prop) (X : PV → AS → Prop) : Prop :=
 (binD Go.Proofs.Try.prog .leq 5 (.pv (.int .u8 97)) c0_a fun t4 =>
 (guardD t4 true
 (binD Go.Proofs.Try.prog .leq 5 c0_a (.pv (.int .u8 122)) fun t7 =>
 (condD t7
 (binD Go.Proofs.Try.prog .sub 5 c0_a (.pv (.int .u8 32)) fun t10 =>
 (retV (t10) σ K))
 (retV (c0_a) σ K)))
 (retV (c0_a) σ K)))
theorem S49_eq (env : Env) (c0_a : AV) (σ : AS) (K : AV → AS → Prop) (X : PV → AS → Prop) : S49 env c0_a σ K X = bodyD Go.Proofs.Try.prog env an49 Go.Proofs.Try.f49 [c0_a] σ K X := by
  unfold S49
  kernel_rfl
theorem S49_ok : (match Go.Proofs.Try.f49.body with | some c => okCode an49 Go.Proofs.Try.prog Go.Proofs.Try.f49.ntmps c | none => false) = true := by kernel_rfl
/-! ### tedder/octet.Lower$1 (function 50) -/
def an50 : An := { mu := [], cut := [], loop := [] }
def S50 (env : Env) (c0_a : AV) (σ : AS) (K : AV → AS → Prop) (X : PV → AS → Prop) : Prop :=
 (binD Go.Proofs.Try.prog .leq 5 (.pv (.int .u8 65)) c0_a fun t4 =>
 (guardD t4 true
 (binD Go.Proofs.Try.prog .leq 5 c0_a (.pv (.int .u8 90)) fun t7 =>
 (condD t7
 (binD Go.Proofs.Try.prog .add 5 c0_a (.pv (.int .u8 32)) fun t10 =>
 (retV (t10) σ K))
 (retV (c0_a) σ K)))
 (retV (c0_a) σ K)))
theorem S50_eq (env : Env) (c0_a : AV) (σ : AS) (K : AV → AS → Prop) (X : PV → AS → Prop) : S50 env c0_a σ K X = bodyD Go.Proofs.Try.prog env an50 Go.Proofs.Try.f50 [c0_a] σ K X := by
  unfold S50
  kernel_rfl
theorem S50_ok : (match Go.Proofs.Try.f50.body with | some c => okCode an50 Go.Proofs.Try.prog Go.Proofs.Try.f50.ntmps c | none => false) = true := by kernel_rfl
/-! ### tedder/octet.each (function 48) -/
def an48 : An := { mu := [9], cut := [], loop := [(3, [1, 5, 10, 11, 12])] }
def L48_3 (env : Env) (I3 : Nat → List AV → AS → Prop) (m3 : Nat) (do1_l3 b5_l3 t10_l3 t11_l3 t12_l3 : AV) (σ : AS) (K : AV → AS → Prop) (X : PV → AS → Prop) : Prop :=
 (binD Go.Proofs.Try.prog .lss 3 t12_l3 t11_l3 fun t13 =>
 (condD t13
 (indexAddrD Go.Proofs.Try.prog 45 t10_l3 t12_l3 fun t15 =>
 (loadD Go.Proofs.Try.prog σ 5 t15 fun t16 =>
 (callD env do1_l3 [t16] σ (fun t21 σ3 =>
 (indexAddrD Go.Proofs.Try.prog 45 b5_l3 t12_l3 fun t22 =>
 (storeD Go.Proofs.Try.prog σ3 5 t22 t21 fun σ4 =>
 (binD Go.Proofs.Try.prog .add 3 t12_l3 (.pv (.int .i64 1)) fun t23 =>
 (∃ m', m' < m3 ∧ I3 m' [do1_l3, b5_l3, t10_l3, t11_l3, t23] σ4))))) (panV X))))
 (convD Go.Proofs.Try.prog σ 45 9 b5_l3 fun t25 =>
 (retV (t25) σ K))))
theorem L48_3_eq (env : Env) (I3 : Nat → List AV → AS → Prop) (m3 : Nat) (do1_l3 b5_l3 t10_l3 t11_l3 t12_l3 : AV) (σ : AS) (K : AV → AS → Prop) (X : PV → AS → Prop) : L48_3 env I3 m3 do1_l3 b5_l3 t10_l3 t11_l3 t12_l3 σ K X = wpD Go.Proofs.Try.prog env an48 (subC (bodyC Go.Proofs.Try.f48) [1, 1, 0, 1, 0, 0]) (contQ Go.Proofs.Try.prog env an48 (bodyC Go.Proofs.Try.f48) [1, 1, 0, 1, 0, 0] [(I3, m3)] (rootQ Go.Proofs.Try.prog Go.Proofs.Try.f48 K X)) [(1, do1_l3), (5, b5_l3), (10, t10_l3), (11, t11_l3), (12, t12_l3)] σ := by
  unfold L48_3
  kernel_rfl
theorem lp48_3 {α : Type} {env : Env}  {do1_l3 b5_l3 t10_l3 t11_l3 : AV} {σ : AS} {K : AV → AS → Prop} {X : PV → AS → Prop} (μ : α → AS → Nat) (I : α → AS → Prop) (et12_l3 : α → AV) (a0 : α) (h0 : I a0 σ)
 (h : ∀ a σ, I a σ → L48_3 env  (Inv (fun a => [do1_l3, b5_l3, t10_l3, t11_l3, et12_l3 a]) μ I) (μ a σ) do1_l3 b5_l3 t10_l3 t11_l3 (et12_l3 a) σ K X) :
 ∃ I3 : Nat → List AV → AS → Prop, (∃ m, I3 m [do1_l3, b5_l3, t10_l3, t11_l3, et12_l3 a0] σ) ∧ ∀ (m : Nat) (x0 x1 x2 x3 x4 : AV), ∀ σ, I3 m [x0, x1, x2, x3, x4] σ →
 L48_3 env  I3 m x0 x1 x2 x3 x4 σ K X := by
  refine ⟨Inv (fun a => [do1_l3, b5_l3, t10_l3, t11_l3, et12_l3 a]) μ I, ⟨_, a0, rfl, rfl, h0⟩, ?_⟩
  rintro m x0 x1 x2 x3 x4 σ' ⟨a, hv, rfl, hI⟩
  simp only [List.cons.injEq, and_true] at hv
  obtain ⟨rfl, rfl, rfl, rfl, rfl⟩ := hv
  exact h a σ' hI
def S48 (env : Env) (s0_a do1_a : AV) (σ : AS) (K : AV → AS → Prop) (X : PV → AS → Prop) : Prop :=
 (bytesD Go.Proofs.Try.prog true σ 9 45 s0_a fun t9 σ1 =>
 (lenD Go.Proofs.Try.prog 45 t9 fun t11 =>
 (∃ I3 : Nat → List AV → AS → Prop, (∃ m, I3 m [do1_a, t9, t9, t11, (.pv (.int .i64 0))] σ1) ∧ ∀ (m3 : Nat) (do1_l3 b5_l3 t10_l3 t11_l3 t12_l3 : AV), ∀ σ2, I3 m3 [do1_l3, b5_l3, t10_l3, t11_l3, t12_l3] σ2 →
 (L48_3 env I3 m3 do1_l3 b5_l3 t10_l3 t11_l3 t12_l3 σ2 K X))))
theorem S48_eq (env : Env) (s0_a do1_a : AV) (σ : AS) (K : AV → AS → Prop) (X : PV → AS → Prop) : S48 env s0_a do1_a σ K X = bodyD Go.Proofs.Try.prog env an48 Go.Proofs.Try.f48 [s0_a, do1_a] σ K X := by
  unfold S48
  simp only [L48_3_eq]
  kernel_rfl
theorem S48_ok : (match Go.Proofs.Try.f48.body with | some c => okCode an48 Go.Proofs.Try.prog Go.Proofs.Try.f48.ntmps c | none => false) = true := by kernel_rfl
/-! ### tedder/octet.Upper (function 27) -/
def an27 : An := { mu := [], cut := [], loop := [] }
def S27 (env : Env) (s0_a : AV) (σ : AS) (K : AV → AS → Prop) (X : PV → AS → Prop) : Prop :=
 (env 48 [s0_a, (.pv (.func 49))] σ (fun t4 σ1 =>
 (retV (t4) σ1 K)) (panV X))
theorem S27_eq (env : Env) (s0_a : AV) (σ : AS) (K : AV → AS → Prop) (X : PV → AS → Prop) : S27 env s0_a σ K X = bodyD Go.Proofs.Try.prog env an27 Go.Proofs.Try.f27 [s0_a] σ K X := by
  unfold S27
  kernel_rfl
theorem S27_ok : (match Go.Proofs.Try.f27.body with | some c => okCode an27 Go.Proofs.Try.prog Go.Proofs.Try.f27.ntmps c | none => false) = true := by kernel_rfl
/-! ### tedder/octet.Lower (function 29) -/
def an29 : An := { mu := [], cut := [], loop := [] }
def S29 (env : Env) (s0_a : AV) (σ : AS) (K : AV → AS → Prop) (X : PV → AS → Prop) : Prop :=
 (env 48 [s0_a, (.pv (.func 50))] σ (fun t4 σ1 =>
 (retV (t4) σ1 K)) (panV X))
theorem S29_eq (env : Env) (s0_a : AV) (σ : AS) (K : AV → AS → Prop) (X : PV → AS → Prop) : S29 env s0_a σ K X = bodyD Go.Proofs.Try.prog env an29 Go.Proofs.Try.f29 [s0_a] σ K X := by
  unfold S29
  kernel_rfl
theorem S29_ok : (match Go.Proofs.Try.f29.body with | some c => okCode an29 Go.Proofs.Try.prog Go.Proofs.Try.f29.ntmps c | none => false) = true := by kernel_rfl
/-! ### tedder/octet.Show (function 20) -/
def an20 : An := { mu := [], cut := [(11, [0, 3, 4, 5, 6, 9]), (14, [0, 3, 4, 5, 9, 41]), (17, [0, 3, 4, 5, 9, 52])], loop := [(3, [0, 3, 9]), (7, [0, 3, 4, 9, 24, 25])] }
def L20_7 (env : Env) (I3 : Nat → List AV → AS → Prop) (m3 : Nat) (I7 : Nat → List AV → AS → Prop) (m7 : Nat) (s0_l7 b3_l7 i4_l7 t9_l7 t24_l7 t25_l7 : AV) (σ : AS) (K : AV → AS → Prop) (X : PV → AS → Prop) : Prop :=
 (binD Go.Proofs.Try.prog .lss 3 t25_l7 t24_l7 fun t26 =>
 (condD t26
 (binD Go.Proofs.Try.prog .add 3 i4_l7 t25_l7 fun t31 =>
 (indexD Go.Proofs.Try.prog 9 s0_l7 t31 fun t32 =>
 (env 35 [b3_l7, t32] σ (fun t33 σ14 =>
 (binD Go.Proofs.Try.prog .add 3 t25_l7 (.pv (.int .i64 1)) fun t34 =>
 (∃ m', m' < m7 ∧ I7 m' [s0_l7, b3_l7, i4_l7, t9_l7, t24_l7, t34] σ14))) (panV X))))
 (∃ m', m' < m3 ∧ I3 m' [s0_l7, b3_l7, t9_l7] σ)))
theorem L20_7_eq (env : Env) (I3 : Nat → List AV → AS → Prop) (m3 : Nat) (I7 : Nat → List AV → AS → Prop) (m7 : Nat) (s0_l7 b3_l7 i4_l7 t9_l7 t24_l7 t25_l7 : AV) (σ : AS) (K : AV → AS → Prop) (X : PV → AS → Prop) : L20_7 env I3 m3 I7 m7 s0_l7 b3_l7 i4_l7 t9_l7 t24_l7 t25_l7 σ K X = wpD Go.Proofs.Try.prog env an20 (subC (bodyC Go.Proofs.Try.f20) [1, 1, 0, 1, 0, 0, 1, 1, 0, 1, 1, 0, 1, 1, 1, 1, 1, 1, 1, 1, 1, 0, 0]) (contQ Go.Proofs.Try.prog env an20 (bodyC Go.Proofs.Try.f20) [1, 1, 0, 1, 0, 0, 1, 1, 0, 1, 1, 0, 1, 1, 1, 1, 1, 1, 1, 1, 1, 0, 0] [(I3, m3), (I7, m7)] (rootQ Go.Proofs.Try.prog Go.Proofs.Try.f20 K X)) [(0, s0_l7), (3, b3_l7), (4, i4_l7), (9, t9_l7), (24, t24_l7), (25, t25_l7)] σ := by
  unfold L20_7
  kernel_rfl
theorem lp20_7 {α : Type} {env : Env} {I3 : Nat → List AV → AS → Prop} {m3 : Nat} {s0_l7 b3_l7 i4_l7 t9_l7 t24_l7 : AV} {σ : AS} {K : AV → AS → Prop} {X : PV → AS → Prop} (μ : α → AS → Nat) (I : α → AS → Prop) (et25_l7 : α → AV) (a0 : α) (h0 : I a0 σ)
 (h : ∀ a σ, I a σ → L20_7 env I3 m3 (Inv (fun a => [s0_l7, b3_l7, i4_l7, t9_l7, t24_l7, et25_l7 a]) μ I) (μ a σ) s0_l7 b3_l7 i4_l7 t9_l7 t24_l7 (et25_l7 a) σ K X) :
 ∃ I7 : Nat → List AV → AS → Prop, (∃ m, I7 m [s0_l7, b3_l7, i4_l7, t9_l7, t24_l7, et25_l7 a0] σ) ∧ ∀ (m : Nat) (x0 x1 x2 x3 x4 x5 : AV), ∀ σ, I7 m [x0, x1, x2, x3, x4, x5] σ →
 L20_7 env I3 m3 I7 m x0 x1 x2 x3 x4 x5 σ K X := by
  refine ⟨Inv (fun a => [s0_l7, b3_l7, i4_l7, t9_l7, t24_l7, et25_l7 a]) μ I, ⟨_, a0, rfl, rfl, h0⟩, ?_⟩
  rintro m x0 x1 x2 x3 x4 x5 σ' ⟨a, hv, rfl, hI⟩
  simp only [List.cons.injEq, and_true] at hv
  obtain ⟨rfl, rfl, rfl, rfl, rfl, rfl⟩ := hv
  exact h a σ' hI
def J20_17 (env : Env) (I3 : Nat → List AV → AS → Prop) (m3 : Nat) (s0_j17 b3_j17 i4_j17 r5_j17 t9_j17 t52_j17 : AV) (σ : AS) (K : AV → AS → Prop) (X : PV → AS → Prop) : Prop :=
 (condD t52_j17
 (convD Go.Proofs.Try.prog σ 21 5 r5_j17 fun t60 =>
 (env 36 [b3_j17, t60] σ (fun t61 σ9 =>
 (∃ m', m' < m3 ∧ I3 m' [s0_j17, b3_j17, t9_j17] σ9)) (panV X)))
 (binD Go.Proofs.Try.prog .geq 21 r5_j17 (.pv (.int .i32 160)) fun t64 =>
 (condD t64
 (env 38 [r5_j17] σ (fun t66 σ10 =>
 (binD Go.Proofs.Try.prog .add 9 (.pv (.str [60, 85, 43])) t66 fun t67 =>
 (binD Go.Proofs.Try.prog .add 9 t67 (.pv (.str [62])) fun t68 =>
 (env 37 [b3_j17, t68] σ10 (fun t69 σ11 =>
 (∃ m', m' < m3 ∧ I3 m' [s0_j17, b3_j17, t9_j17] σ11)) (panV X))))) (panV X))
 (env 39 [r5_j17] σ (fun t24 σ12 =>
 (∃ I7 : Nat → List AV → AS → Prop, (∃ m, I7 m [s0_j17, b3_j17, i4_j17, t9_j17, t24, (.pv (.int .i64 0))] σ12) ∧ ∀ (m7 : Nat) (s0_l7 b3_l7 i4_l7 t9_l7 t24_l7 t25_l7 : AV), ∀ σ13, I7 m7 [s0_l7, b3_l7, i4_l7, t9_l7, t24_l7, t25_l7] σ13 →
 (L20_7 env I3 m3 I7 m7 s0_l7 b3_l7 i4_l7 t9_l7 t24_l7 t25_l7 σ13 K X))) (panV X)))))
theorem J20_17_eq (env : Env) (I3 : Nat → List AV → AS → Prop) (m3 : Nat) (s0_j17 b3_j17 i4_j17 r5_j17 t9_j17 t52_j17 : AV) (σ : AS) (K : AV → AS → Prop) (X : PV → AS → Prop) : J20_17 env I3 m3 s0_j17 b3_j17 i4_j17 r5_j17 t9_j17 t52_j17 σ K X = wpD Go.Proofs.Try.prog env an20 (subC (bodyC Go.Proofs.Try.f20) [1, 1, 0, 1, 0, 0, 1, 1, 0, 1, 1, 0, 1, 1, 1, 1, 1]) (contQ Go.Proofs.Try.prog env an20 (bodyC Go.Proofs.Try.f20) [1, 1, 0, 1, 0, 0, 1, 1, 0, 1, 1, 0, 1, 1, 1, 1, 1] [(I3, m3)] (rootQ Go.Proofs.Try.prog Go.Proofs.Try.f20 K X)) [(0, s0_j17), (3, b3_j17), (4, i4_j17), (5, r5_j17), (9, t9_j17), (52, t52_j17)] σ := by
  unfold J20_17
  simp only [L20_7_eq]
  kernel_rfl
def J20_14 (env : Env) (I3 : Nat → List AV → AS → Prop) (m3 : Nat) (s0_j14 b3_j14 i4_j14 r5_j14 t9_j14 t41_j14 : AV) (σ : AS) (K : AV → AS → Prop) (X : PV → AS → Prop) : Prop :=
 (condD t41_j14
 (env 36 [b3_j14, (.pv (.int .u8 92))] σ (fun t48 σ7 =>
 (convD Go.Proofs.Try.prog σ7 21 5 r5_j14 fun t50 =>
 (env 36 [b3_j14, t50] σ7 (fun t51 σ8 =>
 (∃ m', m' < m3 ∧ I3 m' [s0_j14, b3_j14, t9_j14] σ8)) (panV X)))) (panV X))
 (binD Go.Proofs.Try.prog .leq 21 (.pv (.int .i32 32)) r5_j14 fun t54 =>
 (guardD t54 true
 (binD Go.Proofs.Try.prog .leq 21 r5_j14 (.pv (.int .i32 126)) fun t57 =>
 (J20_17 env I3 m3 (s0_j14) (b3_j14) (i4_j14) (r5_j14) (t9_j14) (t57) σ K X))
 (J20_17 env I3 m3 (s0_j14) (b3_j14) (i4_j14) (r5_j14) (t9_j14) (.pv (.bool false)) σ K X))))
theorem J20_14_eq (env : Env) (I3 : Nat → List AV → AS → Prop) (m3 : Nat) (s0_j14 b3_j14 i4_j14 r5_j14 t9_j14 t41_j14 : AV) (σ : AS) (K : AV → AS → Prop) (X : PV → AS → Prop) : J20_14 env I3 m3 s0_j14 b3_j14 i4_j14 r5_j14 t9_j14 t41_j14 σ K X = wpD Go.Proofs.Try.prog env an20 (subC (bodyC Go.Proofs.Try.f20) [1, 1, 0, 1, 0, 0, 1, 1, 0, 1, 1, 0, 1, 1, 1]) (contQ Go.Proofs.Try.prog env an20 (bodyC Go.Proofs.Try.f20) [1, 1, 0, 1, 0, 0, 1, 1, 0, 1, 1, 0, 1, 1, 1] [(I3, m3)] (rootQ Go.Proofs.Try.prog Go.Proofs.Try.f20 K X)) [(0, s0_j14), (3, b3_j14), (4, i4_j14), (5, r5_j14), (9, t9_j14), (41, t41_j14)] σ := by
  unfold J20_14
  kernel_rfl
def J20_11 (env : Env) (I3 : Nat → List AV → AS → Prop) (m3 : Nat) (s0_j11 b3_j11 i4_j11 r5_j11 wrong6_j11 t9_j11 : AV) (σ : AS) (K : AV → AS → Prop) (X : PV → AS → Prop) : Prop :=
 (condD wrong6_j11
 (indexD Go.Proofs.Try.prog 9 s0_j11 i4_j11 fun t39 =>
 (env 35 [b3_j11, t39] σ (fun t40 σ6 =>
 (∃ m', m' < m3 ∧ I3 m' [s0_j11, b3_j11, t9_j11] σ6)) (panV X)))
 (binD Go.Proofs.Try.prog .eql 21 r5_j11 (.pv (.int .i32 34)) fun t43 =>
 (guardD t43 false
 (binD Go.Proofs.Try.prog .eql 21 r5_j11 (.pv (.int .i32 92)) fun t46 =>
 (J20_14 env I3 m3 (s0_j11) (b3_j11) (i4_j11) (r5_j11) (t9_j11) (t46) σ K X))
 (J20_14 env I3 m3 (s0_j11) (b3_j11) (i4_j11) (r5_j11) (t9_j11) (.pv (.bool true)) σ K X))))
theorem J20_11_eq (env : Env) (I3 : Nat → List AV → AS → Prop) (m3 : Nat) (s0_j11 b3_j11 i4_j11 r5_j11 wrong6_j11 t9_j11 : AV) (σ : AS) (K : AV → AS → Prop) (X : PV → AS → Prop) : J20_11 env I3 m3 s0_j11 b3_j11 i4_j11 r5_j11 wrong6_j11 t9_j11 σ K X = wpD Go.Proofs.Try.prog env an20 (subC (bodyC Go.Proofs.Try.f20) [1, 1, 0, 1, 0, 0, 1, 1, 0, 1, 1]) (contQ Go.Proofs.Try.prog env an20 (bodyC Go.Proofs.Try.f20) [1, 1, 0, 1, 0, 0, 1, 1, 0, 1, 1] [(I3, m3)] (rootQ Go.Proofs.Try.prog Go.Proofs.Try.f20 K X)) [(0, s0_j11), (3, b3_j11), (4, i4_j11), (5, r5_j11), (6, wrong6_j11), (9, t9_j11)] σ := by
  unfold J20_11
  kernel_rfl
def L20_3 (env : Env) (I3 : Nat → List AV → AS → Prop) (m3 : Nat) (s0_l3 b3_l3 t9_l3 : AV) (σ : AS) (K : AV → AS → Prop) (X : PV → AS → Prop) : Prop :=
 (nextD σ t9_l3 fun t10 σ4 =>
 (extractD t10 0 fun t11 =>
 (condD t11
 (extractD t10 1 fun t12 =>
 (extractD t10 2 fun t13 =>
 (binD Go.Proofs.Try.prog .eql 21 t13 (.pv (.int .i32 65533)) fun t15 =>
 (guardD t15 true
 (sliceD Go.Proofs.Try.prog 9 s0_l3 (some t12) none fun t19 =>
 (env 34 [t19, (.pv (.str [239, 191, 189]))] σ4 (fun t20 σ5 =>
 (unD .not t20 fun t21 =>
 (J20_11 env I3 m3 (s0_l3) (b3_l3) (t12) (t13) (t21) (t9_l3) σ5 K X))) (panV X)))
 (J20_11 env I3 m3 (s0_l3) (b3_l3) (t12) (t13) (.pv (.bool false)) (t9_l3) σ4 K X)))))
 (env 40 [b3_l3] σ4 (fun t70 σ15 =>
 (retV (t70) σ15 K)) (panV X)))))
theorem L20_3_eq (env : Env) (I3 : Nat → List AV → AS → Prop) (m3 : Nat) (s0_l3 b3_l3 t9_l3 : AV) (σ : AS) (K : AV → AS → Prop) (X : PV → AS → Prop) : L20_3 env I3 m3 s0_l3 b3_l3 t9_l3 σ K X = wpD Go.Proofs.Try.prog env an20 (subC (bodyC Go.Proofs.Try.f20) [1, 1, 0, 1, 0, 0]) (contQ Go.Proofs.Try.prog env an20 (bodyC Go.Proofs.Try.f20) [1, 1, 0, 1, 0, 0] [(I3, m3)] (rootQ Go.Proofs.Try.prog Go.Proofs.Try.f20 K X)) [(0, s0_l3), (3, b3_l3), (9, t9_l3)] σ := by
  unfold L20_3
  kernel_rfl
theorem lp20_3 {α : Type} {env : Env}  {s0_l3 b3_l3 t9_l3 : AV} {σ : AS} {K : AV → AS → Prop} {X : PV → AS → Prop} (μ : α → AS → Nat) (I : α → AS → Prop) (a0 : α) (h0 : I a0 σ)
 (h : ∀ a σ, I a σ → L20_3 env  (Inv (fun a => [s0_l3, b3_l3, t9_l3]) μ I) (μ a σ) s0_l3 b3_l3 t9_l3 σ K X) :
 ∃ I3 : Nat → List AV → AS → Prop, (∃ m, I3 m [s0_l3, b3_l3, t9_l3] σ) ∧ ∀ (m : Nat) (x0 x1 x2 : AV), ∀ σ, I3 m [x0, x1, x2] σ →
 L20_3 env  I3 m x0 x1 x2 σ K X := by
  refine ⟨Inv (fun a => [s0_l3, b3_l3, t9_l3]) μ I, ⟨_, a0, rfl, rfl, h0⟩, ?_⟩
  rintro m x0 x1 x2 σ' ⟨a, hv, rfl, hI⟩
  simp only [List.cons.injEq, and_true] at hv
  obtain ⟨rfl, rfl, rfl⟩ := hv
  exact h a σ' hI
def S20 (env : Env) (s0_a : AV) (σ : AS) (K : AV → AS → Prop) (X : PV → AS → Prop) : Prop :=
 (allocD Go.Proofs.Try.prog σ 49 fun t3 σ1 =>
 (rangeD Go.Proofs.Try.prog σ1 9 s0_a fun t9 σ2 =>
 (∃ I3 : Nat → List AV → AS → Prop, (∃ m, I3 m [s0_a, t3, t9] σ2) ∧ ∀ (m3 : Nat) (s0_l3 b3_l3 t9_l3 : AV), ∀ σ3, I3 m3 [s0_l3, b3_l3, t9_l3] σ3 →
 (L20_3 env I3 m3 s0_l3 b3_l3 t9_l3 σ3 K X))))
theorem S20_eq (env : Env) (s0_a : AV) (σ : AS) (K : AV → AS → Prop) (X : PV → AS → Prop) : S20 env s0_a σ K X = bodyD Go.Proofs.Try.prog env an20 Go.Proofs.Try.f20 [s0_a] σ K X := by
  unfold S20
  simp only [L20_3_eq]
  kernel_rfl
theorem S20_ok : (match Go.Proofs.Try.f20.body with | some c => okCode an20 Go.Proofs.Try.prog Go.Proofs.Try.f20.ntmps c | none => false) = true := by kernel_rfl
/-! ### tedder/tedderref01.Show (function 21) -/
def an21 : An := { mu := [], cut := [(9, [0, 3, 4, 5, 6, 7, 28]), (12, [0, 3, 4, 5, 6, 7, 42]), (15, [0, 3, 4, 5, 6, 7, 58])], loop := [(3, [0, 3, 4])] }
def J21_15 (env : Env) (I3 : Nat → List AV → AS → Prop) (m3 : Nat) (s0_j15 out3_j15 i4_j15 c5_j15 v6_j15 n7_j15 t58_j15 : AV) (σ : AS) (K : AV → AS → Prop) (X : PV → AS → Prop) : Prop :=
 (condD t58_j15
 (binD Go.Proofs.Try.prog .add 9 out3_j15 (.pv (.str [60, 85, 43])) fun t66 =>
 (env 42 [v6_j15] σ (fun t68 σ4 =>
 (binD Go.Proofs.Try.prog .add 9 t66 t68 fun t69 =>
 (binD Go.Proofs.Try.prog .add 9 t69 (.pv (.str [62])) fun t70 =>
 (binD Go.Proofs.Try.prog .add 3 i4_j15 n7_j15 fun t73 =>
 (∃ m', m' < m3 ∧ I3 m' [s0_j15, t70, t73] σ4))))) (panV X)))
 (env 43 [c5_j15] σ (fun t24 σ5 =>
 (binD Go.Proofs.Try.prog .add 9 out3_j15 t24 fun t25 =>
 (binD Go.Proofs.Try.prog .add 3 i4_j15 (.pv (.int .i64 1)) fun t27 =>
 (∃ m', m' < m3 ∧ I3 m' [s0_j15, t25, t27] σ5)))) (panV X)))
theorem J21_15_eq (env : Env) (I3 : Nat → List AV → AS → Prop) (m3 : Nat) (s0_j15 out3_j15 i4_j15 c5_j15 v6_j15 n7_j15 t58_j15 : AV) (σ : AS) (K : AV → AS → Prop) (X : PV → AS → Prop) : J21_15 env I3 m3 s0_j15 out3_j15 i4_j15 c5_j15 v6_j15 n7_j15 t58_j15 σ K X = wpD Go.Proofs.Try.prog env an21 (subC (bodyC Go.Proofs.Try.f21) [1, 1, 0, 1, 0, 0, 1, 0, 1, 1, 0, 1, 1, 1, 1, 1]) (contQ Go.Proofs.Try.prog env an21 (bodyC Go.Proofs.Try.f21) [1, 1, 0, 1, 0, 0, 1, 0, 1, 1, 0, 1, 1, 1, 1, 1] [(I3, m3)] (rootQ Go.Proofs.Try.prog Go.Proofs.Try.f21 K X)) [(0, s0_j15), (3, out3_j15), (4, i4_j15), (5, c5_j15), (6, v6_j15), (7, n7_j15), (58, t58_j15)] σ := by
  unfold J21_15
  kernel_rfl
def J21_12 (env : Env) (I3 : Nat → List AV → AS → Prop) (m3 : Nat) (s0_j12 out3_j12 i4_j12 c5_j12 v6_j12 n7_j12 t42_j12 : AV) (σ : AS) (K : AV → AS → Prop) (X : PV → AS → Prop) : Prop :=
 (condD t42_j12
 (binD Go.Proofs.Try.prog .add 3 i4_j12 (.pv (.int .i64 1)) fun t53 =>
 (sliceD Go.Proofs.Try.prog 9 s0_j12 (some i4_j12) (some t53) fun t54 =>
 (binD Go.Proofs.Try.prog .add 9 out3_j12 t54 fun t55 =>
 (binD Go.Proofs.Try.prog .add 3 i4_j12 (.pv (.int .i64 1)) fun t57 =>
 (∃ m', m' < m3 ∧ I3 m' [s0_j12, t55, t57] σ)))))
 (binD Go.Proofs.Try.prog .gtr 3 n7_j12 (.pv (.int .i64 1)) fun t60 =>
 (guardD t60 true
 (binD Go.Proofs.Try.prog .geq 3 v6_j12 (.pv (.int .i64 160)) fun t63 =>
 (J21_15 env I3 m3 (s0_j12) (out3_j12) (i4_j12) (c5_j12) (v6_j12) (n7_j12) (t63) σ K X))
 (J21_15 env I3 m3 (s0_j12) (out3_j12) (i4_j12) (c5_j12) (v6_j12) (n7_j12) (.pv (.bool false)) σ K X))))
theorem J21_12_eq (env : Env) (I3 : Nat → List AV → AS → Prop) (m3 : Nat) (s0_j12 out3_j12 i4_j12 c5_j12 v6_j12 n7_j12 t42_j12 : AV) (σ : AS) (K : AV → AS → Prop) (X : PV → AS → Prop) : J21_12 env I3 m3 s0_j12 out3_j12 i4_j12 c5_j12 v6_j12 n7_j12 t42_j12 σ K X = wpD Go.Proofs.Try.prog env an21 (subC (bodyC Go.Proofs.Try.f21) [1, 1, 0, 1, 0, 0, 1, 0, 1, 1, 0, 1, 1, 1]) (contQ Go.Proofs.Try.prog env an21 (bodyC Go.Proofs.Try.f21) [1, 1, 0, 1, 0, 0, 1, 0, 1, 1, 0, 1, 1, 1] [(I3, m3)] (rootQ Go.Proofs.Try.prog Go.Proofs.Try.f21 K X)) [(0, s0_j12), (3, out3_j12), (4, i4_j12), (5, c5_j12), (6, v6_j12), (7, n7_j12), (42, t42_j12)] σ := by
  unfold J21_12
  kernel_rfl
def J21_9 (env : Env) (I3 : Nat → List AV → AS → Prop) (m3 : Nat) (s0_j9 out3_j9 i4_j9 c5_j9 v6_j9 n7_j9 t28_j9 : AV) (σ : AS) (K : AV → AS → Prop) (X : PV → AS → Prop) : Prop :=
 (condD t28_j9
 (buildSliceD Go.Proofs.Try.prog false σ 45 2 2 [(0, (.pv (.int .u8 92))), (1, c5_j9)] fun t37 σ3 =>
 (convD Go.Proofs.Try.prog σ3 45 9 t37 fun t38 =>
 (binD Go.Proofs.Try.prog .add 9 out3_j9 t38 fun t39 =>
 (binD Go.Proofs.Try.prog .add 3 i4_j9 (.pv (.int .i64 1)) fun t41 =>
 (∃ m', m' < m3 ∧ I3 m' [s0_j9, t39, t41] σ3)))))
 (binD Go.Proofs.Try.prog .geq 5 c5_j9 (.pv (.int .u8 32)) fun t44 =>
 (guardD t44 true
 (binD Go.Proofs.Try.prog .leq 5 c5_j9 (.pv (.int .u8 126)) fun t47 =>
 (J21_12 env I3 m3 (s0_j9) (out3_j9) (i4_j9) (c5_j9) (v6_j9) (n7_j9) (t47) σ K X))
 (J21_12 env I3 m3 (s0_j9) (out3_j9) (i4_j9) (c5_j9) (v6_j9) (n7_j9) (.pv (.bool false)) σ K X))))
theorem J21_9_eq (env : Env) (I3 : Nat → List AV → AS → Prop) (m3 : Nat) (s0_j9 out3_j9 i4_j9 c5_j9 v6_j9 n7_j9 t28_j9 : AV) (σ : AS) (K : AV → AS → Prop) (X : PV → AS → Prop) : J21_9 env I3 m3 s0_j9 out3_j9 i4_j9 c5_j9 v6_j9 n7_j9 t28_j9 σ K X = wpD Go.Proofs.Try.prog env an21 (subC (bodyC Go.Proofs.Try.f21) [1, 1, 0, 1, 0, 0, 1, 0, 1, 1, 0, 1]) (contQ Go.Proofs.Try.prog env an21 (bodyC Go.Proofs.Try.f21) [1, 1, 0, 1, 0, 0, 1, 0, 1, 1, 0, 1] [(I3, m3)] (rootQ Go.Proofs.Try.prog Go.Proofs.Try.f21 K X)) [(0, s0_j9), (3, out3_j9), (4, i4_j9), (5, c5_j9), (6, v6_j9), (7, n7_j9), (28, t28_j9)] σ := by
  unfold J21_9
  kernel_rfl
def L21_3 (env : Env) (I3 : Nat → List AV → AS → Prop) (m3 : Nat) (s0_l3 out3_l3 i4_l3 : AV) (σ : AS) (K : AV → AS → Prop) (X : PV → AS → Prop) : Prop :=
 (lenD Go.Proofs.Try.prog 9 s0_l3 fun t10 =>
 (binD Go.Proofs.Try.prog .lss 3 i4_l3 t10 fun t11 =>
 (condD t11
 (indexD Go.Proofs.Try.prog 9 s0_l3 i4_l3 fun t14 =>
 (sliceD Go.Proofs.Try.prog 9 s0_l3 (some i4_l3) none fun t18 =>
 (env 41 [t18] σ (fun t19 σ2 =>
 (extractD t19 0 fun t20 =>
 (extractD t19 1 fun t21 =>
 (binD Go.Proofs.Try.prog .eql 5 t14 (.pv (.int .u8 34)) fun t30 =>
 (guardD t30 false
 (binD Go.Proofs.Try.prog .eql 5 t14 (.pv (.int .u8 92)) fun t33 =>
 (J21_9 env I3 m3 (s0_l3) (out3_l3) (i4_l3) (t14) (t20) (t21) (t33) σ2 K X))
 (J21_9 env I3 m3 (s0_l3) (out3_l3) (i4_l3) (t14) (t20) (t21) (.pv (.bool true)) σ2 K X)))))) (panV X))))
 (retV (out3_l3) σ K))))
theorem L21_3_eq (env : Env) (I3 : Nat → List AV → AS → Prop) (m3 : Nat) (s0_l3 out3_l3 i4_l3 : AV) (σ : AS) (K : AV → AS → Prop) (X : PV → AS → Prop) : L21_3 env I3 m3 s0_l3 out3_l3 i4_l3 σ K X = wpD Go.Proofs.Try.prog env an21 (subC (bodyC Go.Proofs.Try.f21) [1, 1, 0, 1, 0, 0]) (contQ Go.Proofs.Try.prog env an21 (bodyC Go.Proofs.Try.f21) [1, 1, 0, 1, 0, 0] [(I3, m3)] (rootQ Go.Proofs.Try.prog Go.Proofs.Try.f21 K X)) [(0, s0_l3), (3, out3_l3), (4, i4_l3)] σ := by
  unfold L21_3
  kernel_rfl
theorem lp21_3 {α : Type} {env : Env}  {s0_l3 : AV} {σ : AS} {K : AV → AS → Prop} {X : PV → AS → Prop} (μ : α → AS → Nat) (I : α → AS → Prop) (eout3_l3 ei4_l3 : α → AV) (a0 : α) (h0 : I a0 σ)
 (h : ∀ a σ, I a σ → L21_3 env  (Inv (fun a => [s0_l3, eout3_l3 a, ei4_l3 a]) μ I) (μ a σ) s0_l3 (eout3_l3 a) (ei4_l3 a) σ K X) :
 ∃ I3 : Nat → List AV → AS → Prop, (∃ m, I3 m [s0_l3, eout3_l3 a0, ei4_l3 a0] σ) ∧ ∀ (m : Nat) (x0 x1 x2 : AV), ∀ σ, I3 m [x0, x1, x2] σ →
 L21_3 env  I3 m x0 x1 x2 σ K X := by
  refine ⟨Inv (fun a => [s0_l3, eout3_l3 a, ei4_l3 a]) μ I, ⟨_, a0, rfl, rfl, h0⟩, ?_⟩
  rintro m x0 x1 x2 σ' ⟨a, hv, rfl, hI⟩
  simp only [List.cons.injEq, and_true] at hv
  obtain ⟨rfl, rfl, rfl⟩ := hv
  exact h a σ' hI
def S21 (env : Env) (s0_a : AV) (σ : AS) (K : AV → AS → Prop) (X : PV → AS → Prop) : Prop :=
 (∃ I3 : Nat → List AV → AS → Prop, (∃ m, I3 m [s0_a, (.pv (.str [])), (.pv (.int .i64 0))] σ) ∧ ∀ (m3 : Nat) (s0_l3 out3_l3 i4_l3 : AV), ∀ σ1, I3 m3 [s0_l3, out3_l3, i4_l3] σ1 →
 (L21_3 env I3 m3 s0_l3 out3_l3 i4_l3 σ1 K X))
theorem S21_eq (env : Env) (s0_a : AV) (σ : AS) (K : AV → AS → Prop) (X : PV → AS → Prop) : S21 env s0_a σ K X = bodyD Go.Proofs.Try.prog env an21 Go.Proofs.Try.f21 [s0_a] σ K X := by
  unfold S21
  simp only [L21_3_eq]
  kernel_rfl
theorem S21_ok : (match Go.Proofs.Try.f21.body with | some c => okCode an21 Go.Proofs.Try.prog Go.Proofs.Try.f21.ntmps c | none => false) = true := by kernel_rfl
/-! ### tedder/tedderref01.first (function 41) -/
def an41 : An := { mu := [], cut := [(9, [0, 4, 17]), (11, [0, 4, 26]), (13, [0, 4, 35]), (14, [0, 5, 6, 7]), (22, [0, 5, 6, 7, 8, 9]), (25, [5, 7])], loop := [(17, [0, 5, 6, 7, 8])] }
def J41_22 (env : Env) (I17 : Nat → List AV → AS → Prop) (m17 : Nat) (s0_j22 n5_j22 least6_j22 v7_j22 i8_j22 d9_j22 : AV) (σ : AS) (K : AV → AS → Prop) (X : PV → AS → Prop) : Prop :=
 (binD Go.Proofs.Try.prog .mul 3 v7_j22 (.pv (.int .i64 64)) fun t64 =>
 (binD Go.Proofs.Try.prog .add 3 t64 d9_j22 fun t66 =>
 (binD Go.Proofs.Try.prog .sub 3 t66 (.pv (.int .i64 128)) fun t67 =>
 (binD Go.Proofs.Try.prog .add 3 i8_j22 (.pv (.int .i64 1)) fun t52 =>
 (∃ m', m' < m17 ∧ I17 m' [s0_j22, n5_j22, least6_j22, t67, t52] σ)))))
theorem J41_22_eq (env : Env) (I17 : Nat → List AV → AS → Prop) (m17 : Nat) (s0_j22 n5_j22 least6_j22 v7_j22 i8_j22 d9_j22 : AV) (σ : AS) (K : AV → AS → Prop) (X : PV → AS → Prop) : J41_22 env I17 m17 s0_j22 n5_j22 least6_j22 v7_j22 i8_j22 d9_j22 σ K X = wpD Go.Proofs.Try.prog env an41 (subC (bodyC Go.Proofs.Try.f41) [1, 1, 1, 1, 1, 1, 1, 0, 1, 0, 0, 1, 0, 0, 1, 1]) (contQ Go.Proofs.Try.prog env an41 (bodyC Go.Proofs.Try.f41) [1, 1, 1, 1, 1, 1, 1, 0, 1, 0, 0, 1, 0, 0, 1, 1] [(I17, m17)] (rootQ Go.Proofs.Try.prog Go.Proofs.Try.f41 K X)) [(0, s0_j22), (5, n5_j22), (6, least6_j22), (7, v7_j22), (8, i8_j22), (9, d9_j22)] σ := by
  unfold J41_22
  kernel_rfl
def J41_25 (env : Env)  (n5_j25 v7_j25 : AV) (σ : AS) (K : AV → AS → Prop) (X : PV → AS → Prop) : Prop :=
 (retV (.tuple [v7_j25, n5_j25]) σ K)
theorem J41_25_eq (env : Env)  (n5_j25 v7_j25 : AV) (σ : AS) (K : AV → AS → Prop) (X : PV → AS → Prop) : J41_25 env  n5_j25 v7_j25 σ K X = wpD Go.Proofs.Try.prog env an41 (subC (bodyC Go.Proofs.Try.f41) [1, 1, 1, 1, 1, 1, 1, 1, 1]) (contQ Go.Proofs.Try.prog env an41 (bodyC Go.Proofs.Try.f41) [1, 1, 1, 1, 1, 1, 1, 1, 1] [] (rootQ Go.Proofs.Try.prog Go.Proofs.Try.f41 K X)) [(5, n5_j25), (7, v7_j25)] σ := by
  unfold J41_25
  kernel_rfl
def L41_17 (env : Env) (I17 : Nat → List AV → AS → Prop) (m17 : Nat) (s0_l17 n5_l17 least6_l17 v7_l17 i8_l17 : AV) (σ : AS) (K : AV → AS → Prop) (X : PV → AS → Prop) : Prop :=
 (binD Go.Proofs.Try.prog .lss 3 i8_l17 n5_l17 fun t50 =>
 (condD t50
 (indexD Go.Proofs.Try.prog 9 s0_l17 i8_l17 fun t55 =>
 (convD Go.Proofs.Try.prog σ 5 3 t55 fun t56 =>
 (binD Go.Proofs.Try.prog .lss 3 t56 (.pv (.int .i64 128)) fun t58 =>
 (guardD t58 false
 (binD Go.Proofs.Try.prog .geq 3 t56 (.pv (.int .i64 192)) fun t61 =>
 (condD t61
 (retV (.tuple [(.pv (.int .i64 0)), (.pv (.int .i64 0))]) σ K)
 (J41_22 env I17 m17 (s0_l17) (n5_l17) (least6_l17) (v7_l17) (i8_l17) (t56) σ K X)))
 (retV (.tuple [(.pv (.int .i64 0)), (.pv (.int .i64 0))]) σ K)))))
 (binD Go.Proofs.Try.prog .lss 3 v7_l17 least6_l17 fun t70 =>
 (guardD t70 false
 (binD Go.Proofs.Try.prog .gtr 3 v7_l17 (.pv (.int .i64 1114111)) fun t73 =>
 (guardD t73 false
 (binD Go.Proofs.Try.prog .geq 3 v7_l17 (.pv (.int .i64 55296)) fun t77 =>
 (guardD t77 true
 (binD Go.Proofs.Try.prog .lss 3 v7_l17 (.pv (.int .i64 57344)) fun t80 =>
 (condD t80
 (retV (.tuple [(.pv (.int .i64 0)), (.pv (.int .i64 0))]) σ K)
 (J41_25 env  (n5_l17) (v7_l17) σ K X)))
 (J41_25 env  (n5_l17) (v7_l17) σ K X)))
 (retV (.tuple [(.pv (.int .i64 0)), (.pv (.int .i64 0))]) σ K)))
 (retV (.tuple [(.pv (.int .i64 0)), (.pv (.int .i64 0))]) σ K)))))
theorem L41_17_eq (env : Env) (I17 : Nat → List AV → AS → Prop) (m17 : Nat) (s0_l17 n5_l17 least6_l17 v7_l17 i8_l17 : AV) (σ : AS) (K : AV → AS → Prop) (X : PV → AS → Prop) : L41_17 env I17 m17 s0_l17 n5_l17 least6_l17 v7_l17 i8_l17 σ K X = wpD Go.Proofs.Try.prog env an41 (subC (bodyC Go.Proofs.Try.f41) [1, 1, 1, 1, 1, 1, 1, 0, 1, 0, 0]) (contQ Go.Proofs.Try.prog env an41 (bodyC Go.Proofs.Try.f41) [1, 1, 1, 1, 1, 1, 1, 0, 1, 0, 0] [(I17, m17)] (rootQ Go.Proofs.Try.prog Go.Proofs.Try.f41 K X)) [(0, s0_l17), (5, n5_l17), (6, least6_l17), (7, v7_l17), (8, i8_l17)] σ := by
  unfold L41_17
  kernel_rfl
theorem lp41_17 {α : Type} {env : Env}  {s0_l17 n5_l17 least6_l17 : AV} {σ : AS} {K : AV → AS → Prop} {X : PV → AS → Prop} (μ : α → AS → Nat) (I : α → AS → Prop) (ev7_l17 ei8_l17 : α → AV) (a0 : α) (h0 : I a0 σ)
 (h : ∀ a σ, I a σ → L41_17 env  (Inv (fun a => [s0_l17, n5_l17, least6_l17, ev7_l17 a, ei8_l17 a]) μ I) (μ a σ) s0_l17 n5_l17 least6_l17 (ev7_l17 a) (ei8_l17 a) σ K X) :
 ∃ I17 : Nat → List AV → AS → Prop, (∃ m, I17 m [s0_l17, n5_l17, least6_l17, ev7_l17 a0, ei8_l17 a0] σ) ∧ ∀ (m : Nat) (x0 x1 x2 x3 x4 : AV), ∀ σ, I17 m [x0, x1, x2, x3, x4] σ →
 L41_17 env  I17 m x0 x1 x2 x3 x4 σ K X := by
  refine ⟨Inv (fun a => [s0_l17, n5_l17, least6_l17, ev7_l17 a, ei8_l17 a]) μ I, ⟨_, a0, rfl, rfl, h0⟩, ?_⟩
  rintro m x0 x1 x2 x3 x4 σ' ⟨a, hv, rfl, hI⟩
  simp only [List.cons.injEq, and_true] at hv
  obtain ⟨rfl, rfl, rfl, rfl, rfl⟩ := hv
  exact h a σ' hI
def J41_14 (env : Env)  (s0_j14 n5_j14 least6_j14 v7_j14 : AV) (σ : AS) (K : AV → AS → Prop) (X : PV → AS → Prop) : Prop :=
 (lenD Go.Proofs.Try.prog 9 s0_j14 fun t45 =>
 (binD Go.Proofs.Try.prog .lss 3 t45 n5_j14 fun t47 =>
 (condD t47
 (retV (.tuple [(.pv (.int .i64 0)), (.pv (.int .i64 0))]) σ K)
 (∃ I17 : Nat → List AV → AS → Prop, (∃ m, I17 m [s0_j14, n5_j14, least6_j14, v7_j14, (.pv (.int .i64 1))] σ) ∧ ∀ (m17 : Nat) (s0_l17 n5_l17 least6_l17 v7_l17 i8_l17 : AV), ∀ σ1, I17 m17 [s0_l17, n5_l17, least6_l17, v7_l17, i8_l17] σ1 →
 (L41_17 env I17 m17 s0_l17 n5_l17 least6_l17 v7_l17 i8_l17 σ1 K X)))))
theorem J41_14_eq (env : Env)  (s0_j14 n5_j14 least6_j14 v7_j14 : AV) (σ : AS) (K : AV → AS → Prop) (X : PV → AS → Prop) : J41_14 env  s0_j14 n5_j14 least6_j14 v7_j14 σ K X = wpD Go.Proofs.Try.prog env an41 (subC (bodyC Go.Proofs.Try.f41) [1, 1, 1, 1, 1, 1]) (contQ Go.Proofs.Try.prog env an41 (bodyC Go.Proofs.Try.f41) [1, 1, 1, 1, 1, 1] [] (rootQ Go.Proofs.Try.prog Go.Proofs.Try.f41 K X)) [(0, s0_j14), (5, n5_j14), (6, least6_j14), (7, v7_j14)] σ := by
  unfold J41_14
  simp only [L41_17_eq]
  kernel_rfl
def J41_13 (env : Env)  (s0_j13 c4_j13 t35_j13 : AV) (σ : AS) (K : AV → AS → Prop) (X : PV → AS → Prop) : Prop :=
 (condD t35_j13
 (binD Go.Proofs.Try.prog .sub 3 c4_j13 (.pv (.int .i64 240)) fun t43 =>
 (J41_14 env  (s0_j13) (.pv (.int .i64 4)) (.pv (.int .i64 65536)) (t43) σ K X))
 (retV (.tuple [(.pv (.int .i64 0)), (.pv (.int .i64 0))]) σ K))
theorem J41_13_eq (env : Env)  (s0_j13 c4_j13 t35_j13 : AV) (σ : AS) (K : AV → AS → Prop) (X : PV → AS → Prop) : J41_13 env  s0_j13 c4_j13 t35_j13 σ K X = wpD Go.Proofs.Try.prog env an41 (subC (bodyC Go.Proofs.Try.f41) [1, 1, 1, 1, 1, 0, 0, 1, 1, 1, 1, 1, 1, 1]) (contQ Go.Proofs.Try.prog env an41 (bodyC Go.Proofs.Try.f41) [1, 1, 1, 1, 1, 0, 0, 1, 1, 1, 1, 1, 1, 1] [] (rootQ Go.Proofs.Try.prog Go.Proofs.Try.f41 K X)) [(0, s0_j13), (4, c4_j13), (35, t35_j13)] σ := by
  unfold J41_13
  kernel_rfl
def J41_11 (env : Env)  (s0_j11 c4_j11 t26_j11 : AV) (σ : AS) (K : AV → AS → Prop) (X : PV → AS → Prop) : Prop :=
 (condD t26_j11
 (binD Go.Proofs.Try.prog .sub 3 c4_j11 (.pv (.int .i64 224)) fun t34 =>
 (J41_14 env  (s0_j11) (.pv (.int .i64 3)) (.pv (.int .i64 2048)) (t34) σ K X))
 (binD Go.Proofs.Try.prog .geq 3 c4_j11 (.pv (.int .i64 240)) fun t37 =>
 (guardD t37 true
 (binD Go.Proofs.Try.prog .lss 3 c4_j11 (.pv (.int .i64 248)) fun t40 =>
 (J41_13 env  (s0_j11) (c4_j11) (t40) σ K X))
 (J41_13 env  (s0_j11) (c4_j11) (.pv (.bool false)) σ K X))))
theorem J41_11_eq (env : Env)  (s0_j11 c4_j11 t26_j11 : AV) (σ : AS) (K : AV → AS → Prop) (X : PV → AS → Prop) : J41_11 env  s0_j11 c4_j11 t26_j11 σ K X = wpD Go.Proofs.Try.prog env an41 (subC (bodyC Go.Proofs.Try.f41) [1, 1, 1, 1, 1, 0, 0, 1, 1, 1, 1, 1]) (contQ Go.Proofs.Try.prog env an41 (bodyC Go.Proofs.Try.f41) [1, 1, 1, 1, 1, 0, 0, 1, 1, 1, 1, 1] [] (rootQ Go.Proofs.Try.prog Go.Proofs.Try.f41 K X)) [(0, s0_j11), (4, c4_j11), (26, t26_j11)] σ := by
  unfold J41_11
  kernel_rfl
def J41_9 (env : Env)  (s0_j9 c4_j9 t17_j9 : AV) (σ : AS) (K : AV → AS → Prop) (X : PV → AS → Prop) : Prop :=
 (condD t17_j9
 (binD Go.Proofs.Try.prog .sub 3 c4_j9 (.pv (.int .i64 192)) fun t25 =>
 (J41_14 env  (s0_j9) (.pv (.int .i64 2)) (.pv (.int .i64 128)) (t25) σ K X))
 (binD Go.Proofs.Try.prog .geq 3 c4_j9 (.pv (.int .i64 224)) fun t28 =>
 (guardD t28 true
 (binD Go.Proofs.Try.prog .lss 3 c4_j9 (.pv (.int .i64 240)) fun t31 =>
 (J41_11 env  (s0_j9) (c4_j9) (t31) σ K X))
 (J41_11 env  (s0_j9) (c4_j9) (.pv (.bool false)) σ K X))))
theorem J41_9_eq (env : Env)  (s0_j9 c4_j9 t17_j9 : AV) (σ : AS) (K : AV → AS → Prop) (X : PV → AS → Prop) : J41_9 env  s0_j9 c4_j9 t17_j9 σ K X = wpD Go.Proofs.Try.prog env an41 (subC (bodyC Go.Proofs.Try.f41) [1, 1, 1, 1, 1, 0, 0, 1, 1, 1]) (contQ Go.Proofs.Try.prog env an41 (bodyC Go.Proofs.Try.f41) [1, 1, 1, 1, 1, 0, 0, 1, 1, 1] [] (rootQ Go.Proofs.Try.prog Go.Proofs.Try.f41 K X)) [(0, s0_j9), (4, c4_j9), (17, t17_j9)] σ := by
  unfold J41_9
  kernel_rfl
def S41 (env : Env) (s0_a : AV) (σ : AS) (K : AV → AS → Prop) (X : PV → AS → Prop) : Prop :=
 (indexD Go.Proofs.Try.prog 9 s0_a (.pv (.int .i64 0)) fun t11 =>
 (convD Go.Proofs.Try.prog σ 5 3 t11 fun t12 =>
 (binD Go.Proofs.Try.prog .lss 3 t12 (.pv (.int .i64 128)) fun t15 =>
 (condD t15
 (retV (.tuple [t12, (.pv (.int .i64 1))]) σ K)
 (binD Go.Proofs.Try.prog .geq 3 t12 (.pv (.int .i64 192)) fun t19 =>
 (guardD t19 true
 (binD Go.Proofs.Try.prog .lss 3 t12 (.pv (.int .i64 224)) fun t22 =>
 (J41_9 env  (s0_a) (t12) (t22) σ K X))
 (J41_9 env  (s0_a) (t12) (.pv (.bool false)) σ K X)))))))
theorem S41_eq (env : Env) (s0_a : AV) (σ : AS) (K : AV → AS → Prop) (X : PV → AS → Prop) : S41 env s0_a σ K X = bodyD Go.Proofs.Try.prog env an41 Go.Proofs.Try.f41 [s0_a] σ K X := by
  unfold S41
  kernel_rfl
theorem S41_ok : (match Go.Proofs.Try.f41.body with | some c => okCode an41 Go.Proofs.Try.prog Go.Proofs.Try.f41.ntmps c | none => false) = true := by kernel_rfl
/-! ### tedder/tedderref01.hex (function 42) -/
def an42 : An := { mu := [], cut := [(4, [0, 3, 4])], loop := [(3, [0, 3, 4])] }
def J42_4 (env : Env) (I3 : Nat → List AV → AS → Prop) (m3 : Nat) (v0_j4 d3_j4 s4_j4 : AV) (σ : AS) (K : AV → AS → Prop) (X : PV → AS → Prop) : Prop :=
 (binD Go.Proofs.Try.prog .rem 3 v0_j4 (.pv (.int .i64 16)) fun t14 =>
 (binD Go.Proofs.Try.prog .rem 3 v0_j4 (.pv (.int .i64 16)) fun t16 =>
 (binD Go.Proofs.Try.prog .add 3 t16 (.pv (.int .i64 1)) fun t17 =>
 (sliceD Go.Proofs.Try.prog 9 d3_j4 (some t14) (some t17) fun t18 =>
 (binD Go.Proofs.Try.prog .add 9 t18 s4_j4 fun t20 =>
 (binD Go.Proofs.Try.prog .quo 3 v0_j4 (.pv (.int .i64 16)) fun t22 =>
 (∃ m', m' < m3 ∧ I3 m' [t22, d3_j4, t20] σ)))))))
theorem J42_4_eq (env : Env) (I3 : Nat → List AV → AS → Prop) (m3 : Nat) (v0_j4 d3_j4 s4_j4 : AV) (σ : AS) (K : AV → AS → Prop) (X : PV → AS → Prop) : J42_4 env I3 m3 v0_j4 d3_j4 s4_j4 σ K X = wpD Go.Proofs.Try.prog env an42 (subC (bodyC Go.Proofs.Try.f42) [1, 1, 1, 0, 0, 0, 1]) (contQ Go.Proofs.Try.prog env an42 (bodyC Go.Proofs.Try.f42) [1, 1, 1, 0, 0, 0, 1] [(I3, m3)] (rootQ Go.Proofs.Try.prog Go.Proofs.Try.f42 K X)) [(0, v0_j4), (3, d3_j4), (4, s4_j4)] σ := by
  unfold J42_4
  kernel_rfl
def L42_3 (env : Env) (I3 : Nat → List AV → AS → Prop) (m3 : Nat) (v0_l3 d3_l3 s4_l3 : AV) (σ : AS) (K : AV → AS → Prop) (X : PV → AS → Prop) : Prop :=
 (binD Go.Proofs.Try.prog .gtr 3 v0_l3 (.pv (.int .i64 0)) fun t6 =>
 (guardD t6 false
 (lenD Go.Proofs.Try.prog 9 s4_l3 fun t9 =>
 (binD Go.Proofs.Try.prog .lss 3 t9 (.pv (.int .i64 4)) fun t10 =>
 (condD t10
 (J42_4 env I3 m3 (v0_l3) (d3_l3) (s4_l3) σ K X)
 (retV (s4_l3) σ K))))
 (J42_4 env I3 m3 (v0_l3) (d3_l3) (s4_l3) σ K X)))
theorem L42_3_eq (env : Env) (I3 : Nat → List AV → AS → Prop) (m3 : Nat) (v0_l3 d3_l3 s4_l3 : AV) (σ : AS) (K : AV → AS → Prop) (X : PV → AS → Prop) : L42_3 env I3 m3 v0_l3 d3_l3 s4_l3 σ K X = wpD Go.Proofs.Try.prog env an42 (subC (bodyC Go.Proofs.Try.f42) [1, 1, 1, 0, 0, 0]) (contQ Go.Proofs.Try.prog env an42 (bodyC Go.Proofs.Try.f42) [1, 1, 1, 0, 0, 0] [(I3, m3)] (rootQ Go.Proofs.Try.prog Go.Proofs.Try.f42 K X)) [(0, v0_l3), (3, d3_l3), (4, s4_l3)] σ := by
  unfold L42_3
  kernel_rfl
theorem lp42_3 {α : Type} {env : Env}  {d3_l3 : AV} {σ : AS} {K : AV → AS → Prop} {X : PV → AS → Prop} (μ : α → AS → Nat) (I : α → AS → Prop) (ev0_l3 es4_l3 : α → AV) (a0 : α) (h0 : I a0 σ)
 (h : ∀ a σ, I a σ → L42_3 env  (Inv (fun a => [ev0_l3 a, d3_l3, es4_l3 a]) μ I) (μ a σ) (ev0_l3 a) d3_l3 (es4_l3 a) σ K X) :
 ∃ I3 : Nat → List AV → AS → Prop, (∃ m, I3 m [ev0_l3 a0, d3_l3, es4_l3 a0] σ) ∧ ∀ (m : Nat) (x0 x1 x2 : AV), ∀ σ, I3 m [x0, x1, x2] σ →
 L42_3 env  I3 m x0 x1 x2 σ K X := by
  refine ⟨Inv (fun a => [ev0_l3 a, d3_l3, es4_l3 a]) μ I, ⟨_, a0, rfl, rfl, h0⟩, ?_⟩
  rintro m x0 x1 x2 σ' ⟨a, hv, rfl, hI⟩
  simp only [List.cons.injEq, and_true] at hv
  obtain ⟨rfl, rfl, rfl⟩ := hv
  exact h a σ' hI
def S42 (env : Env) (v0_a : AV) (σ : AS) (K : AV → AS → Prop) (X : PV → AS → Prop) : Prop :=
 (∃ I3 : Nat → List AV → AS → Prop, (∃ m, I3 m [v0_a, (.pv (.str [48, 49, 50, 51, 52, 53, 54, 55, 56, 57, 65, 66, 67, 68, 69, 70])), (.pv (.str []))] σ) ∧ ∀ (m3 : Nat) (v0_l3 d3_l3 s4_l3 : AV), ∀ σ1, I3 m3 [v0_l3, d3_l3, s4_l3] σ1 →
 (L42_3 env I3 m3 v0_l3 d3_l3 s4_l3 σ1 K X))
theorem S42_eq (env : Env) (v0_a : AV) (σ : AS) (K : AV → AS → Prop) (X : PV → AS → Prop) : S42 env v0_a σ K X = bodyD Go.Proofs.Try.prog env an42 Go.Proofs.Try.f42 [v0_a] σ K X := by
  unfold S42
  simp only [L42_3_eq]
  kernel_rfl
theorem S42_ok : (match Go.Proofs.Try.f42.body with | some c => okCode an42 Go.Proofs.Try.prog Go.Proofs.Try.f42.ntmps c | none => false) = true := by kernel_rfl
/-! ### tedder/tedderref01.octal (function 43) -/
def an43 : An := { mu := [], cut := [], loop := [] }
def S43 (env : Env) (c0_a : AV) (σ : AS) (K : AV → AS → Prop) (X : PV → AS → Prop) : Prop :=
 (binD Go.Proofs.Try.prog .quo 5 c0_a (.pv (.int .u8 64)) fun t4 =>
 (binD Go.Proofs.Try.prog .add 5 (.pv (.int .u8 48)) t4 fun t5 =>
 (binD Go.Proofs.Try.prog .quo 5 c0_a (.pv (.int .u8 8)) fun t7 =>
 (binD Go.Proofs.Try.prog .rem 5 t7 (.pv (.int .u8 8)) fun t8 =>
 (binD Go.Proofs.Try.prog .add 5 (.pv (.int .u8 48)) t8 fun t9 =>
 (binD Go.Proofs.Try.prog .rem 5 c0_a (.pv (.int .u8 8)) fun t11 =>
 (binD Go.Proofs.Try.prog .add 5 (.pv (.int .u8 48)) t11 fun t12 =>
 (buildSliceD Go.Proofs.Try.prog false σ 45 4 4 [(0, (.pv (.int .u8 92))), (1, t5), (2, t9), (3, t12)] fun t13 σ1 =>
 (convD Go.Proofs.Try.prog σ1 45 9 t13 fun t14 =>
 (retV (t14) σ1 K))))))))))
theorem S43_eq (env : Env) (c0_a : AV) (σ : AS) (K : AV → AS → Prop) (X : PV → AS → Prop) : S43 env c0_a σ K X = bodyD Go.Proofs.Try.prog env an43 Go.Proofs.Try.f43 [c0_a] σ K X := by
  unfold S43
  kernel_rfl
theorem S43_ok : (match Go.Proofs.Try.f43.body with | some c => okCode an43 Go.Proofs.Try.prog Go.Proofs.Try.f43.ntmps c | none => false) = true := by kernel_rfl
/-! ### tedder/tedderref01.Upper (function 28) -/
def an28 : An := { mu := [], cut := [(8, [0, 3, 4, 5])], loop := [(3, [0, 3, 4])] }
def J28_8 (env : Env) (I3 : Nat → List AV → AS → Prop) (m3 : Nat) (s0_j8 b3_j8 i4_j8 c5_j8 : AV) (σ : AS) (K : AV → AS → Prop) (X : PV → AS → Prop) : Prop :=
 (buildSliceD Go.Proofs.Try.prog false σ 45 1 1 [(0, c5_j8)] fun t25 σ2 =>
 (appendD Go.Proofs.Try.prog false σ2 45 b3_j8 t25 fun t26 σ3 =>
 (binD Go.Proofs.Try.prog .add 3 i4_j8 (.pv (.int .i64 1)) fun t11 =>
 (∃ m', m' < m3 ∧ I3 m' [s0_j8, t26, t11] σ3))))
theorem J28_8_eq (env : Env) (I3 : Nat → List AV → AS → Prop) (m3 : Nat) (s0_j8 b3_j8 i4_j8 c5_j8 : AV) (σ : AS) (K : AV → AS → Prop) (X : PV → AS → Prop) : J28_8 env I3 m3 s0_j8 b3_j8 i4_j8 c5_j8 σ K X = wpD Go.Proofs.Try.prog env an28 (subC (bodyC Go.Proofs.Try.f28) [1, 1, 0, 1, 0, 0, 1, 0, 0, 1, 1]) (contQ Go.Proofs.Try.prog env an28 (bodyC Go.Proofs.Try.f28) [1, 1, 0, 1, 0, 0, 1, 0, 0, 1, 1] [(I3, m3)] (rootQ Go.Proofs.Try.prog Go.Proofs.Try.f28 K X)) [(0, s0_j8), (3, b3_j8), (4, i4_j8), (5, c5_j8)] σ := by
  unfold J28_8
  kernel_rfl
def L28_3 (env : Env) (I3 : Nat → List AV → AS → Prop) (m3 : Nat) (s0_l3 b3_l3 i4_l3 : AV) (σ : AS) (K : AV → AS → Prop) (X : PV → AS → Prop) : Prop :=
 (lenD Go.Proofs.Try.prog 9 s0_l3 fun t8 =>
 (binD Go.Proofs.Try.prog .lss 3 i4_l3 t8 fun t9 =>
 (condD t9
 (indexD Go.Proofs.Try.prog 9 s0_l3 i4_l3 fun t14 =>
 (binD Go.Proofs.Try.prog .geq 5 t14 (.pv (.int .u8 97)) fun t16 =>
 (guardD t16 true
 (binD Go.Proofs.Try.prog .leq 5 t14 (.pv (.int .u8 122)) fun t19 =>
 (condD t19
 (binD Go.Proofs.Try.prog .sub 5 t14 (.pv (.int .u8 32)) fun t22 =>
 (J28_8 env I3 m3 (s0_l3) (b3_l3) (i4_l3) (t22) σ K X))
 (J28_8 env I3 m3 (s0_l3) (b3_l3) (i4_l3) (t14) σ K X)))
 (J28_8 env I3 m3 (s0_l3) (b3_l3) (i4_l3) (t14) σ K X))))
 (convD Go.Proofs.Try.prog σ 45 9 b3_l3 fun t28 =>
 (retV (t28) σ K)))))
theorem L28_3_eq (env : Env) (I3 : Nat → List AV → AS → Prop) (m3 : Nat) (s0_l3 b3_l3 i4_l3 : AV) (σ : AS) (K : AV → AS → Prop) (X : PV → AS → Prop) : L28_3 env I3 m3 s0_l3 b3_l3 i4_l3 σ K X = wpD Go.Proofs.Try.prog env an28 (subC (bodyC Go.Proofs.Try.f28) [1, 1, 0, 1, 0, 0]) (contQ Go.Proofs.Try.prog env an28 (bodyC Go.Proofs.Try.f28) [1, 1, 0, 1, 0, 0] [(I3, m3)] (rootQ Go.Proofs.Try.prog Go.Proofs.Try.f28 K X)) [(0, s0_l3), (3, b3_l3), (4, i4_l3)] σ := by
  unfold L28_3
  kernel_rfl
theorem lp28_3 {α : Type} {env : Env}  {s0_l3 : AV} {σ : AS} {K : AV → AS → Prop} {X : PV → AS → Prop} (μ : α → AS → Nat) (I : α → AS → Prop) (eb3_l3 ei4_l3 : α → AV) (a0 : α) (h0 : I a0 σ)
 (h : ∀ a σ, I a σ → L28_3 env  (Inv (fun a => [s0_l3, eb3_l3 a, ei4_l3 a]) μ I) (μ a σ) s0_l3 (eb3_l3 a) (ei4_l3 a) σ K X) :
 ∃ I3 : Nat → List AV → AS → Prop, (∃ m, I3 m [s0_l3, eb3_l3 a0, ei4_l3 a0] σ) ∧ ∀ (m : Nat) (x0 x1 x2 : AV), ∀ σ, I3 m [x0, x1, x2] σ →
 L28_3 env  I3 m x0 x1 x2 σ K X := by
  refine ⟨Inv (fun a => [s0_l3, eb3_l3 a, ei4_l3 a]) μ I, ⟨_, a0, rfl, rfl, h0⟩, ?_⟩
  rintro m x0 x1 x2 σ' ⟨a, hv, rfl, hI⟩
  simp only [List.cons.injEq, and_true] at hv
  obtain ⟨rfl, rfl, rfl⟩ := hv
  exact h a σ' hI
def S28 (env : Env) (s0_a : AV) (σ : AS) (K : AV → AS → Prop) (X : PV → AS → Prop) : Prop :=
 (∃ I3 : Nat → List AV → AS → Prop, (∃ m, I3 m [s0_a, (.nilS), (.pv (.int .i64 0))] σ) ∧ ∀ (m3 : Nat) (s0_l3 b3_l3 i4_l3 : AV), ∀ σ1, I3 m3 [s0_l3, b3_l3, i4_l3] σ1 →
 (L28_3 env I3 m3 s0_l3 b3_l3 i4_l3 σ1 K X))
theorem S28_eq (env : Env) (s0_a : AV) (σ : AS) (K : AV → AS → Prop) (X : PV → AS → Prop) : S28 env s0_a σ K X = bodyD Go.Proofs.Try.prog env an28 Go.Proofs.Try.f28 [s0_a] σ K X := by
  unfold S28
  simp only [L28_3_eq]
  kernel_rfl
theorem S28_ok : (match Go.Proofs.Try.f28.body with | some c => okCode an28 Go.Proofs.Try.prog Go.Proofs.Try.f28.ntmps c | none => false) = true := by kernel_rfl
/-! ### tedder/tedderref01.Lower (function 30) -/
def an30 : An := { mu := [], cut := [(8, [0, 3, 4, 5])], loop := [(3, [0, 3, 4])] }
def J30_8 (env : Env) (I3 : Nat → List AV → AS → Prop) (m3 : Nat) (s0_j8 b3_j8 i4_j8 c5_j8 : AV) (σ : AS) (K : AV → AS → Prop) (X : PV → AS → Prop) : Prop :=
 (buildSliceD Go.Proofs.Try.prog false σ 45 1 1 [(0, c5_j8)] fun t25 σ2 =>
 (appendD Go.Proofs.Try.prog false σ2 45 b3_j8 t25 fun t26 σ3 =>
 (binD Go.Proofs.Try.prog .add 3 i4_j8 (.pv (.int .i64 1)) fun t11 =>
 (∃ m', m' < m3 ∧ I3 m' [s0_j8, t26, t11] σ3))))
theorem J30_8_eq (env : Env) (I3 : Nat → List AV → AS → Prop) (m3 : Nat) (s0_j8 b3_j8 i4_j8 c5_j8 : AV) (σ : AS) (K : AV → AS → Prop) (X : PV → AS → Prop) : J30_8 env I3 m3 s0_j8 b3_j8 i4_j8 c5_j8 σ K X = wpD Go.Proofs.Try.prog env an30 (subC (bodyC Go.Proofs.Try.f30) [1, 1, 0, 1, 0, 0, 1, 0, 0, 1, 1]) (contQ Go.Proofs.Try.prog env an30 (bodyC Go.Proofs.Try.f30) [1, 1, 0, 1, 0, 0, 1, 0, 0, 1, 1] [(I3, m3)] (rootQ Go.Proofs.Try.prog Go.Proofs.Try.f30 K X)) [(0, s0_j8), (3, b3_j8), (4, i4_j8), (5, c5_j8)] σ := by
  unfold J30_8
  kernel_rfl
def L30_3 (env : Env) (I3 : Nat → List AV → AS → Prop) (m3 : Nat) (s0_l3 b3_l3 i4_l3 : AV) (σ : AS) (K : AV → AS → Prop) (X : PV → AS → Prop) : Prop :=
 (lenD Go.Proofs.Try.prog 9 s0_l3 fun t8 =>
 (binD Go.Proofs.Try.prog .lss 3 i4_l3 t8 fun t9 =>
 (condD t9
 (indexD Go.Proofs.Try.prog 9 s0_l3 i4_l3 fun t14 =>
 (binD Go.Proofs.Try.prog .geq 5 t14 (.pv (.int .u8 65)) fun t16 =>
 (guardD t16 true
 (binD Go.Proofs.Try.prog .leq 5 t14 (.pv (.int .u8 90)) fun t19 =>
 (condD t19
 (binD Go.Proofs.Try.prog .add 5 t14 (.pv (.int .u8 32)) fun t22 =>
 (J30_8 env I3 m3 (s0_l3) (b3_l3) (i4_l3) (t22) σ K X))
 (J30_8 env I3 m3 (s0_l3) (b3_l3) (i4_l3) (t14) σ K X)))
 (J30_8 env I3 m3 (s0_l3) (b3_l3) (i4_l3) (t14) σ K X))))
 (convD Go.Proofs.Try.prog σ 45 9 b3_l3 fun t28 =>
 (retV (t28) σ K)))))
theorem L30_3_eq (env : Env) (I3 : Nat → List AV → AS → Prop) (m3 : Nat) (s0_l3 b3_l3 i4_l3 : AV) (σ : AS) (K : AV → AS → Prop) (X : PV → AS → Prop) : L30_3 env I3 m3 s0_l3 b3_l3 i4_l3 σ K X = wpD Go.Proofs.Try.prog env an30 (subC (bodyC Go.Proofs.Try.f30) [1, 1, 0, 1, 0, 0]) (contQ Go.Proofs.Try.prog env an30 (bodyC Go.Proofs.Try.f30) [1, 1, 0, 1, 0, 0] [(I3, m3)] (rootQ Go.Proofs.Try.prog Go.Proofs.Try.f30 K X)) [(0, s0_l3), (3, b3_l3), (4, i4_l3)] σ := by
  unfold L30_3
  kernel_rfl
theorem lp30_3 {α : Type} {env : Env}  {s0_l3 : AV} {σ : AS} {K : AV → AS → Prop} {X : PV → AS → Prop} (μ : α → AS → Nat) (I : α → AS → Prop) (eb3_l3 ei4_l3 : α → AV) (a0 : α) (h0 : I a0 σ)
 (h : ∀ a σ, I a σ → L30_3 env  (Inv (fun a => [s0_l3, eb3_l3 a, ei4_l3 a]) μ I) (μ a σ) s0_l3 (eb3_l3 a) (ei4_l3 a) σ K X) :
 ∃ I3 : Nat → List AV → AS → Prop, (∃ m, I3 m [s0_l3, eb3_l3 a0, ei4_l3 a0] σ) ∧ ∀ (m : Nat) (x0 x1 x2 : AV), ∀ σ, I3 m [x0, x1, x2] σ →
 L30_3 env  I3 m x0 x1 x2 σ K X := by
  refine ⟨Inv (fun a => [s0_l3, eb3_l3 a, ei4_l3 a]) μ I, ⟨_, a0, rfl, rfl, h0⟩, ?_⟩
  rintro m x0 x1 x2 σ' ⟨a, hv, rfl, hI⟩
  simp only [List.cons.injEq, and_true] at hv
  obtain ⟨rfl, rfl, rfl⟩ := hv
  exact h a σ' hI
def S30 (env : Env) (s0_a : AV) (σ : AS) (K : AV → AS → Prop) (X : PV → AS → Prop) : Prop :=
 (∃ I3 : Nat → List AV → AS → Prop, (∃ m, I3 m [s0_a, (.nilS), (.pv (.int .i64 0))] σ) ∧ ∀ (m3 : Nat) (s0_l3 b3_l3 i4_l3 : AV), ∀ σ1, I3 m3 [s0_l3, b3_l3, i4_l3] σ1 →
 (L30_3 env I3 m3 s0_l3 b3_l3 i4_l3 σ1 K X))
theorem S30_eq (env : Env) (s0_a : AV) (σ : AS) (K : AV → AS → Prop) (X : PV → AS → Prop) : S30 env s0_a σ K X = bodyD Go.Proofs.Try.prog env an30 Go.Proofs.Try.f30 [s0_a] σ K X := by
  unfold S30
  simp only [L30_3_eq]
  kernel_rfl
theorem S30_ok : (match Go.Proofs.Try.f30.body with | some c => okCode an30 Go.Proofs.Try.prog Go.Proofs.Try.f30.ntmps c | none => false) = true := by kernel_rfl
/-! ### tedder/octet.Index (function 31) -/
def an31 : An := { mu := [], cut := [], loop := [] }
def S31 (env : Env) (s0_a t1_a : AV) (σ : AS) (K : AV → AS → Prop) (X : PV → AS → Prop) : Prop :=
 (binD Go.Proofs.Try.prog .eql 9 t1_a (.pv (.str [])) fun t6 =>
 (condD t6
 (retV ((.pv (.int .i64 0))) σ K)
 (env 51 [s0_a, t1_a] σ (fun t9 σ1 =>
 (binD Go.Proofs.Try.prog .add 3 t9 (.pv (.int .i64 1)) fun t10 =>
 (retV (t10) σ1 K))) (panV X))))
theorem S31_eq (env : Env) (s0_a t1_a : AV) (σ : AS) (K : AV → AS → Prop) (X : PV → AS → Prop) : S31 env s0_a t1_a σ K X = bodyD Go.Proofs.Try.prog env an31 Go.Proofs.Try.f31 [s0_a, t1_a] σ K X := by
  unfold S31
  kernel_rfl
theorem S31_ok : (match Go.Proofs.Try.f31.body with | some c => okCode an31 Go.Proofs.Try.prog Go.Proofs.Try.f31.ntmps c | none => false) = true := by kernel_rfl
/-! ### tedder/tedderref01.Index (function 32) -/
def an32 : An := { mu := [], cut := [], loop := [(4, [0, 1, 5])] }
def L32_4 (env : Env) (I4 : Nat → List AV → AS → Prop) (m4 : Nat) (s0_l4 t1_l4 i5_l4 : AV) (σ : AS) (K : AV → AS → Prop) (X : PV → AS → Prop) : Prop :=
 (lenD Go.Proofs.Try.prog 9 t1_l4 fun t10 =>
 (binD Go.Proofs.Try.prog .add 3 i5_l4 t10 fun t11 =>
 (lenD Go.Proofs.Try.prog 9 s0_l4 fun t13 =>
 (binD Go.Proofs.Try.prog .leq 3 t11 t13 fun t14 =>
 (condD t14
 (lenD Go.Proofs.Try.prog 9 t1_l4 fun t21 =>
 (binD Go.Proofs.Try.prog .add 3 i5_l4 t21 fun t22 =>
 (sliceD Go.Proofs.Try.prog 9 s0_l4 (some i5_l4) (some t22) fun t23 =>
 (binD Go.Proofs.Try.prog .eql 9 t23 t1_l4 fun t25 =>
 (condD t25
 (binD Go.Proofs.Try.prog .add 3 i5_l4 (.pv (.int .i64 1)) fun t27 =>
 (retV (t27) σ K))
 (binD Go.Proofs.Try.prog .add 3 i5_l4 (.pv (.int .i64 1)) fun t16 =>
 (∃ m', m' < m4 ∧ I4 m' [s0_l4, t1_l4, t16] σ)))))))
 (retV ((.pv (.int .i64 0))) σ K))))))
theorem L32_4_eq (env : Env) (I4 : Nat → List AV → AS → Prop) (m4 : Nat) (s0_l4 t1_l4 i5_l4 : AV) (σ : AS) (K : AV → AS → Prop) (X : PV → AS → Prop) : L32_4 env I4 m4 s0_l4 t1_l4 i5_l4 σ K X = wpD Go.Proofs.Try.prog env an32 (subC (bodyC Go.Proofs.Try.f32) [1, 1, 0, 1, 0, 0]) (contQ Go.Proofs.Try.prog env an32 (bodyC Go.Proofs.Try.f32) [1, 1, 0, 1, 0, 0] [(I4, m4)] (rootQ Go.Proofs.Try.prog Go.Proofs.Try.f32 K X)) [(0, s0_l4), (1, t1_l4), (5, i5_l4)] σ := by
  unfold L32_4
  kernel_rfl
theorem lp32_4 {α : Type} {env : Env}  {s0_l4 t1_l4 : AV} {σ : AS} {K : AV → AS → Prop} {X : PV → AS → Prop} (μ : α → AS → Nat) (I : α → AS → Prop) (ei5_l4 : α → AV) (a0 : α) (h0 : I a0 σ)
 (h : ∀ a σ, I a σ → L32_4 env  (Inv (fun a => [s0_l4, t1_l4, ei5_l4 a]) μ I) (μ a σ) s0_l4 t1_l4 (ei5_l4 a) σ K X) :
 ∃ I4 : Nat → List AV → AS → Prop, (∃ m, I4 m [s0_l4, t1_l4, ei5_l4 a0] σ) ∧ ∀ (m : Nat) (x0 x1 x2 : AV), ∀ σ, I4 m [x0, x1, x2] σ →
 L32_4 env  I4 m x0 x1 x2 σ K X := by
  refine ⟨Inv (fun a => [s0_l4, t1_l4, ei5_l4 a]) μ I, ⟨_, a0, rfl, rfl, h0⟩, ?_⟩
  rintro m x0 x1 x2 σ' ⟨a, hv, rfl, hI⟩
  simp only [List.cons.injEq, and_true] at hv
  obtain ⟨rfl, rfl, rfl⟩ := hv
  exact h a σ' hI
def S32 (env : Env) (s0_a t1_a : AV) (σ : AS) (K : AV → AS → Prop) (X : PV → AS → Prop) : Prop :=
 (binD Go.Proofs.Try.prog .eql 9 t1_a (.pv (.str [])) fun t7 =>
 (condD t7
 (retV ((.pv (.int .i64 0))) σ K)
 (∃ I4 : Nat → List AV → AS → Prop, (∃ m, I4 m [s0_a, t1_a, (.pv (.int .i64 0))] σ) ∧ ∀ (m4 : Nat) (s0_l4 t1_l4 i5_l4 : AV), ∀ σ1, I4 m4 [s0_l4, t1_l4, i5_l4] σ1 →
 (L32_4 env I4 m4 s0_l4 t1_l4 i5_l4 σ1 K X))))
theorem S32_eq (env : Env) (s0_a t1_a : AV) (σ : AS) (K : AV → AS → Prop) (X : PV → AS → Prop) : S32 env s0_a t1_a σ K X = bodyD Go.Proofs.Try.prog env an32 Go.Proofs.Try.f32 [s0_a, t1_a] σ K X := by
  unfold S32
  simp only [L32_4_eq]
  kernel_rfl
theorem S32_ok : (match Go.Proofs.Try.f32.body with | some c => okCode an32 Go.Proofs.Try.prog Go.Proofs.Try.f32.ntmps c | none => false) = true := by kernel_rfl
/-! ### tedder/tedderlaw01.awake (function 17) -/
def an17 : An := { mu := [], cut := [], loop := [] }
def S17 (env : Env) (σ : AS) (K : AV → AS → Prop) (X : PV → AS → Prop) : Prop :=
 (env 18 [(.pv (.str [104, 101, 108, 108, 111])), (.pv (.int .i64 0)), (.pv (.int .i64 3))] σ (fun t1 σ1 =>
 (binD Go.Proofs.Try.prog .eql 9 t1 (.pv (.str [104, 101])) fun t2 =>
 (guardD t2 true
 (env 20 [(.pv (.str [10]))] σ1 (fun t4 σ2 =>
 (binD Go.Proofs.Try.prog .eql 9 t4 (.pv (.str [92, 48, 49, 50])) fun t5 =>
 (guardD t5 true
 (env 27 [(.pv (.str [97]))] σ2 (fun t8 σ3 =>
 (binD Go.Proofs.Try.prog .eql 9 t8 (.pv (.str [65])) fun t9 =>
 (retV (t9) σ3 K))) (panV X))
 (retV ((.pv (.bool false))) σ2 K)))) (panV X))
 (retV ((.pv (.bool false))) σ1 K)))) (panV X))
theorem S17_eq (env : Env) (σ : AS) (K : AV → AS → Prop) (X : PV → AS → Prop) : S17 env  σ K X = bodyD Go.Proofs.Try.prog env an17 Go.Proofs.Try.f17 [] σ K X := by
  unfold S17
  kernel_rfl
theorem S17_ok : (match Go.Proofs.Try.f17.body with | some c => okCode an17 Go.Proofs.Try.prog Go.Proofs.Try.f17.ntmps c | none => false) = true := by kernel_rfl
/-! ### tedder/tedderlaw01.OctetCuts (function 5) -/
def an5 : An := { mu := [], cut := [], loop := [] }
def S5 (env : Env) (s0_a from1_a n2_a : AV) (σ : AS) (K : AV → AS → Prop) (X : PV → AS → Prop) : Prop :=
 (env 17 [] σ (fun t7 σ1 =>
 (unD .not t7 fun t8 =>
 (condD t8
 (retV ((.pv (.bool false))) σ1 K)
 (lenD Go.Proofs.Try.prog 9 s0_a fun t10 =>
 (binD Go.Proofs.Try.prog .gtr 3 t10 (.pv (.int .i64 5000)) fun t11 =>
 (condD t11
 (retV ((.pv (.bool true))) σ1 K)
 (env 18 [s0_a, from1_a, n2_a] σ1 (fun t15 σ2 =>
 (env 19 [s0_a, from1_a, n2_a] σ2 (fun t19 σ3 =>
 (binD Go.Proofs.Try.prog .eql 9 t15 t19 fun t20 =>
 (retV (t20) σ3 K))) (panV X))) (panV X)))))))) (panV X))
theorem S5_eq (env : Env) (s0_a from1_a n2_a : AV) (σ : AS) (K : AV → AS → Prop) (X : PV → AS → Prop) : S5 env s0_a from1_a n2_a σ K X = bodyD Go.Proofs.Try.prog env an5 Go.Proofs.Try.f5 [s0_a, from1_a, n2_a] σ K X := by
  unfold S5
  kernel_rfl
theorem S5_ok : (match Go.Proofs.Try.f5.body with | some c => okCode an5 Go.Proofs.Try.prog Go.Proofs.Try.f5.ntmps c | none => false) = true := by kernel_rfl
/-! ### tedder/tedderlaw01.OctetParts (function 6) -/
def an6 : An := { mu := [], cut := [], loop := [] }
def S6 (env : Env) (s0_a at1_a : AV) (σ : AS) (K : AV → AS → Prop) (X : PV → AS → Prop) : Prop :=
 (env 17 [] σ (fun t6 σ1 =>
 (unD .not t6 fun t7 =>
 (condD t7
 (retV ((.pv (.bool false))) σ1 K)
 (lenD Go.Proofs.Try.prog 9 s0_a fun t9 =>
 (binD Go.Proofs.Try.prog .gtr 3 t9 (.pv (.int .i64 5000)) fun t10 =>
 (condD t10
 (retV ((.pv (.bool true))) σ1 K)
 (foldD max2D at1_a [(.pv (.int .i64 0))] fun t12 =>
 (lenD Go.Proofs.Try.prog 9 s0_a fun t14 =>
 (foldD min2D t12 [t14] fun t15 =>
 (env 18 [s0_a, (.pv (.int .i64 1)), t15] σ1 (fun t18 σ2 =>
 (binD Go.Proofs.Try.prog .add 3 t15 (.pv (.int .i64 1)) fun t21 =>
 (lenD Go.Proofs.Try.prog 9 s0_a fun t23 =>
 (env 18 [s0_a, t21, t23] σ2 (fun t24 σ3 =>
 (binD Go.Proofs.Try.prog .add 9 t18 t24 fun t25 =>
 (binD Go.Proofs.Try.prog .eql 9 t25 s0_a fun t27 =>
 (guardD t27 true
 (env 18 [s0_a, at1_a, (.pv (.int .i64 0))] σ3 (fun t31 σ4 =>
 (binD Go.Proofs.Try.prog .eql 9 t31 (.pv (.str [])) fun t32 =>
 (retV (t32) σ4 K))) (panV X))
 (retV ((.pv (.bool false))) σ3 K))))) (panV X))))) (panV X))))))))))) (panV X))
theorem S6_eq (env : Env) (s0_a at1_a : AV) (σ : AS) (K : AV → AS → Prop) (X : PV → AS → Prop) : S6 env s0_a at1_a σ K X = bodyD Go.Proofs.Try.prog env an6 Go.Proofs.Try.f6 [s0_a, at1_a] σ K X := by
  unfold S6
  kernel_rfl
theorem S6_ok : (match Go.Proofs.Try.f6.body with | some c => okCode an6 Go.Proofs.Try.prog Go.Proofs.Try.f6.ntmps c | none => false) = true := by kernel_rfl
/-! ### tedder/tedderlaw01.OctetShows (function 7) -/
def an7 : An := { mu := [], cut := [], loop := [(7, [0, 3, 4])] }
def L7_7 (env : Env) (I7 : Nat → List AV → AS → Prop) (m7 : Nat) (s0_l7 t3_l7 i4_l7 : AV) (σ : AS) (K : AV → AS → Prop) (X : PV → AS → Prop) : Prop :=
 (lenD Go.Proofs.Try.prog 9 t3_l7 fun t14 =>
 (binD Go.Proofs.Try.prog .lss 3 i4_l7 t14 fun t15 =>
 (condD t15
 (indexD Go.Proofs.Try.prog 9 t3_l7 i4_l7 fun t20 =>
 (binD Go.Proofs.Try.prog .lss 5 t20 (.pv (.int .u8 32)) fun t21 =>
 (guardD t21 false
 (indexD Go.Proofs.Try.prog 9 t3_l7 i4_l7 fun t25 =>
 (binD Go.Proofs.Try.prog .gtr 5 t25 (.pv (.int .u8 126)) fun t26 =>
 (condD t26
 (retV ((.pv (.bool false))) σ K)
 (binD Go.Proofs.Try.prog .add 3 i4_l7 (.pv (.int .i64 1)) fun t17 =>
 (∃ m', m' < m7 ∧ I7 m' [s0_l7, t3_l7, t17] σ)))))
 (retV ((.pv (.bool false))) σ K))))
 (env 21 [s0_l7] σ (fun t30 σ4 =>
 (binD Go.Proofs.Try.prog .eql 9 t3_l7 t30 fun t31 =>
 (retV (t31) σ4 K))) (panV X)))))
theorem L7_7_eq (env : Env) (I7 : Nat → List AV → AS → Prop) (m7 : Nat) (s0_l7 t3_l7 i4_l7 : AV) (σ : AS) (K : AV → AS → Prop) (X : PV → AS → Prop) : L7_7 env I7 m7 s0_l7 t3_l7 i4_l7 σ K X = wpD Go.Proofs.Try.prog env an7 (subC (bodyC Go.Proofs.Try.f7) [1, 1, 1, 1, 0, 1, 0, 0]) (contQ Go.Proofs.Try.prog env an7 (bodyC Go.Proofs.Try.f7) [1, 1, 1, 1, 0, 1, 0, 0] [(I7, m7)] (rootQ Go.Proofs.Try.prog Go.Proofs.Try.f7 K X)) [(0, s0_l7), (3, t3_l7), (4, i4_l7)] σ := by
  unfold L7_7
  kernel_rfl
theorem lp7_7 {α : Type} {env : Env}  {s0_l7 t3_l7 : AV} {σ : AS} {K : AV → AS → Prop} {X : PV → AS → Prop} (μ : α → AS → Nat) (I : α → AS → Prop) (ei4_l7 : α → AV) (a0 : α) (h0 : I a0 σ)
 (h : ∀ a σ, I a σ → L7_7 env  (Inv (fun a => [s0_l7, t3_l7, ei4_l7 a]) μ I) (μ a σ) s0_l7 t3_l7 (ei4_l7 a) σ K X) :
 ∃ I7 : Nat → List AV → AS → Prop, (∃ m, I7 m [s0_l7, t3_l7, ei4_l7 a0] σ) ∧ ∀ (m : Nat) (x0 x1 x2 : AV), ∀ σ, I7 m [x0, x1, x2] σ →
 L7_7 env  I7 m x0 x1 x2 σ K X := by
  refine ⟨Inv (fun a => [s0_l7, t3_l7, ei4_l7 a]) μ I, ⟨_, a0, rfl, rfl, h0⟩, ?_⟩
  rintro m x0 x1 x2 σ' ⟨a, hv, rfl, hI⟩
  simp only [List.cons.injEq, and_true] at hv
  obtain ⟨rfl, rfl, rfl⟩ := hv
  exact h a σ' hI
def S7 (env : Env) (s0_a : AV) (σ : AS) (K : AV → AS → Prop) (X : PV → AS → Prop) : Prop :=
 (env 17 [] σ (fun t5 σ1 =>
 (unD .not t5 fun t6 =>
 (condD t6
 (retV ((.pv (.bool false))) σ1 K)
 (lenD Go.Proofs.Try.prog 9 s0_a fun t8 =>
 (binD Go.Proofs.Try.prog .gtr 3 t8 (.pv (.int .i64 2000)) fun t9 =>
 (condD t9
 (retV ((.pv (.bool true))) σ1 K)
 (env 20 [s0_a] σ1 (fun t11 σ2 =>
 (∃ I7 : Nat → List AV → AS → Prop, (∃ m, I7 m [s0_a, t11, (.pv (.int .i64 0))] σ2) ∧ ∀ (m7 : Nat) (s0_l7 t3_l7 i4_l7 : AV), ∀ σ3, I7 m7 [s0_l7, t3_l7, i4_l7] σ3 →
 (L7_7 env I7 m7 s0_l7 t3_l7 i4_l7 σ3 K X))) (panV X)))))))) (panV X))
theorem S7_eq (env : Env) (s0_a : AV) (σ : AS) (K : AV → AS → Prop) (X : PV → AS → Prop) : S7 env s0_a σ K X = bodyD Go.Proofs.Try.prog env an7 Go.Proofs.Try.f7 [s0_a] σ K X := by
  unfold S7
  simp only [L7_7_eq]
  kernel_rfl
theorem S7_ok : (match Go.Proofs.Try.f7.body with | some c => okCode an7 Go.Proofs.Try.prog Go.Proofs.Try.f7.ntmps c | none => false) = true := by kernel_rfl
/-! ### tedder/tedderlaw01.OctetCases (function 11) -/
def an11 : An := { mu := [], cut := [], loop := [] }
def S11 (env : Env) (s0_a : AV) (σ : AS) (K : AV → AS → Prop) (X : PV → AS → Prop) : Prop :=
 (env 17 [] σ (fun t3 σ1 =>
 (unD .not t3 fun t4 =>
 (condD t4
 (retV ((.pv (.bool false))) σ1 K)
 (lenD Go.Proofs.Try.prog 9 s0_a fun t6 =>
 (binD Go.Proofs.Try.prog .gtr 3 t6 (.pv (.int .i64 5000)) fun t7 =>
 (condD t7
 (retV ((.pv (.bool true))) σ1 K)
 (env 27 [s0_a] σ1 (fun t9 σ2 =>
 (env 28 [s0_a] σ2 (fun t11 σ3 =>
 (binD Go.Proofs.Try.prog .eql 9 t9 t11 fun t12 =>
 (guardD t12 true
 (env 29 [s0_a] σ3 (fun t15 σ4 =>
 (env 30 [s0_a] σ4 (fun t17 σ5 =>
 (binD Go.Proofs.Try.prog .eql 9 t15 t17 fun t18 =>
 (guardD t18 true
 (env 29 [s0_a] σ5 (fun t22 σ6 =>
 (env 27 [t22] σ6 (fun t23 σ7 =>
 (env 27 [s0_a] σ7 (fun t25 σ8 =>
 (binD Go.Proofs.Try.prog .eql 9 t23 t25 fun t26 =>
 (retV (t26) σ8 K))) (panV X))) (panV X))) (panV X))
 (retV ((.pv (.bool false))) σ5 K)))) (panV X))) (panV X))
 (retV ((.pv (.bool false))) σ3 K)))) (panV X))) (panV X)))))))) (panV X))
theorem S11_eq (env : Env) (s0_a : AV) (σ : AS) (K : AV → AS → Prop) (X : PV → AS → Prop) : S11 env s0_a σ K X = bodyD Go.Proofs.Try.prog env an11 Go.Proofs.Try.f11 [s0_a] σ K X := by
  unfold S11
  kernel_rfl
theorem S11_ok : (match Go.Proofs.Try.f11.body with | some c => okCode an11 Go.Proofs.Try.prog Go.Proofs.Try.f11.ntmps c | none => false) = true := by kernel_rfl
/-! ### tedder/tedderlaw01.OctetIndex (function 12) -/
def an12 : An := { mu := [], cut := [(5, [0, 1])], loop := [] }
def J12_5 (env : Env)  (s0_j5 t1_j5 : AV) (σ : AS) (K : AV → AS → Prop) (X : PV → AS → Prop) : Prop :=
 (env 31 [s0_j5, t1_j5] σ (fun t17 σ2 =>
 (env 32 [s0_j5, t1_j5] σ2 (fun t20 σ3 =>
 (binD Go.Proofs.Try.prog .eql 3 t17 t20 fun t21 =>
 (retV (t21) σ3 K))) (panV X))) (panV X))
theorem J12_5_eq (env : Env)  (s0_j5 t1_j5 : AV) (σ : AS) (K : AV → AS → Prop) (X : PV → AS → Prop) : J12_5 env  s0_j5 t1_j5 σ K X = wpD Go.Proofs.Try.prog env an12 (subC (bodyC Go.Proofs.Try.f12) [1, 1, 1]) (contQ Go.Proofs.Try.prog env an12 (bodyC Go.Proofs.Try.f12) [1, 1, 1] [] (rootQ Go.Proofs.Try.prog Go.Proofs.Try.f12 K X)) [(0, s0_j5), (1, t1_j5)] σ := by
  unfold J12_5
  kernel_rfl
def S12 (env : Env) (s0_a t1_a : AV) (σ : AS) (K : AV → AS → Prop) (X : PV → AS → Prop) : Prop :=
 (env 17 [] σ (fun t5 σ1 =>
 (unD .not t5 fun t6 =>
 (condD t6
 (retV ((.pv (.bool false))) σ1 K)
 (lenD Go.Proofs.Try.prog 9 s0_a fun t8 =>
 (binD Go.Proofs.Try.prog .gtr 3 t8 (.pv (.int .i64 5000)) fun t9 =>
 (guardD t9 false
 (lenD Go.Proofs.Try.prog 9 t1_a fun t12 =>
 (binD Go.Proofs.Try.prog .gtr 3 t12 (.pv (.int .i64 5000)) fun t13 =>
 (condD t13
 (retV ((.pv (.bool true))) σ1 K)
 (J12_5 env  (s0_a) (t1_a) σ1 K X))))
 (retV ((.pv (.bool true))) σ1 K))))))) (panV X))
theorem S12_eq (env : Env) (s0_a t1_a : AV) (σ : AS) (K : AV → AS → Prop) (X : PV → AS → Prop) : S12 env s0_a t1_a σ K X = bodyD Go.Proofs.Try.prog env an12 Go.Proofs.Try.f12 [s0_a, t1_a] σ K X := by
  unfold S12
  kernel_rfl
theorem S12_ok : (match Go.Proofs.Try.f12.body with | some c => okCode an12 Go.Proofs.Try.prog Go.Proofs.Try.f12.ntmps c | none => false) = true := by kernel_rfl
/-! ### tedder/tedderlaw01.OctetUnlike (function 13) -/
def an13 : An := { mu := [], cut := [(5, [0, 1])], loop := [] }
def J13_5 (env : Env)  (s0_j5 t1_j5 : AV) (σ : AS) (K : AV → AS → Prop) (X : PV → AS → Prop) : Prop :=
 (env 20 [s0_j5] σ (fun t26 σ4 =>
 (env 20 [t1_j5] σ4 (fun t28 σ5 =>
 (binD Go.Proofs.Try.prog .eql 9 t26 t28 fun t29 =>
 (binD Go.Proofs.Try.prog .eql 9 s0_j5 t1_j5 fun t32 =>
 (binD Go.Proofs.Try.prog .eql 4 t29 t32 fun t33 =>
 (retV (t33) σ5 K))))) (panV X))) (panV X))
theorem J13_5_eq (env : Env)  (s0_j5 t1_j5 : AV) (σ : AS) (K : AV → AS → Prop) (X : PV → AS → Prop) : J13_5 env  s0_j5 t1_j5 σ K X = wpD Go.Proofs.Try.prog env an13 (subC (bodyC Go.Proofs.Try.f13) [1, 1, 1]) (contQ Go.Proofs.Try.prog env an13 (bodyC Go.Proofs.Try.f13) [1, 1, 1] [] (rootQ Go.Proofs.Try.prog Go.Proofs.Try.f13 K X)) [(0, s0_j5), (1, t1_j5)] σ := by
  unfold J13_5
  kernel_rfl
def S13 (env : Env) (s0_a t1_a : AV) (σ : AS) (K : AV → AS → Prop) (X : PV → AS → Prop) : Prop :=
 (env 17 [] σ (fun t5 σ1 =>
 (unD .not t5 fun t6 =>
 (condD t6
 (retV ((.pv (.bool false))) σ1 K)
 (lenD Go.Proofs.Try.prog 9 s0_a fun t8 =>
 (binD Go.Proofs.Try.prog .gtr 3 t8 (.pv (.int .i64 2000)) fun t9 =>
 (guardD t9 false
 (lenD Go.Proofs.Try.prog 9 t1_a fun t12 =>
 (binD Go.Proofs.Try.prog .gtr 3 t12 (.pv (.int .i64 2000)) fun t13 =>
 (guardD t13 false
 (env 31 [s0_a, (.pv (.str [60]))] σ1 (fun t17 σ2 =>
 (binD Go.Proofs.Try.prog .neq 3 t17 (.pv (.int .i64 0)) fun t18 =>
 (guardD t18 false
 (env 31 [t1_a, (.pv (.str [60]))] σ2 (fun t22 σ3 =>
 (binD Go.Proofs.Try.prog .neq 3 t22 (.pv (.int .i64 0)) fun t23 =>
 (condD t23
 (retV ((.pv (.bool true))) σ3 K)
 (J13_5 env  (s0_a) (t1_a) σ3 K X)))) (panV X))
 (retV ((.pv (.bool true))) σ2 K)))) (panV X))
 (retV ((.pv (.bool true))) σ1 K))))
 (retV ((.pv (.bool true))) σ1 K))))))) (panV X))
theorem S13_eq (env : Env) (s0_a t1_a : AV) (σ : AS) (K : AV → AS → Prop) (X : PV → AS → Prop) : S13 env s0_a t1_a σ K X = bodyD Go.Proofs.Try.prog env an13 Go.Proofs.Try.f13 [s0_a, t1_a] σ K X := by
  unfold S13
  kernel_rfl
theorem S13_ok : (match Go.Proofs.Try.f13.body with | some c => okCode an13 Go.Proofs.Try.prog Go.Proofs.Try.f13.ntmps c | none => false) = true := by kernel_rfl
end Go.AD
