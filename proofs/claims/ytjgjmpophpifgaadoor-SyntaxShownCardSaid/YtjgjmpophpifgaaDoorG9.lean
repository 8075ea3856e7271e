/- Bodies in the calculus' own words. Printed by gen.py, a program of this claim's own. -/
import Derived.Test.YtjgjmpophpifgaaDoorTy
set_option linter.unusedVariables false
set_option maxRecDepth 100000
namespace Go.AD
open Go.Proofs.Tryd
/-! ### (*tedder/syntax.parser).at (function 60) -/
def an60 : An := { mu := [], cut := [], loop := [] }
def S60 (env : Env) (p0_a k1_a : AV) (σ : AS) (K : AV → AS → Prop) (X : PV → AS → Prop) : Prop :=
 (lock allocD prog σ 52 fun t4 σ1 =>
 (lock nilD p0_a fun t7 =>
 (lock fieldAddrD prog 59 t7 0 fun t8 =>
 (lock loadD prog σ1 47 t8 fun t9 =>
 (lock lenD prog 47 t9 fun t10 =>
 (lock binD prog .lss 3 k1_a t10 fun t11 =>
 (condD t11
 (lock nilD p0_a fun t13 =>
 (lock fieldAddrD prog 59 t13 0 fun t14 =>
 (lock loadD prog σ1 47 t14 fun t15 =>
 (lock indexAddrD prog 47 t15 k1_a fun t17 =>
 (lock loadD prog σ1 52 t17 fun t18 =>
 (lock storeD prog σ1 52 t4 t18 fun σ2 =>
 (lock loadD prog σ2 52 t4 fun r0 =>
 (retV (r0) σ2 K))))))))
 (lock loadD prog σ1 52 (.glob 0) fun t19 =>
 (lock storeD prog σ1 52 t4 t19 fun σ3 =>
 (lock loadD prog σ3 52 t4 fun r0 =>
 (retV (r0) σ3 K)))))))))))
theorem S60_eq (env : Env) (p0_a k1_a : AV) (σ : AS) (K : AV → AS → Prop) (X : PV → AS → Prop) : S60 env p0_a k1_a σ K X = bodyD prog env an60 f60 [p0_a, k1_a] σ K X := by
  unfold S60
  kernel_rfl
theorem S60_ok : (match f60.body with | some c => okCode an60 prog f60.ntmps c | none => false) = true := by kernel_rfl
/-! ### (*tedder/syntax.parser).drop (function 62) -/
def an62 : An := { mu := [], cut := [], loop := [] }
def S62 (env : Env) (p0_a k1_a : AV) (σ : AS) (K : AV → AS → Prop) (X : PV → AS → Prop) : Prop :=
 (lock nilD p0_a fun t6 =>
 (lock fieldAddrD prog 59 t6 0 fun t7 =>
 (lock loadD prog σ 47 t7 fun t8 =>
 (lock sliceD prog 47 t8 (some k1_a) none fun t10 =>
 (lock nilD p0_a fun t11 =>
 (lock fieldAddrD prog 59 t11 0 fun t12 =>
 (lock storeD prog σ 47 t12 t10 fun σ1 =>
 (retV (.tuple []) σ1 K))))))))
theorem S62_eq (env : Env) (p0_a k1_a : AV) (σ : AS) (K : AV → AS → Prop) (X : PV → AS → Prop) : S62 env p0_a k1_a σ K X = bodyD prog env an62 f62 [p0_a, k1_a] σ K X := by
  unfold S62
  kernel_rfl
theorem S62_ok : (match f62.body with | some c => okCode an62 prog f62.ntmps c | none => false) = true := by kernel_rfl
/-! ### tedder/syntax.op (function 61) -/
def an61 : An := { mu := [], cut := [], loop := [] }
def S61 (env : Env) (t0_a : AV) (σ : AS) (K : AV → AS → Prop) (X : PV → AS → Prop) : Prop :=
 (lock allocD prog σ 52 fun t2 σ1 =>
 (lock buildD prog 52 [(0, (.pv (.str [111, 112]))), (1, t0_a)] fun t4 =>
 (lock storeD prog σ1 52 t2 t4 fun σ2 =>
 (lock loadD prog σ2 52 t2 fun r0 =>
 (retV (r0) σ2 K)))))
theorem S61_eq (env : Env) (t0_a : AV) (σ : AS) (K : AV → AS → Prop) (X : PV → AS → Prop) : S61 env t0_a σ K X = bodyD prog env an61 f61 [t0_a] σ K X := by
  unfold S61
  kernel_rfl
theorem S61_ok : (match f61.body with | some c => okCode an61 prog f61.ntmps c | none => false) = true := by kernel_rfl
/-! ### tedder/syntax.word (function 67) -/
def an67 : An := { mu := [], cut := [], loop := [] }
def S67 (env : Env) (t0_a : AV) (σ : AS) (K : AV → AS → Prop) (X : PV → AS → Prop) : Prop :=
 (lock allocD prog σ 52 fun t2 σ1 =>
 (lock buildD prog 52 [(0, (.pv (.str [119, 111, 114, 100]))), (1, t0_a)] fun t4 =>
 (lock storeD prog σ1 52 t2 t4 fun σ2 =>
 (lock loadD prog σ2 52 t2 fun r0 =>
 (retV (r0) σ2 K)))))
theorem S67_eq (env : Env) (t0_a : AV) (σ : AS) (K : AV → AS → Prop) (X : PV → AS → Prop) : S67 env t0_a σ K X = bodyD prog env an67 f67 [t0_a] σ K X := by
  unfold S67
  kernel_rfl
theorem S67_ok : (match f67.body with | some c => okCode an67 prog f67.ntmps c | none => false) = true := by kernel_rfl
/-! ### (*tedder/syntax.parser).take (function 66) -/
def an66 : An := { mu := [], cut := [], loop := [], any := [1] }
def S66 (env : Env) (p0_a t1_a : AV) (σ : AS) (K : AV → AS → Prop) (X : PV → AS → Prop) : Prop :=
 (lock boxD σ t1_a fun t3 σ1 =>
 ((env 60 [p0_a, (.pv (.int .i64 0))] σ1 (fun t7 σ4 =>
 ((lock loadD prog σ4 52 t3 fun t8 =>
 ((lock binD prog .eql 52 t7 t8 fun t9 =>
 (condD t9
 (env 62 [p0_a, (.pv (.int .i64 1))] σ4 (fun t12 σ5 =>
 (retV (t9) σ5 K)) (panV X))
 (retV (t9) σ4 K))) ∧ True)) ∧ True)) (panV X)) ∧ ((lock loadD prog σ1 52 t3 fun t8 =>
 ((env 60 [p0_a, (.pv (.int .i64 0))] σ1 (fun t7 σ2 =>
 ((lock binD prog .eql 52 t7 t8 fun t9 =>
 (condD t9
 (env 62 [p0_a, (.pv (.int .i64 1))] σ2 (fun t12 σ3 =>
 (retV (t9) σ3 K)) (panV X))
 (retV (t9) σ2 K))) ∧ True)) (panV X)) ∧ True)) ∧ True)))
theorem S66_eq (env : Env) (p0_a t1_a : AV) (σ : AS) (K : AV → AS → Prop) (X : PV → AS → Prop) : S66 env p0_a t1_a σ K X = bodyD prog env an66 f66 [p0_a, t1_a] σ K X := by
  unfold S66
  kernel_rfl
theorem S66_ok : (match f66.body with | some c => okCode an66 prog f66.ntmps c | none => false) = true := by kernel_rfl
/-! ### (*tedder/syntax.parser).need (function 97) -/
def an97 : An := { mu := [], cut := [], loop := [] }
def S97 (env : Env) (p0_a t1_a : AV) (σ : AS) (K : AV → AS → Prop) (X : PV → AS → Prop) : Prop :=
 (lock boxD σ t1_a fun t3 σ1 =>
 (lock loadD prog σ1 52 t3 fun t5 =>
 (env 66 [p0_a, t5] σ1 (fun t6 σ2 =>
 (unD .not t6 fun t7 =>
 (condD t7
 (lock buildD prog 54 [] fun t8 =>
 (lock ifaceD prog 54 t8 fun t9 =>
 (lock panicD σ2 t9 (panV X))))
 (retV (.tuple []) σ2 K)))) (panV X))))
theorem S97_eq (env : Env) (p0_a t1_a : AV) (σ : AS) (K : AV → AS → Prop) (X : PV → AS → Prop) : S97 env p0_a t1_a σ K X = bodyD prog env an97 f97 [p0_a, t1_a] σ K X := by
  unfold S97
  kernel_rfl
theorem S97_ok : (match f97.body with | some c => okCode an97 prog f97.ntmps c | none => false) = true := by kernel_rfl
/-! ### (*tedder/syntax.parser).kind (function 99) -/
def an99 : An := { mu := [], cut := [], loop := [(3, [0, 4, 5, 10, 11, 12])] }
def L99_3 (env : Env) (I3 : Nat → List AV → AS → Prop) (m3 : Nat) (p0_l3 t4_l3 t5_l3 t10_l3 t11_l3 t12_l3 : AV) (σ : AS) (K : AV → AS → Prop) (X : PV → AS → Prop) : Prop :=
 (lock binD prog .lss 3 t12_l3 t11_l3 fun t13 =>
 (condD t13
 (lock indexAddrD prog 27 t10_l3 t12_l3 fun t14 =>
 (lock loadD prog σ 9 t14 fun t15 =>
 (lock fieldAddrD prog 52 t5_l3 0 fun t16 =>
 (lock loadD prog σ 9 t16 fun t17 =>
 (lock binD prog .eql 9 t17 t15 fun t19 =>
 (condD t19
 (env 62 [p0_l3, (.pv (.int .i64 1))] σ (fun t21 σ5 =>
 (lock fieldAddrD prog 52 t5_l3 1 fun t22 =>
 (lock loadD prog σ5 9 t22 fun t23 =>
 (retV (t23) σ5 K)))) (panV X))
 (lock binD prog .add 3 t12_l3 (.pv (.int .i64 1)) fun t24 =>
 (∃ m', m' < m3 ∧ I3 m' [p0_l3, t4_l3, t5_l3, t10_l3, t11_l3, t24] σ))))))))
 (lock buildD prog 54 [] fun t25 =>
 (lock ifaceD prog 54 t25 fun t26 =>
 (lock panicD σ t26 (panV X))))))
theorem L99_3_eq (env : Env) (I3 : Nat → List AV → AS → Prop) (m3 : Nat) (p0_l3 t4_l3 t5_l3 t10_l3 t11_l3 t12_l3 : AV) (σ : AS) (K : AV → AS → Prop) (X : PV → AS → Prop) : L99_3 env I3 m3 p0_l3 t4_l3 t5_l3 t10_l3 t11_l3 t12_l3 σ K X = wpD prog env an99 (subC (bodyC f99) [1, 1, 0, 1, 0, 0]) (contQ prog env an99 (bodyC f99) [1, 1, 0, 1, 0, 0] [(I3, m3)] (rootQ prog f99 K X)) [(0, p0_l3), (4, t4_l3), (5, t5_l3), (10, t10_l3), (11, t11_l3), (12, t12_l3)] σ := by
  unfold L99_3
  kernel_rfl
theorem lp99_3 {α : Type} {env : Env}  {p0_l3 t5_l3 t10_l3 t11_l3 : AV} {σ : AS} {K : AV → AS → Prop} {X : PV → AS → Prop} (μ : α → AS → Nat) (I : α → AS → Prop) (et4_l3 et12_l3 : α → AV) (a0 : α) (h0 : I a0 σ)
 (h : ∀ a σ, I a σ → L99_3 env  (Inv (fun a => [p0_l3, et4_l3 a, t5_l3, t10_l3, t11_l3, et12_l3 a]) μ I) (μ a σ) p0_l3 (et4_l3 a) t5_l3 t10_l3 t11_l3 (et12_l3 a) σ K X) :
 ∃ I3 : Nat → List AV → AS → Prop, (∃ m, I3 m [p0_l3, et4_l3 a0, t5_l3, t10_l3, t11_l3, et12_l3 a0] σ) ∧ ∀ (m : Nat) (x0 x1 x2 x3 x4 x5 : AV), ∀ σ, I3 m [x0, x1, x2, x3, x4, x5] σ →
 L99_3 env  I3 m x0 x1 x2 x3 x4 x5 σ K X := by
  refine ⟨Inv (fun a => [p0_l3, et4_l3 a, t5_l3, t10_l3, t11_l3, et12_l3 a]) μ I, ⟨_, a0, rfl, rfl, h0⟩, ?_⟩
  rintro m x0 x1 x2 x3 x4 x5 σ' ⟨a, hv, rfl, hI⟩
  simp only [List.cons.injEq, and_true] at hv
  obtain ⟨rfl, rfl, rfl, rfl, rfl, rfl⟩ := hv
  exact h a σ' hI
def S99 (env : Env) (p0_a kinds1_a : AV) (σ : AS) (K : AV → AS → Prop) (X : PV → AS → Prop) : Prop :=
 (env 60 [p0_a, (.pv (.int .i64 0))] σ (fun t9 σ1 =>
 (lock allocD prog σ1 52 fun t5 σ2 =>
 (lock storeD prog σ2 52 t5 t9 fun σ3 =>
 (lock lenD prog 27 kinds1_a fun t11 =>
 (∃ I3 : Nat → List AV → AS → Prop, (∃ m, I3 m [p0_a, (.pv (.str [])), t5, kinds1_a, t11, (.pv (.int .i64 0))] σ3) ∧ ∀ (m3 : Nat) (p0_l3 t4_l3 t5_l3 t10_l3 t11_l3 t12_l3 : AV), ∀ σ4, I3 m3 [p0_l3, t4_l3, t5_l3, t10_l3, t11_l3, t12_l3] σ4 →
 (L99_3 env I3 m3 p0_l3 t4_l3 t5_l3 t10_l3 t11_l3 t12_l3 σ4 K X)))))) (panV X))
theorem S99_eq (env : Env) (p0_a kinds1_a : AV) (σ : AS) (K : AV → AS → Prop) (X : PV → AS → Prop) : S99 env p0_a kinds1_a σ K X = bodyD prog env an99 f99 [p0_a, kinds1_a] σ K X := by
  unfold S99
  simp only [L99_3_eq]
  kernel_rfl
theorem S99_ok : (match f99.body with | some c => okCode an99 prog f99.ntmps c | none => false) = true := by kernel_rfl
/-! ### (*tedder/syntax.parser).nls (function 71) -/
def an71 : An := { mu := [], cut := [], loop := [(0, [0])] }
def L71_0 (env : Env) (I0 : Nat → List AV → AS → Prop) (m0 : Nat) (p0_l0 : AV) (σ : AS) (K : AV → AS → Prop) (X : PV → AS → Prop) : Prop :=
 (env 60 [p0_l0, (.pv (.int .i64 0))] σ (fun t3 σ2 =>
 (lock fieldD prog 52 t3 0 fun t4 =>
 (lock binD prog .eql 9 t4 (.pv (.str [110, 108])) fun t5 =>
 (condD t5
 (env 62 [p0_l0, (.pv (.int .i64 1))] σ2 (fun t7 σ3 =>
 (∃ m', m' < m0 ∧ I0 m' [p0_l0] σ3)) (panV X))
 (retV (.tuple []) σ2 K))))) (panV X))
theorem L71_0_eq (env : Env) (I0 : Nat → List AV → AS → Prop) (m0 : Nat) (p0_l0 : AV) (σ : AS) (K : AV → AS → Prop) (X : PV → AS → Prop) : L71_0 env I0 m0 p0_l0 σ K X = wpD prog env an71 (subC (bodyC f71) [0, 0]) (contQ prog env an71 (bodyC f71) [0, 0] [(I0, m0)] (rootQ prog f71 K X)) [(0, p0_l0)] σ := by
  unfold L71_0
  kernel_rfl
theorem lp71_0 {α : Type} {env : Env}  {p0_l0 : AV} {σ : AS} {K : AV → AS → Prop} {X : PV → AS → Prop} (μ : α → AS → Nat) (I : α → AS → Prop) (a0 : α) (h0 : I a0 σ)
 (h : ∀ a σ, I a σ → L71_0 env  (Inv (fun a => [p0_l0]) μ I) (μ a σ) p0_l0 σ K X) :
 ∃ I0 : Nat → List AV → AS → Prop, (∃ m, I0 m [p0_l0] σ) ∧ ∀ (m : Nat) (x0 : AV), ∀ σ, I0 m [x0] σ →
 L71_0 env  I0 m x0 σ K X := by
  refine ⟨Inv (fun a => [p0_l0]) μ I, ⟨_, a0, rfl, rfl, h0⟩, ?_⟩
  rintro m x0 σ' ⟨a, hv, rfl, hI⟩
  simp only [List.cons.injEq, and_true] at hv
  obtain rfl := hv
  exact h a σ' hI
def S71 (env : Env) (p0_a : AV) (σ : AS) (K : AV → AS → Prop) (X : PV → AS → Prop) : Prop :=
 (∃ I0 : Nat → List AV → AS → Prop, (∃ m, I0 m [p0_a] σ) ∧ ∀ (m0 : Nat) (p0_l0 : AV), ∀ σ1, I0 m0 [p0_l0] σ1 →
 (L71_0 env I0 m0 p0_l0 σ1 K X))
theorem S71_eq (env : Env) (p0_a : AV) (σ : AS) (K : AV → AS → Prop) (X : PV → AS → Prop) : S71 env p0_a σ K X = bodyD prog env an71 f71 [p0_a] σ K X := by
  unfold S71
  simp only [L71_0_eq]
  kernel_rfl
theorem S71_ok : (match f71.body with | some c => okCode an71 prog f71.ntmps c | none => false) = true := by kernel_rfl
/-! ### (*tedder/syntax.parser).ends (function 32) -/
def an32 : An := { mu := [], cut := [], loop := [(2, [0, 3])] }
def L32_2 (env : Env) (I2 : Nat → List AV → AS → Prop) (m2 : Nat) (p0_l2 some3_l2 : AV) (σ : AS) (K : AV → AS → Prop) (X : PV → AS → Prop) : Prop :=
 (env 60 [p0_l2, (.pv (.int .i64 0))] σ (fun t5 σ2 =>
 (lock fieldD prog 52 t5 0 fun t6 =>
 (lock binD prog .eql 9 t6 (.pv (.str [110, 108])) fun t7 =>
 (guardD t7 false
 (env 60 [p0_l2, (.pv (.int .i64 0))] σ2 (fun t10 σ3 =>
 (env 61 [(.pv (.str [59]))] σ3 (fun t11 σ4 =>
 (lock binD prog .eql 52 t10 t11 fun t12 =>
 (condD t12
 (env 62 [p0_l2, (.pv (.int .i64 1))] σ4 (fun t15 σ5 =>
 (∃ m', m' < m2 ∧ I2 m' [p0_l2, (.pv (.bool true))] σ5)) (panV X))
 (retV (some3_l2) σ4 K)))) (panV X))) (panV X))
 (env 62 [p0_l2, (.pv (.int .i64 1))] σ2 (fun t15 σ6 =>
 (∃ m', m' < m2 ∧ I2 m' [p0_l2, (.pv (.bool true))] σ6)) (panV X)))))) (panV X))
theorem L32_2_eq (env : Env) (I2 : Nat → List AV → AS → Prop) (m2 : Nat) (p0_l2 some3_l2 : AV) (σ : AS) (K : AV → AS → Prop) (X : PV → AS → Prop) : L32_2 env I2 m2 p0_l2 some3_l2 σ K X = wpD prog env an32 (subC (bodyC f32) [1, 1, 0, 0, 0]) (contQ prog env an32 (bodyC f32) [1, 1, 0, 0, 0] [(I2, m2)] (rootQ prog f32 K X)) [(0, p0_l2), (3, some3_l2)] σ := by
  unfold L32_2
  kernel_rfl
theorem lp32_2 {α : Type} {env : Env}  {p0_l2 : AV} {σ : AS} {K : AV → AS → Prop} {X : PV → AS → Prop} (μ : α → AS → Nat) (I : α → AS → Prop) (esome3_l2 : α → AV) (a0 : α) (h0 : I a0 σ)
 (h : ∀ a σ, I a σ → L32_2 env  (Inv (fun a => [p0_l2, esome3_l2 a]) μ I) (μ a σ) p0_l2 (esome3_l2 a) σ K X) :
 ∃ I2 : Nat → List AV → AS → Prop, (∃ m, I2 m [p0_l2, esome3_l2 a0] σ) ∧ ∀ (m : Nat) (x0 x1 : AV), ∀ σ, I2 m [x0, x1] σ →
 L32_2 env  I2 m x0 x1 σ K X := by
  refine ⟨Inv (fun a => [p0_l2, esome3_l2 a]) μ I, ⟨_, a0, rfl, rfl, h0⟩, ?_⟩
  rintro m x0 x1 σ' ⟨a, hv, rfl, hI⟩
  simp only [List.cons.injEq, and_true] at hv
  obtain ⟨rfl, rfl⟩ := hv
  exact h a σ' hI
def S32 (env : Env) (p0_a : AV) (σ : AS) (K : AV → AS → Prop) (X : PV → AS → Prop) : Prop :=
 (∃ I2 : Nat → List AV → AS → Prop, (∃ m, I2 m [p0_a, (.pv (.bool false))] σ) ∧ ∀ (m2 : Nat) (p0_l2 some3_l2 : AV), ∀ σ1, I2 m2 [p0_l2, some3_l2] σ1 →
 (L32_2 env I2 m2 p0_l2 some3_l2 σ1 K X))
theorem S32_eq (env : Env) (p0_a : AV) (σ : AS) (K : AV → AS → Prop) (X : PV → AS → Prop) : S32 env p0_a σ K X = bodyD prog env an32 f32 [p0_a] σ K X := by
  unfold S32
  simp only [L32_2_eq]
  kernel_rfl
theorem S32_ok : (match f32.body with | some c => okCode an32 prog f32.ntmps c | none => false) = true := by kernel_rfl
/-! ### tedder/syntax.node (function 68) -/
def an68 : An := { mu := [], cut := [], loop := [] }
def S68 (env : Env) (op0_a text1_a kids2_a : AV) (σ : AS) (K : AV → AS → Prop) (X : PV → AS → Prop) : Prop :=
 (lock allocD prog σ 39 fun t6 σ1 =>
 (lock buildD prog 39 [(0, op0_a), (1, text1_a), (2, kids2_a)] fun t10 =>
 (lock storeD prog σ1 39 t6 t10 fun σ2 =>
 (lock loadD prog σ2 39 t6 fun r0 =>
 (retV (r0) σ2 K)))))
theorem S68_eq (env : Env) (op0_a text1_a kids2_a : AV) (σ : AS) (K : AV → AS → Prop) (X : PV → AS → Prop) : S68 env op0_a text1_a kids2_a σ K X = bodyD prog env an68 f68 [op0_a, text1_a, kids2_a] σ K X := by
  unfold S68
  kernel_rfl
theorem S68_ok : (match f68.body with | some c => okCode an68 prog f68.ntmps c | none => false) = true := by kernel_rfl
/-! ### tedder/syntax.none (function 65) -/
def an65 : An := { mu := [], cut := [], loop := [] }
def S65 (env : Env) (σ : AS) (K : AV → AS → Prop) (X : PV → AS → Prop) : Prop :=
 (lock allocD prog σ 39 fun t0 σ1 =>
 (env 68 [(.pv (.str [110, 111, 110, 101])), (.pv (.str [])), (.nilS)] σ1 (fun t1 σ2 =>
 (lock storeD prog σ2 39 t0 t1 fun σ3 =>
 (lock loadD prog σ3 39 t0 fun r0 =>
 (retV (r0) σ3 K)))) (panV X)))
theorem S65_eq (env : Env) (σ : AS) (K : AV → AS → Prop) (X : PV → AS → Prop) : S65 env  σ K X = bodyD prog env an65 f65 [] σ K X := by
  unfold S65
  kernel_rfl
theorem S65_ok : (match f65.body with | some c => okCode an65 prog f65.ntmps c | none => false) = true := by kernel_rfl
/-! ### tedder/syntax.place (function 102) -/
def an102 : An := { mu := [], cut := [], loop := [] }
def S102 (env : Env) (n0_a : AV) (σ : AS) (K : AV → AS → Prop) (X : PV → AS → Prop) : Prop :=
 (lock boxD σ n0_a fun t1 σ1 =>
 (lock fieldAddrD prog 39 t1 0 fun t3 =>
 (lock loadD prog σ1 9 t3 fun t4 =>
 (lock binD prog .eql 9 t4 (.pv (.str [118, 97, 114])) fun t5 =>
 (guardD t5 false
 (lock fieldAddrD prog 39 t1 0 fun t7 =>
 (lock loadD prog σ1 9 t7 fun t8 =>
 (lock binD prog .eql 9 t8 (.pv (.str [101, 108, 101, 109])) fun t9 =>
 (guardD t9 false
 (lock fieldAddrD prog 39 t1 0 fun t12 =>
 (lock loadD prog σ1 9 t12 fun t13 =>
 (lock binD prog .eql 9 t13 (.pv (.str [102, 105, 101, 108, 100])) fun t14 =>
 (retV (t14) σ1 K))))
 (retV ((.pv (.bool true))) σ1 K)))))
 (retV ((.pv (.bool true))) σ1 K))))))
theorem S102_eq (env : Env) (n0_a : AV) (σ : AS) (K : AV → AS → Prop) (X : PV → AS → Prop) : S102 env n0_a σ K X = bodyD prog env an102 f102 [n0_a] σ K X := by
  unfold S102
  kernel_rfl
theorem S102_ok : (match f102.body with | some c => okCode an102 prog f102.ntmps c | none => false) = true := by kernel_rfl
/-! ### tedder/syntax.must (function 31) -/
def an31 : An := { mu := [], cut := [], loop := [] }
def S31 (env : Env) (ok0_a : AV) (σ : AS) (K : AV → AS → Prop) (X : PV → AS → Prop) : Prop :=
 (unD .not ok0_a fun t3 =>
 (condD t3
 (lock buildD prog 54 [] fun t4 =>
 (lock ifaceD prog 54 t4 fun t5 =>
 (lock panicD σ t5 (panV X))))
 (retV (.tuple []) σ K)))
theorem S31_eq (env : Env) (ok0_a : AV) (σ : AS) (K : AV → AS → Prop) (X : PV → AS → Prop) : S31 env ok0_a σ K X = bodyD prog env an31 f31 [ok0_a] σ K X := by
  unfold S31
  kernel_rfl
theorem S31_ok : (match f31.body with | some c => okCode an31 prog f31.ntmps c | none => false) = true := by kernel_rfl
/-! ### (*tedder/syntax.parser).level (function 101) -/
def an101 : An := { mu := [], cut := [(16, [1, 17, 18]), (25, [1, 17, 32]), (35, [17, 38]), (38, [17, 44])], loop := [], any := [2] }
def J101_38 (env : Env)  (t17_j38 t44_j38 : AV) (σ : AS) (K : AV → AS → Prop) (X : PV → AS → Prop) : Prop :=
 (condD t44_j38
 (retV ((.pv (.int .i64 9))) σ K)
 (lock binD prog .eql 9 t17_j38 (.pv (.str [42])) fun t48 =>
 (condD t48
 (condD t48
 (retV ((.pv (.int .i64 10))) σ K)
 (retV ((.pv (.int .i64 0))) σ K))
 (lock binD prog .eql 9 t17_j38 (.pv (.str [47])) fun t49 =>
 (condD t49
 (condD t49
 (retV ((.pv (.int .i64 10))) σ K)
 (retV ((.pv (.int .i64 0))) σ K))
 (lock binD prog .eql 9 t17_j38 (.pv (.str [37])) fun t50 =>
 (condD t50
 (retV ((.pv (.int .i64 10))) σ K)
 (retV ((.pv (.int .i64 0))) σ K))))))))
theorem J101_38_eq (env : Env)  (t17_j38 t44_j38 : AV) (σ : AS) (K : AV → AS → Prop) (X : PV → AS → Prop) : J101_38 env  t17_j38 t44_j38 σ K X = wpD prog env an101 (subC (bodyC f101) [1, 1, 1, 1, 1, 0, 1, 0, 1, 1, 1, 1, 1, 1, 1, 1, 1, 1, 1, 1, 1, 1, 1]) (contQ prog env an101 (bodyC f101) [1, 1, 1, 1, 1, 0, 1, 0, 1, 1, 1, 1, 1, 1, 1, 1, 1, 1, 1, 1, 1, 1, 1] [] (rootQ prog f101 K X)) [(17, t17_j38), (44, t44_j38)] σ := by
  unfold J101_38
  kernel_rfl
def J101_35 (env : Env)  (t17_j35 t38_j35 : AV) (σ : AS) (K : AV → AS → Prop) (X : PV → AS → Prop) : Prop :=
 (condD t38_j35
 (retV ((.pv (.int .i64 7))) σ K)
 (lock binD prog .eql 9 t17_j35 (.pv (.str [43])) fun t45 =>
 (condD t45
 (J101_38 env  (t17_j35) (t45) σ K X)
 (lock binD prog .eql 9 t17_j35 (.pv (.str [45])) fun t46 =>
 (J101_38 env  (t17_j35) (t46) σ K X)))))
theorem J101_35_eq (env : Env)  (t17_j35 t38_j35 : AV) (σ : AS) (K : AV → AS → Prop) (X : PV → AS → Prop) : J101_35 env  t17_j35 t38_j35 σ K X = wpD prog env an101 (subC (bodyC f101) [1, 1, 1, 1, 1, 0, 1, 0, 1, 1, 1, 1, 1, 1, 1, 1, 1, 1, 1, 1, 1]) (contQ prog env an101 (bodyC f101) [1, 1, 1, 1, 1, 0, 1, 0, 1, 1, 1, 1, 1, 1, 1, 1, 1, 1, 1, 1, 1] [] (rootQ prog f101 K X)) [(17, t17_j35), (38, t38_j35)] σ := by
  unfold J101_35
  kernel_rfl
def J101_25 (env : Env)  (printing1_j25 t17_j25 t32_j25 : AV) (σ : AS) (K : AV → AS → Prop) (X : PV → AS → Prop) : Prop :=
 (condD t32_j25
 (retV ((.pv (.int .i64 6))) σ K)
 (lock binD prog .eql 9 t17_j25 (.pv (.str [62])) fun t36 =>
 (condD t36
 (condD printing1_j25
 (retV ((.pv (.int .i64 0))) σ K)
 (retV ((.pv (.int .i64 7))) σ K))
 (lock binD prog .eql 9 t17_j25 (.pv (.str [60])) fun t39 =>
 (condD t39
 (J101_35 env  (t17_j25) (t39) σ K X)
 (lock binD prog .eql 9 t17_j25 (.pv (.str [60, 61])) fun t40 =>
 (condD t40
 (J101_35 env  (t17_j25) (t40) σ K X)
 (lock binD prog .eql 9 t17_j25 (.pv (.str [61, 61])) fun t41 =>
 (condD t41
 (J101_35 env  (t17_j25) (t41) σ K X)
 (lock binD prog .eql 9 t17_j25 (.pv (.str [33, 61])) fun t42 =>
 (condD t42
 (J101_35 env  (t17_j25) (t42) σ K X)
 (lock binD prog .eql 9 t17_j25 (.pv (.str [62, 61])) fun t43 =>
 (J101_35 env  (t17_j25) (t43) σ K X)))))))))))))
theorem J101_25_eq (env : Env)  (printing1_j25 t17_j25 t32_j25 : AV) (σ : AS) (K : AV → AS → Prop) (X : PV → AS → Prop) : J101_25 env  printing1_j25 t17_j25 t32_j25 σ K X = wpD prog env an101 (subC (bodyC f101) [1, 1, 1, 1, 1, 0, 1, 0, 1, 1, 1, 1, 1, 1, 1, 1, 1]) (contQ prog env an101 (bodyC f101) [1, 1, 1, 1, 1, 0, 1, 0, 1, 1, 1, 1, 1, 1, 1, 1, 1] [] (rootQ prog f101 K X)) [(1, printing1_j25), (17, t17_j25), (32, t32_j25)] σ := by
  unfold J101_25
  kernel_rfl
def J101_16 (env : Env)  (printing1_j16 t17_j16 t18_j16 : AV) (σ : AS) (K : AV → AS → Prop) (X : PV → AS → Prop) : Prop :=
 (condD t18_j16
 (retV ((.pv (.int .i64 1))) σ K)
 (lock binD prog .eql 9 t17_j16 (.pv (.str [63])) fun t27 =>
 (condD t27
 (retV ((.pv (.int .i64 2))) σ K)
 (lock binD prog .eql 9 t17_j16 (.pv (.str [124, 124])) fun t29 =>
 (condD t29
 (retV ((.pv (.int .i64 3))) σ K)
 (lock binD prog .eql 9 t17_j16 (.pv (.str [38, 38])) fun t31 =>
 (condD t31
 (retV ((.pv (.int .i64 4))) σ K)
 (lock binD prog .eql 9 t17_j16 (.pv (.str [126])) fun t33 =>
 (condD t33
 (J101_25 env  (printing1_j16) (t17_j16) (t33) σ K X)
 (lock binD prog .eql 9 t17_j16 (.pv (.str [33, 126])) fun t34 =>
 (J101_25 env  (printing1_j16) (t17_j16) (t34) σ K X)))))))))))
theorem J101_16_eq (env : Env)  (printing1_j16 t17_j16 t18_j16 : AV) (σ : AS) (K : AV → AS → Prop) (X : PV → AS → Prop) : J101_16 env  printing1_j16 t17_j16 t18_j16 σ K X = wpD prog env an101 (subC (bodyC f101) [1, 1, 1, 1, 1, 0, 1, 0, 1]) (contQ prog env an101 (bodyC f101) [1, 1, 1, 1, 1, 0, 1, 0, 1] [] (rootQ prog f101 K X)) [(1, printing1_j16), (17, t17_j16), (18, t18_j16)] σ := by
  unfold J101_16
  kernel_rfl
def S101 (env : Env) (p0_a printing1_a : AV) (σ : AS) (K : AV → AS → Prop) (X : PV → AS → Prop) : Prop :=
 (env 60 [p0_a, (.pv (.int .i64 0))] σ (fun t7 σ1 =>
 (lock allocD prog σ1 52 fun t5 σ2 =>
 (lock storeD prog σ2 52 t5 t7 fun σ3 =>
 ((lock loadD prog σ3 52 t5 fun t8 =>
 ((env 67 [(.pv (.str [105, 110]))] σ3 (fun t9 σ6 =>
 ((lock binD prog .eql 52 t8 t9 fun t10 =>
 (condD t10
 (retV ((.pv (.int .i64 5))) σ6 K)
 (env 124 [p0_a] σ6 (fun t12 σ7 =>
 (condD t12
 (retV ((.pv (.int .i64 8))) σ7 K)
 (lock fieldAddrD prog 52 t5 0 fun t13 =>
 (lock loadD prog σ7 9 t13 fun t14 =>
 (lock binD prog .neq 9 t14 (.pv (.str [111, 112])) fun t15 =>
 (condD t15
 (retV ((.pv (.int .i64 0))) σ7 K)
 (lock fieldAddrD prog 52 t5 1 fun t16 =>
 (lock loadD prog σ7 9 t16 fun t17 =>
 (lock binD prog .eql 9 t17 (.pv (.str [61])) fun t19 =>
 (condD t19
 (J101_16 env  (printing1_a) (t17) (t19) σ7 K X)
 (lock binD prog .eql 9 t17 (.pv (.str [43, 61])) fun t20 =>
 (condD t20
 (J101_16 env  (printing1_a) (t17) (t20) σ7 K X)
 (lock binD prog .eql 9 t17 (.pv (.str [45, 61])) fun t21 =>
 (condD t21
 (J101_16 env  (printing1_a) (t17) (t21) σ7 K X)
 (lock binD prog .eql 9 t17 (.pv (.str [42, 61])) fun t22 =>
 (condD t22
 (J101_16 env  (printing1_a) (t17) (t22) σ7 K X)
 (lock binD prog .eql 9 t17 (.pv (.str [47, 61])) fun t23 =>
 (condD t23
 (J101_16 env  (printing1_a) (t17) (t23) σ7 K X)
 (lock binD prog .eql 9 t17 (.pv (.str [37, 61])) fun t24 =>
 (condD t24
 (J101_16 env  (printing1_a) (t17) (t24) σ7 K X)
 (lock binD prog .eql 9 t17 (.pv (.str [94, 61])) fun t25 =>
 (J101_16 env  (printing1_a) (t17) (t25) σ7 K X)))))))))))))))))))))) (panV X)))) ∧ True)) (panV X)) ∧ True)) ∧ ((env 67 [(.pv (.str [105, 110]))] σ3 (fun t9 σ4 =>
 ((lock loadD prog σ4 52 t5 fun t8 =>
 ((lock binD prog .eql 52 t8 t9 fun t10 =>
 (condD t10
 (retV ((.pv (.int .i64 5))) σ4 K)
 (env 124 [p0_a] σ4 (fun t12 σ5 =>
 (condD t12
 (retV ((.pv (.int .i64 8))) σ5 K)
 (lock fieldAddrD prog 52 t5 0 fun t13 =>
 (lock loadD prog σ5 9 t13 fun t14 =>
 (lock binD prog .neq 9 t14 (.pv (.str [111, 112])) fun t15 =>
 (condD t15
 (retV ((.pv (.int .i64 0))) σ5 K)
 (lock fieldAddrD prog 52 t5 1 fun t16 =>
 (lock loadD prog σ5 9 t16 fun t17 =>
 (lock binD prog .eql 9 t17 (.pv (.str [61])) fun t19 =>
 (condD t19
 (J101_16 env  (printing1_a) (t17) (t19) σ5 K X)
 (lock binD prog .eql 9 t17 (.pv (.str [43, 61])) fun t20 =>
 (condD t20
 (J101_16 env  (printing1_a) (t17) (t20) σ5 K X)
 (lock binD prog .eql 9 t17 (.pv (.str [45, 61])) fun t21 =>
 (condD t21
 (J101_16 env  (printing1_a) (t17) (t21) σ5 K X)
 (lock binD prog .eql 9 t17 (.pv (.str [42, 61])) fun t22 =>
 (condD t22
 (J101_16 env  (printing1_a) (t17) (t22) σ5 K X)
 (lock binD prog .eql 9 t17 (.pv (.str [47, 61])) fun t23 =>
 (condD t23
 (J101_16 env  (printing1_a) (t17) (t23) σ5 K X)
 (lock binD prog .eql 9 t17 (.pv (.str [37, 61])) fun t24 =>
 (condD t24
 (J101_16 env  (printing1_a) (t17) (t24) σ5 K X)
 (lock binD prog .eql 9 t17 (.pv (.str [94, 61])) fun t25 =>
 (J101_16 env  (printing1_a) (t17) (t25) σ5 K X)))))))))))))))))))))) (panV X)))) ∧ True)) ∧ True)) (panV X)) ∧ True))))) (panV X))
theorem S101_eq (env : Env) (p0_a printing1_a : AV) (σ : AS) (K : AV → AS → Prop) (X : PV → AS → Prop) : S101 env p0_a printing1_a σ K X = bodyD prog env an101 f101 [p0_a, printing1_a] σ K X := by
  unfold S101
  kernel_rfl
theorem S101_ok : (match f101.body with | some c => okCode an101 prog f101.ntmps c | none => false) = true := by kernel_rfl
/-! ### (*tedder/syntax.parser).begins (function 124) -/
def an124 : An := { mu := [], cut := [(10, [3])], loop := [] }
def J124_10 (env : Env)  (t3_j10 : AV) (σ : AS) (K : AV → AS → Prop) (X : PV → AS → Prop) : Prop :=
 (lock fieldAddrD prog 52 t3_j10 0 fun t15 =>
 (lock loadD prog σ 9 t15 fun t16 =>
 (lock binD prog .eql 9 t16 (.pv (.str [111, 112])) fun t17 =>
 (guardD t17 true
 (lock fieldAddrD prog 52 t3_j10 1 fun t19 =>
 (lock loadD prog σ 9 t19 fun t20 =>
 (lock binD prog .eql 9 t20 (.pv (.str [36])) fun t21 =>
 (guardD t21 false
 (lock fieldAddrD prog 52 t3_j10 1 fun t23 =>
 (lock loadD prog σ 9 t23 fun t24 =>
 (lock binD prog .eql 9 t24 (.pv (.str [40])) fun t25 =>
 (guardD t25 false
 (lock fieldAddrD prog 52 t3_j10 1 fun t28 =>
 (lock loadD prog σ 9 t28 fun t29 =>
 (lock binD prog .eql 9 t29 (.pv (.str [43, 43])) fun t30 =>
 (guardD t30 false
 (lock fieldAddrD prog 52 t3_j10 1 fun t33 =>
 (lock loadD prog σ 9 t33 fun t34 =>
 (lock binD prog .eql 9 t34 (.pv (.str [45, 45])) fun t35 =>
 (retV (t35) σ K))))
 (retV ((.pv (.bool true))) σ K)))))
 (retV ((.pv (.bool true))) σ K)))))
 (retV ((.pv (.bool true))) σ K)))))
 (retV ((.pv (.bool false))) σ K)))))
theorem J124_10_eq (env : Env)  (t3_j10 : AV) (σ : AS) (K : AV → AS → Prop) (X : PV → AS → Prop) : J124_10 env  t3_j10 σ K X = wpD prog env an124 (subC (bodyC f124) [1, 1, 1]) (contQ prog env an124 (bodyC f124) [1, 1, 1] [] (rootQ prog f124 K X)) [(3, t3_j10)] σ := by
  unfold J124_10
  kernel_rfl
def S124 (env : Env) (p0_a : AV) (σ : AS) (K : AV → AS → Prop) (X : PV → AS → Prop) : Prop :=
 (env 60 [p0_a, (.pv (.int .i64 0))] σ (fun t5 σ1 =>
 (lock allocD prog σ1 52 fun t3 σ2 =>
 (lock storeD prog σ2 52 t3 t5 fun σ3 =>
 (lock fieldAddrD prog 52 t3 0 fun t6 =>
 (lock loadD prog σ3 9 t6 fun t7 =>
 (lock binD prog .eql 9 t7 (.pv (.str [110, 117, 109])) fun t9 =>
 (condD t9
 (condD t9
 (retV ((.pv (.bool true))) σ3 K)
 (J124_10 env  (t3) σ3 K X))
 (lock binD prog .eql 9 t7 (.pv (.str [115, 116, 114])) fun t10 =>
 (condD t10
 (condD t10
 (retV ((.pv (.bool true))) σ3 K)
 (J124_10 env  (t3) σ3 K X))
 (lock binD prog .eql 9 t7 (.pv (.str [101, 114, 101])) fun t11 =>
 (condD t11
 (condD t11
 (retV ((.pv (.bool true))) σ3 K)
 (J124_10 env  (t3) σ3 K X))
 (lock binD prog .eql 9 t7 (.pv (.str [110, 97, 109, 101])) fun t12 =>
 (condD t12
 (condD t12
 (retV ((.pv (.bool true))) σ3 K)
 (J124_10 env  (t3) σ3 K X))
 (lock binD prog .eql 9 t7 (.pv (.str [102, 117, 110, 99])) fun t13 =>
 (condD t13
 (condD t13
 (retV ((.pv (.bool true))) σ3 K)
 (J124_10 env  (t3) σ3 K X))
 (lock binD prog .eql 9 t7 (.pv (.str [98, 117, 105, 108, 116])) fun t14 =>
 (condD t14
 (retV ((.pv (.bool true))) σ3 K)
 (J124_10 env  (t3) σ3 K X)))))))))))))))))) (panV X))
theorem S124_eq (env : Env) (p0_a : AV) (σ : AS) (K : AV → AS → Prop) (X : PV → AS → Prop) : S124 env p0_a σ K X = bodyD prog env an124 f124 [p0_a] σ K X := by
  unfold S124
  kernel_rfl
theorem S124_ok : (match f124.body with | some c => okCode an124 prog f124.ntmps c | none => false) = true := by kernel_rfl
/-! ### (*tedder/syntax.parser).stepped (function 141) -/
def an141 : An := { mu := [], cut := [], loop := [(2, [0, 6, 7, 8])] }
def L141_2 (env : Env) (I2 : Nat → List AV → AS → Prop) (m2 : Nat) (p0_l2 t6_l2 t7_l2 t8_l2 : AV) (σ : AS) (K : AV → AS → Prop) (X : PV → AS → Prop) : Prop :=
 (lock binD prog .lss 3 t8_l2 t7_l2 fun t9 =>
 (condD t9
 (lock indexAddrD prog 27 t6_l2 t8_l2 fun t10 =>
 (lock loadD prog σ 9 t10 fun t11 =>
 (env 61 [t11] σ (fun t14 σ3 =>
 (env 66 [p0_l2, t14] σ3 (fun t15 σ4 =>
 (condD t15
 (retV (.tuple [t11, (.pv (.bool true))]) σ4 K)
 (lock binD prog .add 3 t8_l2 (.pv (.int .i64 1)) fun t17 =>
 (∃ m', m' < m2 ∧ I2 m' [p0_l2, t6_l2, t7_l2, t17] σ4)))) (panV X))) (panV X))))
 (retV (.tuple [(.pv (.str [])), (.pv (.bool false))]) σ K)))
theorem L141_2_eq (env : Env) (I2 : Nat → List AV → AS → Prop) (m2 : Nat) (p0_l2 t6_l2 t7_l2 t8_l2 : AV) (σ : AS) (K : AV → AS → Prop) (X : PV → AS → Prop) : L141_2 env I2 m2 p0_l2 t6_l2 t7_l2 t8_l2 σ K X = wpD prog env an141 (subC (bodyC f141) [1, 0, 1, 0, 0]) (contQ prog env an141 (bodyC f141) [1, 0, 1, 0, 0] [(I2, m2)] (rootQ prog f141 K X)) [(0, p0_l2), (6, t6_l2), (7, t7_l2), (8, t8_l2)] σ := by
  unfold L141_2
  kernel_rfl
theorem lp141_2 {α : Type} {env : Env}  {p0_l2 t6_l2 t7_l2 : AV} {σ : AS} {K : AV → AS → Prop} {X : PV → AS → Prop} (μ : α → AS → Nat) (I : α → AS → Prop) (et8_l2 : α → AV) (a0 : α) (h0 : I a0 σ)
 (h : ∀ a σ, I a σ → L141_2 env  (Inv (fun a => [p0_l2, t6_l2, t7_l2, et8_l2 a]) μ I) (μ a σ) p0_l2 t6_l2 t7_l2 (et8_l2 a) σ K X) :
 ∃ I2 : Nat → List AV → AS → Prop, (∃ m, I2 m [p0_l2, t6_l2, t7_l2, et8_l2 a0] σ) ∧ ∀ (m : Nat) (x0 x1 x2 x3 : AV), ∀ σ, I2 m [x0, x1, x2, x3] σ →
 L141_2 env  I2 m x0 x1 x2 x3 σ K X := by
  refine ⟨Inv (fun a => [p0_l2, t6_l2, t7_l2, et8_l2 a]) μ I, ⟨_, a0, rfl, rfl, h0⟩, ?_⟩
  rintro m x0 x1 x2 x3 σ' ⟨a, hv, rfl, hI⟩
  simp only [List.cons.injEq, and_true] at hv
  obtain ⟨rfl, rfl, rfl, rfl⟩ := hv
  exact h a σ' hI
def S141 (env : Env) (p0_a : AV) (σ : AS) (K : AV → AS → Prop) (X : PV → AS → Prop) : Prop :=
 (lock buildSliceD prog false σ 27 2 2 [(0, (.pv (.str [43, 43]))), (1, (.pv (.str [45, 45])))] fun t6 σ1 =>
 (lock lenD prog 27 t6 fun t7 =>
 (∃ I2 : Nat → List AV → AS → Prop, (∃ m, I2 m [p0_a, t6, t7, (.pv (.int .i64 0))] σ1) ∧ ∀ (m2 : Nat) (p0_l2 t6_l2 t7_l2 t8_l2 : AV), ∀ σ2, I2 m2 [p0_l2, t6_l2, t7_l2, t8_l2] σ2 →
 (L141_2 env I2 m2 p0_l2 t6_l2 t7_l2 t8_l2 σ2 K X))))
theorem S141_eq (env : Env) (p0_a : AV) (σ : AS) (K : AV → AS → Prop) (X : PV → AS → Prop) : S141 env p0_a σ K X = bodyD prog env an141 f141 [p0_a] σ K X := by
  unfold S141
  simp only [L141_2_eq]
  kernel_rfl
theorem S141_ok : (match f141.body with | some c => okCode an141 prog f141.ntmps c | none => false) = true := by kernel_rfl
/-! ### (*tedder/syntax.parser).starts (function 133) -/
def an133 : An := { mu := [], cut := [], loop := [], any := [2] }
def S133 (env : Env) (p0_a : AV) (σ : AS) (K : AV → AS → Prop) (X : PV → AS → Prop) : Prop :=
 (env 60 [p0_a, (.pv (.int .i64 0))] σ (fun t5 σ1 =>
 (lock allocD prog σ1 52 fun t3 σ2 =>
 (lock storeD prog σ2 52 t3 t5 fun σ3 =>
 ((env 124 [p0_a] σ3 (fun t7 σ4 =>
 ((guardD t7 false
 (lock loadD prog σ4 52 t3 fun t9 =>
 ((env 61 [(.pv (.str [33]))] σ4 (fun t10 σ12 =>
 ((lock binD prog .eql 52 t9 t10 fun t11 =>
 ((guardD t11 false
 (lock loadD prog σ12 52 t3 fun t14 =>
 ((env 61 [(.pv (.str [43]))] σ12 (fun t15 σ16 =>
 ((lock binD prog .eql 52 t14 t15 fun t16 =>
 ((guardD t16 false
 (lock loadD prog σ16 52 t3 fun t19 =>
 ((env 61 [(.pv (.str [45]))] σ16 (fun t20 σ18 =>
 ((lock binD prog .eql 52 t19 t20 fun t21 =>
 (retV (t21) σ18 K)) ∧ True)) (panV X)) ∧ True))
 (((retV ((.pv (.bool true))) σ16 K) ∧ True) ∧ True)) ∧ ((guardD t16 false
 (env 61 [(.pv (.str [45]))] σ16 (fun t20 σ17 =>
 ((lock loadD prog σ17 52 t3 fun t19 =>
 ((lock binD prog .eql 52 t19 t20 fun t21 =>
 (retV (t21) σ17 K)) ∧ True)) ∧ True)) (panV X))
 (((retV ((.pv (.bool true))) σ16 K) ∧ True) ∧ True)) ∧ True))) ∧ True)) (panV X)) ∧ True))
 ((((((retV ((.pv (.bool true))) σ12 K) ∧ True) ∧ True) ∧ ((((retV ((.pv (.bool true))) σ12 K) ∧ True) ∧ True) ∧ True)) ∧ True) ∧ True)) ∧ ((guardD t11 false
 (env 61 [(.pv (.str [43]))] σ12 (fun t15 σ13 =>
 ((lock loadD prog σ13 52 t3 fun t14 =>
 ((lock binD prog .eql 52 t14 t15 fun t16 =>
 ((guardD t16 false
 (lock loadD prog σ13 52 t3 fun t19 =>
 ((env 61 [(.pv (.str [45]))] σ13 (fun t20 σ15 =>
 ((lock binD prog .eql 52 t19 t20 fun t21 =>
 (retV (t21) σ15 K)) ∧ True)) (panV X)) ∧ True))
 (((retV ((.pv (.bool true))) σ13 K) ∧ True) ∧ True)) ∧ ((guardD t16 false
 (env 61 [(.pv (.str [45]))] σ13 (fun t20 σ14 =>
 ((lock loadD prog σ14 52 t3 fun t19 =>
 ((lock binD prog .eql 52 t19 t20 fun t21 =>
 (retV (t21) σ14 K)) ∧ True)) ∧ True)) (panV X))
 (((retV ((.pv (.bool true))) σ13 K) ∧ True) ∧ True)) ∧ True))) ∧ True)) ∧ True)) (panV X))
 ((((((retV ((.pv (.bool true))) σ12 K) ∧ True) ∧ True) ∧ ((((retV ((.pv (.bool true))) σ12 K) ∧ True) ∧ True) ∧ True)) ∧ True) ∧ True)) ∧ True))) ∧ True)) (panV X)) ∧ True))
 (((((((((retV ((.pv (.bool true))) σ4 K) ∧ True) ∧ True) ∧ ((((retV ((.pv (.bool true))) σ4 K) ∧ True) ∧ True) ∧ True)) ∧ True) ∧ True) ∧ (((((((retV ((.pv (.bool true))) σ4 K) ∧ True) ∧ True) ∧ ((((retV ((.pv (.bool true))) σ4 K) ∧ True) ∧ True) ∧ True)) ∧ True) ∧ True) ∧ True)) ∧ True) ∧ True)) ∧ ((guardD t7 false
 (env 61 [(.pv (.str [33]))] σ4 (fun t10 σ5 =>
 ((lock loadD prog σ5 52 t3 fun t9 =>
 ((lock binD prog .eql 52 t9 t10 fun t11 =>
 ((guardD t11 false
 (lock loadD prog σ5 52 t3 fun t14 =>
 ((env 61 [(.pv (.str [43]))] σ5 (fun t15 σ9 =>
 ((lock binD prog .eql 52 t14 t15 fun t16 =>
 ((guardD t16 false
 (lock loadD prog σ9 52 t3 fun t19 =>
 ((env 61 [(.pv (.str [45]))] σ9 (fun t20 σ11 =>
 ((lock binD prog .eql 52 t19 t20 fun t21 =>
 (retV (t21) σ11 K)) ∧ True)) (panV X)) ∧ True))
 (((retV ((.pv (.bool true))) σ9 K) ∧ True) ∧ True)) ∧ ((guardD t16 false
 (env 61 [(.pv (.str [45]))] σ9 (fun t20 σ10 =>
 ((lock loadD prog σ10 52 t3 fun t19 =>
 ((lock binD prog .eql 52 t19 t20 fun t21 =>
 (retV (t21) σ10 K)) ∧ True)) ∧ True)) (panV X))
 (((retV ((.pv (.bool true))) σ9 K) ∧ True) ∧ True)) ∧ True))) ∧ True)) (panV X)) ∧ True))
 ((((((retV ((.pv (.bool true))) σ5 K) ∧ True) ∧ True) ∧ ((((retV ((.pv (.bool true))) σ5 K) ∧ True) ∧ True) ∧ True)) ∧ True) ∧ True)) ∧ ((guardD t11 false
 (env 61 [(.pv (.str [43]))] σ5 (fun t15 σ6 =>
 ((lock loadD prog σ6 52 t3 fun t14 =>
 ((lock binD prog .eql 52 t14 t15 fun t16 =>
 ((guardD t16 false
 (lock loadD prog σ6 52 t3 fun t19 =>
 ((env 61 [(.pv (.str [45]))] σ6 (fun t20 σ8 =>
 ((lock binD prog .eql 52 t19 t20 fun t21 =>
 (retV (t21) σ8 K)) ∧ True)) (panV X)) ∧ True))
 (((retV ((.pv (.bool true))) σ6 K) ∧ True) ∧ True)) ∧ ((guardD t16 false
 (env 61 [(.pv (.str [45]))] σ6 (fun t20 σ7 =>
 ((lock loadD prog σ7 52 t3 fun t19 =>
 ((lock binD prog .eql 52 t19 t20 fun t21 =>
 (retV (t21) σ7 K)) ∧ True)) ∧ True)) (panV X))
 (((retV ((.pv (.bool true))) σ6 K) ∧ True) ∧ True)) ∧ True))) ∧ True)) ∧ True)) (panV X))
 ((((((retV ((.pv (.bool true))) σ5 K) ∧ True) ∧ True) ∧ ((((retV ((.pv (.bool true))) σ5 K) ∧ True) ∧ True) ∧ True)) ∧ True) ∧ True)) ∧ True))) ∧ True)) ∧ True)) (panV X))
 (((((((((retV ((.pv (.bool true))) σ4 K) ∧ True) ∧ True) ∧ ((((retV ((.pv (.bool true))) σ4 K) ∧ True) ∧ True) ∧ True)) ∧ True) ∧ True) ∧ (((((((retV ((.pv (.bool true))) σ4 K) ∧ True) ∧ True) ∧ ((((retV ((.pv (.bool true))) σ4 K) ∧ True) ∧ True) ∧ True)) ∧ True) ∧ True) ∧ True)) ∧ True) ∧ True)) ∧ True))) (panV X)) ∧ True)))) (panV X))
theorem S133_eq (env : Env) (p0_a : AV) (σ : AS) (K : AV → AS → Prop) (X : PV → AS → Prop) : S133 env p0_a σ K X = bodyD prog env an133 f133 [p0_a] σ K X := by
  unfold S133
  kernel_rfl
theorem S133_ok : (match f133.body with | some c => okCode an133 prog f133.ntmps c | none => false) = true := by kernel_rfl
/-! ### tedder/syntax.counts (function 103) -/
def an103 : An := { mu := [], cut := [(8, [4, 7]), (11, [4, 12])], loop := [] }
def J103_11 (env : Env)  (t4_j11 t12_j11 : AV) (σ : AS) (K : AV → AS → Prop) (X : PV → AS → Prop) : Prop :=
 (condD t12_j11
 (retV (.tuple [(.pv (.int .i64 2)), (.pv (.int .i64 2))]) σ K)
 (lock binD prog .eql 9 t4_j11 (.pv (.str [115, 112, 114, 105, 110, 116, 102])) fun t16 =>
 (condD t16
 (retV (.tuple [(.pv (.int .i64 1)), (.pv (.int .i64 20000))]) σ K)
 (retV (.tuple [(.pv (.int .i64 1)), (.pv (.int .i64 1))]) σ K))))
theorem J103_11_eq (env : Env)  (t4_j11 t12_j11 : AV) (σ : AS) (K : AV → AS → Prop) (X : PV → AS → Prop) : J103_11 env  t4_j11 t12_j11 σ K X = wpD prog env an103 (subC (bodyC f103) [1, 0, 1, 0, 1, 1, 1, 1, 1]) (contQ prog env an103 (bodyC f103) [1, 0, 1, 0, 1, 1, 1, 1, 1] [] (rootQ prog f103 K X)) [(4, t4_j11), (12, t12_j11)] σ := by
  unfold J103_11
  kernel_rfl
def J103_8 (env : Env)  (t4_j8 t7_j8 : AV) (σ : AS) (K : AV → AS → Prop) (X : PV → AS → Prop) : Prop :=
 (condD t7_j8
 (retV (.tuple [(.pv (.int .i64 2)), (.pv (.int .i64 3))]) σ K)
 (lock binD prog .eql 9 t4_j8 (.pv (.str [105, 110, 100, 101, 120])) fun t13 =>
 (condD t13
 (J103_11 env  (t4_j8) (t13) σ K X)
 (lock binD prog .eql 9 t4_j8 (.pv (.str [109, 97, 116, 99, 104])) fun t14 =>
 (J103_11 env  (t4_j8) (t14) σ K X)))))
theorem J103_8_eq (env : Env)  (t4_j8 t7_j8 : AV) (σ : AS) (K : AV → AS → Prop) (X : PV → AS → Prop) : J103_8 env  t4_j8 t7_j8 σ K X = wpD prog env an103 (subC (bodyC f103) [1, 0, 1, 0, 1, 1, 1]) (contQ prog env an103 (bodyC f103) [1, 0, 1, 0, 1, 1, 1] [] (rootQ prog f103 K X)) [(4, t4_j8), (7, t7_j8)] σ := by
  unfold J103_8
  kernel_rfl
def S103 (env : Env) (name0_a : AV) (σ : AS) (K : AV → AS → Prop) (X : PV → AS → Prop) : Prop :=
 (lock binD prog .eql 9 name0_a (.pv (.str [108, 101, 110, 103, 116, 104])) fun t6 =>
 (condD t6
 (retV (.tuple [(.pv (.int .i64 0)), (.pv (.int .i64 1))]) σ K)
 (lock binD prog .eql 9 name0_a (.pv (.str [115, 117, 98, 115, 116, 114])) fun t8 =>
 (condD t8
 (J103_8 env  (name0_a) (t8) σ K X)
 (lock binD prog .eql 9 name0_a (.pv (.str [115, 112, 108, 105, 116])) fun t9 =>
 (condD t9
 (J103_8 env  (name0_a) (t9) σ K X)
 (lock binD prog .eql 9 name0_a (.pv (.str [115, 117, 98])) fun t10 =>
 (condD t10
 (J103_8 env  (name0_a) (t10) σ K X)
 (lock binD prog .eql 9 name0_a (.pv (.str [103, 115, 117, 98])) fun t11 =>
 (J103_8 env  (name0_a) (t11) σ K X))))))))))
theorem S103_eq (env : Env) (name0_a : AV) (σ : AS) (K : AV → AS → Prop) (X : PV → AS → Prop) : S103 env name0_a σ K X = bodyD prog env an103 f103 [name0_a] σ K X := by
  unfold S103
  kernel_rfl
theorem S103_ok : (match f103.body with | some c => okCode an103 prog f103.ntmps c | none => false) = true := by kernel_rfl
/-! ### tedder/syntax.built (function 72) -/
def an72 : An := { mu := [], cut := [(5, [1, 5])], loop := [] }
def J72_5 (env : Env)  (n1_j5 k5_j5 : AV) (σ : AS) (K : AV → AS → Prop) (X : PV → AS → Prop) : Prop :=
 (lock fieldAddrD prog 39 n1_j5 1 fun t23 =>
 (lock loadD prog σ 9 t23 fun t24 =>
 (lock binD prog .eql 9 t24 (.pv (.str [115, 112, 108, 105, 116])) fun t25 =>
 (condD t25
 (lock fieldAddrD prog 39 n1_j5 2 fun t26 =>
 (lock loadD prog σ 35 t26 fun t27 =>
 (lock indexAddrD prog 35 t27 (.pv (.int .i64 1)) fun t28 =>
 (lock fieldAddrD prog 39 t28 0 fun t29 =>
 (lock loadD prog σ 9 t29 fun t30 =>
 (lock binD prog .eql 9 t30 (.pv (.str [118, 97, 114])) fun t31 =>
 (retV (t31) σ K)))))))
 (lock binD prog .lss 3 k5_j5 (.pv (.int .i64 3)) fun t33 =>
 (guardD t33 false
 (lock fieldAddrD prog 39 n1_j5 1 fun t35 =>
 (lock loadD prog σ 9 t35 fun t36 =>
 (env 104 [t36, (.pv (.str [115, 117, 98]))] σ (fun t37 σ3 =>
 (unD .not t37 fun t38 =>
 (guardD t38 false
 (lock fieldAddrD prog 39 n1_j5 2 fun t41 =>
 (lock loadD prog σ3 35 t41 fun t42 =>
 (lock indexAddrD prog 35 t42 (.pv (.int .i64 2)) fun t43 =>
 (lock loadD prog σ3 39 t43 fun t44 =>
 (env 102 [t44] σ3 (fun t45 σ4 =>
 (retV (t45) σ4 K)) (panV X))))))
 (retV ((.pv (.bool true))) σ3 K)))) (panV X))))
 (retV ((.pv (.bool true))) σ K)))))))
theorem J72_5_eq (env : Env)  (n1_j5 k5_j5 : AV) (σ : AS) (K : AV → AS → Prop) (X : PV → AS → Prop) : J72_5 env  n1_j5 k5_j5 σ K X = wpD prog env an72 (subC (bodyC f72) [1, 1, 1, 1]) (contQ prog env an72 (bodyC f72) [1, 1, 1, 1] [] (rootQ prog f72 K X)) [(1, n1_j5), (5, k5_j5)] σ := by
  unfold J72_5
  kernel_rfl
def S72 (env : Env) (n0_a : AV) (σ : AS) (K : AV → AS → Prop) (X : PV → AS → Prop) : Prop :=
 (lock boxD σ n0_a fun t1 σ1 =>
 (lock fieldAddrD prog 39 t1 1 fun t7 =>
 (lock loadD prog σ1 9 t7 fun t8 =>
 (env 103 [t8] σ1 (fun t9 σ2 =>
 (lock extractD t9 0 fun t10 =>
 (lock extractD t9 1 fun t11 =>
 (lock fieldAddrD prog 39 t1 2 fun t12 =>
 (lock loadD prog σ2 35 t12 fun t13 =>
 (lock lenD prog 35 t13 fun t14 =>
 (lock binD prog .lss 3 t14 t10 fun t17 =>
 (guardD t17 false
 (lock binD prog .gtr 3 t14 t11 fun t21 =>
 (condD t21
 (retV ((.pv (.bool false))) σ2 K)
 (J72_5 env  (t1) (t14) σ2 K X)))
 (retV ((.pv (.bool false))) σ2 K))))))))) (panV X)))))
theorem S72_eq (env : Env) (n0_a : AV) (σ : AS) (K : AV → AS → Prop) (X : PV → AS → Prop) : S72 env n0_a σ K X = bodyD prog env an72 f72 [n0_a] σ K X := by
  unfold S72
  kernel_rfl
theorem S72_ok : (match f72.body with | some c => okCode an72 prog f72.ntmps c | none => false) = true := by kernel_rfl
/-! ### tedder/syntax.looped (function 73) -/
def an73 : An := { mu := [], cut := [(4, [4, 5])], loop := [] }
def J73_4 (env : Env)  (t4_j4 t5_j4 : AV) (σ : AS) (K : AV → AS → Prop) (X : PV → AS → Prop) : Prop :=
 (condD t5_j4
 (retV ((.pv (.int .i64 1))) σ K)
 (lock binD prog .eql 9 t4_j4 (.pv (.str [100, 111])) fun t9 =>
 (condD t9
 (retV ((.pv (.int .i64 0))) σ K)
 (lock binD prog .eql 9 t4_j4 (.pv (.str [102, 111, 114])) fun t11 =>
 (condD t11
 (retV ((.pv (.int .i64 3))) σ K)
 (retV ((.pv (.int .i64 (-1)))) σ K))))))
theorem J73_4_eq (env : Env)  (t4_j4 t5_j4 : AV) (σ : AS) (K : AV → AS → Prop) (X : PV → AS → Prop) : J73_4 env  t4_j4 t5_j4 σ K X = wpD prog env an73 (subC (bodyC f73) [1, 0, 1, 0, 1]) (contQ prog env an73 (bodyC f73) [1, 0, 1, 0, 1] [] (rootQ prog f73 K X)) [(4, t4_j4), (5, t5_j4)] σ := by
  unfold J73_4
  kernel_rfl
def S73 (env : Env) (n0_a : AV) (σ : AS) (K : AV → AS → Prop) (X : PV → AS → Prop) : Prop :=
 (lock boxD σ n0_a fun t1 σ1 =>
 (lock fieldAddrD prog 39 t1 0 fun t3 =>
 (lock loadD prog σ1 9 t3 fun t4 =>
 (lock binD prog .eql 9 t4 (.pv (.str [119, 104, 105, 108, 101])) fun t6 =>
 (condD t6
 (J73_4 env  (t4) (t6) σ1 K X)
 (lock binD prog .eql 9 t4 (.pv (.str [102, 111, 114, 105, 110])) fun t7 =>
 (J73_4 env  (t4) (t7) σ1 K X)))))))
theorem S73_eq (env : Env) (n0_a : AV) (σ : AS) (K : AV → AS → Prop) (X : PV → AS → Prop) : S73 env n0_a σ K X = bodyD prog env an73 f73 [n0_a] σ K X := by
  unfold S73
  kernel_rfl
theorem S73_ok : (match f73.body with | some c => okCode an73 prog f73.ntmps c | none => false) = true := by kernel_rfl
/-! ### tedder/syntax.fine (function 34) -/
def an34 : An := { mu := [], cut := [(4, [1, 3, 5, 10]), (5, [1, 3, 5, 10]), (6, [1, 3, 5, 10]), (8, [1, 3, 5]), (13, [1, 3, 5, 8, 9, 54, 55, 56])], loop := [(9, [1, 3, 5, 54, 55, 56])] }
def J34_13 (env : Env) (I9 : Nat → List AV → AS → Prop) (m9 : Nat) (deep1_j13 n3_j13 w5_j13 k8_j13 in9_j13 t54_j13 t55_j13 t56_j13 : AV) (σ : AS) (K : AV → AS → Prop) (X : PV → AS → Prop) : Prop :=
 (lock loadD prog σ 39 k8_j13 fun t71 =>
 (lock binD prog .add 3 deep1_j13 (.pv (.int .i64 1)) fun t73 =>
 (lock loadD prog σ 64 in9_j13 fun t74 =>
 (env 34 [t71, t73, t74] σ (fun t75 σ10 =>
 (unD .not t75 fun t76 =>
 (condD t76
 (retV ((.pv (.bool false))) σ10 K)
 (lock binD prog .add 3 t56_j13 (.pv (.int .i64 1)) fun t77 =>
 (∃ m', m' < m9 ∧ I9 m' [deep1_j13, n3_j13, w5_j13, t54_j13, t55_j13, t77] σ10))))) (panV X)))))
theorem J34_13_eq (env : Env) (I9 : Nat → List AV → AS → Prop) (m9 : Nat) (deep1_j13 n3_j13 w5_j13 k8_j13 in9_j13 t54_j13 t55_j13 t56_j13 : AV) (σ : AS) (K : AV → AS → Prop) (X : PV → AS → Prop) : J34_13 env I9 m9 deep1_j13 n3_j13 w5_j13 k8_j13 in9_j13 t54_j13 t55_j13 t56_j13 σ K X = wpD prog env an34 (subC (bodyC f34) [1, 1, 0, 1, 0, 0, 1, 1, 0, 0, 1, 1, 1]) (contQ prog env an34 (bodyC f34) [1, 1, 0, 1, 0, 0, 1, 1, 0, 0, 1, 1, 1] [(I9, m9)] (rootQ prog f34 K X)) [(1, deep1_j13), (3, n3_j13), (5, w5_j13), (8, k8_j13), (9, in9_j13), (54, t54_j13), (55, t55_j13), (56, t56_j13)] σ := by
  unfold J34_13
  kernel_rfl
def L34_9 (env : Env) (I9 : Nat → List AV → AS → Prop) (m9 : Nat) (deep1_l9 n3_l9 w5_l9 t54_l9 t55_l9 t56_l9 : AV) (σ : AS) (K : AV → AS → Prop) (X : PV → AS → Prop) : Prop :=
 (lock binD prog .lss 3 t56_l9 t55_l9 fun t57 =>
 (condD t57
 (lock indexAddrD prog 35 t54_l9 t56_l9 fun t59 =>
 (lock loadD prog σ 39 t59 fun t60 =>
 (lock allocD prog σ 39 fun t8 σ4 =>
 (lock storeD prog σ4 39 t8 t60 fun σ5 =>
 (lock loadD prog σ5 64 w5_l9 fun t61 =>
 (lock allocD prog σ5 64 fun t9 σ6 =>
 (lock storeD prog σ6 64 t9 t61 fun σ7 =>
 (lock fieldAddrD prog 64 w5_l9 2 fun t62 =>
 (lock loadD prog σ7 4 t62 fun t63 =>
 (guardD t63 false
 (lock loadD prog σ7 39 n3_l9 fun t66 =>
 (env 73 [t66] σ7 (fun t67 σ8 =>
 (lock binD prog .eql 3 t56_l9 t67 fun t68 =>
 (lock fieldAddrD prog 64 t9 2 fun t70 =>
 (lock storeD prog σ8 4 t70 t68 fun σ9 =>
 (J34_13 env I9 m9 (deep1_l9) (n3_l9) (w5_l9) (t8) (t9) (t54_l9) (t55_l9) (t56_l9) σ9 K X))))) (panV X)))
 (lock fieldAddrD prog 64 t9 2 fun t70 =>
 (lock storeD prog σ7 4 t70 (.pv (.bool true)) fun σ11 =>
 (J34_13 env I9 m9 (deep1_l9) (n3_l9) (w5_l9) (t8) (t9) (t54_l9) (t55_l9) (t56_l9) σ11 K X)))))))))))))
 (retV ((.pv (.bool true))) σ K)))
theorem L34_9_eq (env : Env) (I9 : Nat → List AV → AS → Prop) (m9 : Nat) (deep1_l9 n3_l9 w5_l9 t54_l9 t55_l9 t56_l9 : AV) (σ : AS) (K : AV → AS → Prop) (X : PV → AS → Prop) : L34_9 env I9 m9 deep1_l9 n3_l9 w5_l9 t54_l9 t55_l9 t56_l9 σ K X = wpD prog env an34 (subC (bodyC f34) [1, 1, 0, 1, 0, 0]) (contQ prog env an34 (bodyC f34) [1, 1, 0, 1, 0, 0] [(I9, m9)] (rootQ prog f34 K X)) [(1, deep1_l9), (3, n3_l9), (5, w5_l9), (54, t54_l9), (55, t55_l9), (56, t56_l9)] σ := by
  unfold L34_9
  kernel_rfl
theorem lp34_9 {α : Type} {env : Env}  {deep1_l9 n3_l9 w5_l9 t54_l9 t55_l9 : AV} {σ : AS} {K : AV → AS → Prop} {X : PV → AS → Prop} (μ : α → AS → Nat) (I : α → AS → Prop) (et56_l9 : α → AV) (a0 : α) (h0 : I a0 σ)
 (h : ∀ a σ, I a σ → L34_9 env  (Inv (fun a => [deep1_l9, n3_l9, w5_l9, t54_l9, t55_l9, et56_l9 a]) μ I) (μ a σ) deep1_l9 n3_l9 w5_l9 t54_l9 t55_l9 (et56_l9 a) σ K X) :
 ∃ I9 : Nat → List AV → AS → Prop, (∃ m, I9 m [deep1_l9, n3_l9, w5_l9, t54_l9, t55_l9, et56_l9 a0] σ) ∧ ∀ (m : Nat) (x0 x1 x2 x3 x4 x5 : AV), ∀ σ, I9 m [x0, x1, x2, x3, x4, x5] σ →
 L34_9 env  I9 m x0 x1 x2 x3 x4 x5 σ K X := by
  refine ⟨Inv (fun a => [deep1_l9, n3_l9, w5_l9, t54_l9, t55_l9, et56_l9 a]) μ I, ⟨_, a0, rfl, rfl, h0⟩, ?_⟩
  rintro m x0 x1 x2 x3 x4 x5 σ' ⟨a, hv, rfl, hI⟩
  simp only [List.cons.injEq, and_true] at hv
  obtain ⟨rfl, rfl, rfl, rfl, rfl, rfl⟩ := hv
  exact h a σ' hI
def J34_8 (env : Env)  (deep1_j8 n3_j8 w5_j8 : AV) (σ : AS) (K : AV → AS → Prop) (X : PV → AS → Prop) : Prop :=
 (lock fieldAddrD prog 39 n3_j8 2 fun t53 =>
 (lock loadD prog σ 35 t53 fun t54 =>
 (lock lenD prog 35 t54 fun t55 =>
 (∃ I9 : Nat → List AV → AS → Prop, (∃ m, I9 m [deep1_j8, n3_j8, w5_j8, t54, t55, (.pv (.int .i64 0))] σ) ∧ ∀ (m9 : Nat) (deep1_l9 n3_l9 w5_l9 t54_l9 t55_l9 t56_l9 : AV), ∀ σ3, I9 m9 [deep1_l9, n3_l9, w5_l9, t54_l9, t55_l9, t56_l9] σ3 →
 (L34_9 env I9 m9 deep1_l9 n3_l9 w5_l9 t54_l9 t55_l9 t56_l9 σ3 K X)))))
theorem J34_8_eq (env : Env)  (deep1_j8 n3_j8 w5_j8 : AV) (σ : AS) (K : AV → AS → Prop) (X : PV → AS → Prop) : J34_8 env  deep1_j8 n3_j8 w5_j8 σ K X = wpD prog env an34 (subC (bodyC f34) [1, 1]) (contQ prog env an34 (bodyC f34) [1, 1] [] (rootQ prog f34 K X)) [(1, deep1_j8), (3, n3_j8), (5, w5_j8)] σ := by
  unfold J34_8
  simp only [L34_9_eq]
  kernel_rfl
def J34_6 (env : Env)  (deep1_j6 n3_j6 w5_j6 t10_j6 : AV) (σ : AS) (K : AV → AS → Prop) (X : PV → AS → Prop) : Prop :=
 (condD t10_j6
 (condD t10_j6
 (retV ((.pv (.bool false))) σ K)
 (J34_8 env  (deep1_j6) (n3_j6) (w5_j6) σ K X))
 (lock fieldAddrD prog 39 n3_j6 0 fun t45 =>
 (lock loadD prog σ 9 t45 fun t46 =>
 (lock binD prog .eql 9 t46 (.pv (.str [98, 117, 105, 108, 116])) fun t47 =>
 (guardD t47 true
 (lock loadD prog σ 39 n3_j6 fun t49 =>
 (env 72 [t49] σ (fun t50 σ12 =>
 (unD .not t50 fun t51 =>
 (condD t51
 (retV ((.pv (.bool false))) σ12 K)
 (J34_8 env  (deep1_j6) (n3_j6) (w5_j6) σ12 K X)))) (panV X)))
 (J34_8 env  (deep1_j6) (n3_j6) (w5_j6) σ K X))))))
theorem J34_6_eq (env : Env)  (deep1_j6 n3_j6 w5_j6 t10_j6 : AV) (σ : AS) (K : AV → AS → Prop) (X : PV → AS → Prop) : J34_6 env  deep1_j6 n3_j6 w5_j6 t10_j6 σ K X = wpD prog env an34 (subC (bodyC f34) [1, 0, 0, 0, 1, 1, 1, 1, 1, 1, 1, 1, 1]) (contQ prog env an34 (bodyC f34) [1, 0, 0, 0, 1, 1, 1, 1, 1, 1, 1, 1, 1] [] (rootQ prog f34 K X)) [(1, deep1_j6), (3, n3_j6), (5, w5_j6), (10, t10_j6)] σ := by
  unfold J34_6
  kernel_rfl
def J34_5 (env : Env)  (deep1_j5 n3_j5 w5_j5 t10_j5 : AV) (σ : AS) (K : AV → AS → Prop) (X : PV → AS → Prop) : Prop :=
 (condD t10_j5
 (condD t10_j5
 (retV ((.pv (.bool false))) σ K)
 (J34_8 env  (deep1_j5) (n3_j5) (w5_j5) σ K X))
 (lock fieldAddrD prog 39 n3_j5 0 fun t32 =>
 (lock loadD prog σ 9 t32 fun t33 =>
 (lock binD prog .eql 9 t33 (.pv (.str [98, 114, 101, 97, 107])) fun t34 =>
 (guardD t34 false
 (lock fieldAddrD prog 39 n3_j5 0 fun t36 =>
 (lock loadD prog σ 9 t36 fun t37 =>
 (lock binD prog .eql 9 t37 (.pv (.str [99, 111, 110, 116, 105, 110, 117, 101])) fun t38 =>
 (guardD t38 true
 (lock fieldAddrD prog 64 w5_j5 2 fun t41 =>
 (lock loadD prog σ 4 t41 fun t42 =>
 (unD .not t42 fun t43 =>
 (J34_6 env  (deep1_j5) (n3_j5) (w5_j5) (t43) σ K X))))
 (J34_6 env  (deep1_j5) (n3_j5) (w5_j5) (.pv (.bool false)) σ K X)))))
 (lock fieldAddrD prog 64 w5_j5 2 fun t41 =>
 (lock loadD prog σ 4 t41 fun t42 =>
 (unD .not t42 fun t43 =>
 (J34_6 env  (deep1_j5) (n3_j5) (w5_j5) (t43) σ K X)))))))))
theorem J34_5_eq (env : Env)  (deep1_j5 n3_j5 w5_j5 t10_j5 : AV) (σ : AS) (K : AV → AS → Prop) (X : PV → AS → Prop) : J34_5 env  deep1_j5 n3_j5 w5_j5 t10_j5 σ K X = wpD prog env an34 (subC (bodyC f34) [1, 0, 0, 0, 1, 1, 1, 1, 1, 1, 1]) (contQ prog env an34 (bodyC f34) [1, 0, 0, 0, 1, 1, 1, 1, 1, 1, 1] [] (rootQ prog f34 K X)) [(1, deep1_j5), (3, n3_j5), (5, w5_j5), (10, t10_j5)] σ := by
  unfold J34_5
  kernel_rfl
def J34_4 (env : Env)  (deep1_j4 n3_j4 w5_j4 t10_j4 : AV) (σ : AS) (K : AV → AS → Prop) (X : PV → AS → Prop) : Prop :=
 (condD t10_j4
 (condD t10_j4
 (retV ((.pv (.bool false))) σ K)
 (J34_8 env  (deep1_j4) (n3_j4) (w5_j4) σ K X))
 (lock fieldAddrD prog 39 n3_j4 0 fun t24 =>
 (lock loadD prog σ 9 t24 fun t25 =>
 (lock binD prog .eql 9 t25 (.pv (.str [114, 101, 116, 117, 114, 110])) fun t26 =>
 (guardD t26 true
 (lock fieldAddrD prog 64 w5_j4 1 fun t28 =>
 (lock loadD prog σ 4 t28 fun t29 =>
 (unD .not t29 fun t30 =>
 (J34_5 env  (deep1_j4) (n3_j4) (w5_j4) (t30) σ K X))))
 (J34_5 env  (deep1_j4) (n3_j4) (w5_j4) (.pv (.bool false)) σ K X))))))
theorem J34_4_eq (env : Env)  (deep1_j4 n3_j4 w5_j4 t10_j4 : AV) (σ : AS) (K : AV → AS → Prop) (X : PV → AS → Prop) : J34_4 env  deep1_j4 n3_j4 w5_j4 t10_j4 σ K X = wpD prog env an34 (subC (bodyC f34) [1, 0, 0, 0, 1, 1, 1, 1, 1]) (contQ prog env an34 (bodyC f34) [1, 0, 0, 0, 1, 1, 1, 1, 1] [] (rootQ prog f34 K X)) [(1, deep1_j4), (3, n3_j4), (5, w5_j4), (10, t10_j4)] σ := by
  unfold J34_4
  kernel_rfl
def S34 (env : Env) (n0_a deep1_a w2_a : AV) (σ : AS) (K : AV → AS → Prop) (X : PV → AS → Prop) : Prop :=
 (lock boxD σ n0_a fun t3 σ1 =>
 (lock boxD σ1 w2_a fun t5 σ2 =>
 (lock binD prog .gtr 3 deep1_a (.pv (.int .i64 200)) fun t12 =>
 (condD t12
 (condD t12
 (retV ((.pv (.bool false))) σ2 K)
 (J34_8 env  (deep1_a) (t3) (t5) σ2 K X))
 (lock fieldAddrD prog 39 t3 0 fun t13 =>
 (lock loadD prog σ2 9 t13 fun t14 =>
 (lock binD prog .eql 9 t14 (.pv (.str [108, 105, 115, 116])) fun t15 =>
 (condD t15
 (condD t15
 (retV ((.pv (.bool false))) σ2 K)
 (J34_8 env  (deep1_a) (t3) (t5) σ2 K X))
 (lock fieldAddrD prog 39 t3 0 fun t16 =>
 (lock loadD prog σ2 9 t16 fun t17 =>
 (lock binD prog .eql 9 t17 (.pv (.str [110, 101, 120, 116])) fun t18 =>
 (guardD t18 true
 (lock fieldAddrD prog 64 t5 0 fun t20 =>
 (lock loadD prog σ2 4 t20 fun t21 =>
 (unD .not t21 fun t22 =>
 (J34_4 env  (deep1_a) (t3) (t5) (t22) σ2 K X))))
 (J34_4 env  (deep1_a) (t3) (t5) (.pv (.bool false)) σ2 K X)))))))))))))
theorem S34_eq (env : Env) (n0_a deep1_a w2_a : AV) (σ : AS) (K : AV → AS → Prop) (X : PV → AS → Prop) : S34 env n0_a deep1_a w2_a σ K X = bodyD prog env an34 f34 [n0_a, deep1_a, w2_a] σ K X := by
  unfold S34
  kernel_rfl
theorem S34_ok : (match f34.body with | some c => okCode an34 prog f34.ntmps c | none => false) = true := by kernel_rfl
end Go.AD
