/- Bodies in the calculus' own words. Printed by gen.py, a program of this claim's own. -/
import Derived.Test.YtjgjmpophpifgaaTy
set_option linter.unusedVariables false
set_option maxRecDepth 100000
namespace Go.AD
/-! ### tedder/tedderref05.letter (function 23) -/
def an23 : An := { mu := [], cut := [], loop := [] }
def S23 (env : Env) (c0_a : AV) (σ : AS) (K : AV → AS → Prop) (X : PV → AS → Prop) : Prop :=
 (lock binD Go.Proofs.Try.prog .geq 5 c0_a (.pv (.int .u8 97)) fun t4 =>
 (guardD t4 true
 (lock binD Go.Proofs.Try.prog .leq 5 c0_a (.pv (.int .u8 122)) fun t7 =>
 (guardD t7 false
 (lock binD Go.Proofs.Try.prog .geq 5 c0_a (.pv (.int .u8 65)) fun t11 =>
 (guardD t11 true
 (lock binD Go.Proofs.Try.prog .leq 5 c0_a (.pv (.int .u8 90)) fun t14 =>
 (guardD t14 false
 (lock binD Go.Proofs.Try.prog .eql 5 c0_a (.pv (.int .u8 95)) fun t19 =>
 (retV (t19) σ K))
 (retV ((.pv (.bool true))) σ K)))
 (lock binD Go.Proofs.Try.prog .eql 5 c0_a (.pv (.int .u8 95)) fun t19 =>
 (retV (t19) σ K))))
 (retV ((.pv (.bool true))) σ K)))
 (lock binD Go.Proofs.Try.prog .geq 5 c0_a (.pv (.int .u8 65)) fun t11 =>
 (guardD t11 true
 (lock binD Go.Proofs.Try.prog .leq 5 c0_a (.pv (.int .u8 90)) fun t14 =>
 (guardD t14 false
 (lock binD Go.Proofs.Try.prog .eql 5 c0_a (.pv (.int .u8 95)) fun t19 =>
 (retV (t19) σ K))
 (retV ((.pv (.bool true))) σ K)))
 (lock binD Go.Proofs.Try.prog .eql 5 c0_a (.pv (.int .u8 95)) fun t19 =>
 (retV (t19) σ K))))))
theorem S23_eq (env : Env) (c0_a : AV) (σ : AS) (K : AV → AS → Prop) (X : PV → AS → Prop) : S23 env c0_a σ K X = bodyD Go.Proofs.Try.prog env an23 Go.Proofs.Try.f23 [c0_a] σ K X := by
  unfold S23
  kernel_rfl
theorem S23_ok : (match Go.Proofs.Try.f23.body with | some c => okCode an23 Go.Proofs.Try.prog Go.Proofs.Try.f23.ntmps c | none => false) = true := by kernel_rfl
/-! ### tedder/tedderref05.digit (function 24) -/
def an24 : An := { mu := [], cut := [], loop := [] }
def S24 (env : Env) (c0_a : AV) (σ : AS) (K : AV → AS → Prop) (X : PV → AS → Prop) : Prop :=
 (lock binD Go.Proofs.Try.prog .geq 5 c0_a (.pv (.int .u8 48)) fun t4 =>
 (guardD t4 true
 (lock binD Go.Proofs.Try.prog .leq 5 c0_a (.pv (.int .u8 57)) fun t7 =>
 (retV (t7) σ K))
 (retV ((.pv (.bool false))) σ K)))
theorem S24_eq (env : Env) (c0_a : AV) (σ : AS) (K : AV → AS → Prop) (X : PV → AS → Prop) : S24 env c0_a σ K X = bodyD Go.Proofs.Try.prog env an24 Go.Proofs.Try.f24 [c0_a] σ K X := by
  unfold S24
  kernel_rfl
theorem S24_ok : (match Go.Proofs.Try.f24.body with | some c => okCode an24 Go.Proofs.Try.prog Go.Proofs.Try.f24.ntmps c | none => false) = true := by kernel_rfl
/-! ### tedder/tedderref05.among (function 25) -/
def an25 : An := { mu := [], cut := [], loop := [(2, [0, 1, 5])] }
def L25_2 (env : Env) (I2 : Nat → List AV → AS → Prop) (m2 : Nat) (s0_l2 l1_l2 i5_l2 : AV) (σ : AS) (K : AV → AS → Prop) (X : PV → AS → Prop) : Prop :=
 (lock lenD Go.Proofs.Try.prog 48 l1_l2 fun t8 =>
 (lock binD Go.Proofs.Try.prog .lss 3 i5_l2 t8 fun t9 =>
 (condD t9
 (lock indexAddrD Go.Proofs.Try.prog 48 l1_l2 i5_l2 fun t14 =>
 (lock loadD Go.Proofs.Try.prog σ 9 t14 fun t15 =>
 (lock binD Go.Proofs.Try.prog .eql 9 t15 s0_l2 fun t17 =>
 (condD t17
 (retV ((.pv (.bool true))) σ K)
 (lock binD Go.Proofs.Try.prog .add 3 i5_l2 (.pv (.int .i64 1)) fun t11 =>
 (∃ m', m' < m2 ∧ I2 m' [s0_l2, l1_l2, t11] σ))))))
 (retV ((.pv (.bool false))) σ K))))
theorem L25_2_eq (env : Env) (I2 : Nat → List AV → AS → Prop) (m2 : Nat) (s0_l2 l1_l2 i5_l2 : AV) (σ : AS) (K : AV → AS → Prop) (X : PV → AS → Prop) : L25_2 env I2 m2 s0_l2 l1_l2 i5_l2 σ K X = wpD Go.Proofs.Try.prog env an25 (subC (bodyC Go.Proofs.Try.f25) [1, 0, 1, 0, 0]) (contQ Go.Proofs.Try.prog env an25 (bodyC Go.Proofs.Try.f25) [1, 0, 1, 0, 0] [(I2, m2)] (rootQ Go.Proofs.Try.prog Go.Proofs.Try.f25 K X)) [(0, s0_l2), (1, l1_l2), (5, i5_l2)] σ := by
  unfold L25_2
  kernel_rfl
theorem lp25_2 {α : Type} {env : Env}  {s0_l2 l1_l2 : AV} {σ : AS} {K : AV → AS → Prop} {X : PV → AS → Prop} (μ : α → AS → Nat) (I : α → AS → Prop) (ei5_l2 : α → AV) (a0 : α) (h0 : I a0 σ)
 (h : ∀ a σ, I a σ → L25_2 env  (Inv (fun a => [s0_l2, l1_l2, ei5_l2 a]) μ I) (μ a σ) s0_l2 l1_l2 (ei5_l2 a) σ K X) :
 ∃ I2 : Nat → List AV → AS → Prop, (∃ m, I2 m [s0_l2, l1_l2, ei5_l2 a0] σ) ∧ ∀ (m : Nat) (x0 x1 x2 : AV), ∀ σ, I2 m [x0, x1, x2] σ →
 L25_2 env  I2 m x0 x1 x2 σ K X := by
  refine ⟨Inv (fun a => [s0_l2, l1_l2, ei5_l2 a]) μ I, ⟨_, a0, rfl, rfl, h0⟩, ?_⟩
  rintro m x0 x1 x2 σ' ⟨a, hv, rfl, hI⟩
  simp only [List.cons.injEq, and_true] at hv
  obtain ⟨rfl, rfl, rfl⟩ := hv
  exact h a σ' hI
def S25 (env : Env) (s0_a l1_a : AV) (σ : AS) (K : AV → AS → Prop) (X : PV → AS → Prop) : Prop :=
 (∃ I2 : Nat → List AV → AS → Prop, (∃ m, I2 m [s0_a, l1_a, (.pv (.int .i64 0))] σ) ∧ ∀ (m2 : Nat) (s0_l2 l1_l2 i5_l2 : AV), ∀ σ1, I2 m2 [s0_l2, l1_l2, i5_l2] σ1 →
 (L25_2 env I2 m2 s0_l2 l1_l2 i5_l2 σ1 K X))
theorem S25_eq (env : Env) (s0_a l1_a : AV) (σ : AS) (K : AV → AS → Prop) (X : PV → AS → Prop) : S25 env s0_a l1_a σ K X = bodyD Go.Proofs.Try.prog env an25 Go.Proofs.Try.f25 [s0_a, l1_a] σ K X := by
  unfold S25
  simp only [L25_2_eq]
  kernel_rfl
theorem S25_ok : (match Go.Proofs.Try.f25.body with | some c => okCode an25 Go.Proofs.Try.prog Go.Proofs.Try.f25.ntmps c | none => false) = true := by kernel_rfl
/-! ### tedder/tedderref05.barred (function 26) -/
def an26 : An := { mu := [], cut := [], loop := [] }
def S26 (env : Env) (σ : AS) (K : AV → AS → Prop) (X : PV → AS → Prop) : Prop :=
 (lock buildSliceD Go.Proofs.Try.prog false σ 48 17 17 [(0, (.pv (.str [103, 101, 116, 108, 105, 110, 101]))), (1, (.pv (.str [115, 121, 115, 116, 101, 109]))), (2, (.pv (.str [99, 108, 111, 115, 101]))), (3, (.pv (.str [102, 102, 108, 117, 115, 104]))), (4, (.pv (.str [110, 101, 120, 116, 102, 105, 108, 101]))), (5, (.pv (.str [114, 97, 110, 100]))), (6, (.pv (.str [115, 114, 97, 110, 100]))), (7, (.pv (.str [115, 105, 110]))), (8, (.pv (.str [99, 111, 115]))), (9, (.pv (.str [97, 116, 97, 110, 50]))), (10, (.pv (.str [101, 120, 112]))), (11, (.pv (.str [108, 111, 103]))), (12, (.pv (.str [115, 113, 114, 116]))), (13, (.pv (.str [102, 117, 110, 99]))), (14, (.pv (.str [69, 78, 86, 73, 82, 79, 78]))), (15, (.pv (.str [65, 82, 71, 86]))), (16, (.pv (.str [65, 82, 71, 67])))] fun t1 σ1 =>
 (retV (t1) σ1 K))
theorem S26_eq (env : Env) (σ : AS) (K : AV → AS → Prop) (X : PV → AS → Prop) : S26 env  σ K X = bodyD Go.Proofs.Try.prog env an26 Go.Proofs.Try.f26 [] σ K X := by
  unfold S26
  kernel_rfl
theorem S26_ok : (match Go.Proofs.Try.f26.body with | some c => okCode an26 Go.Proofs.Try.prog Go.Proofs.Try.f26.ntmps c | none => false) = true := by kernel_rfl
/-! ### tedder/tedderref05.words (function 27) -/
def an27 : An := { mu := [], cut := [], loop := [] }
def S27 (env : Env) (σ : AS) (K : AV → AS → Prop) (X : PV → AS → Prop) : Prop :=
 (lock buildSliceD Go.Proofs.Try.prog false σ 48 17 17 [(0, (.pv (.str [66, 69, 71, 73, 78]))), (1, (.pv (.str [69, 78, 68]))), (2, (.pv (.str [102, 117, 110, 99, 116, 105, 111, 110]))), (3, (.pv (.str [100, 101, 108, 101, 116, 101]))), (4, (.pv (.str [105, 110]))), (5, (.pv (.str [105, 102]))), (6, (.pv (.str [101, 108, 115, 101]))), (7, (.pv (.str [119, 104, 105, 108, 101]))), (8, (.pv (.str [100, 111]))), (9, (.pv (.str [102, 111, 114]))), (10, (.pv (.str [98, 114, 101, 97, 107]))), (11, (.pv (.str [99, 111, 110, 116, 105, 110, 117, 101]))), (12, (.pv (.str [110, 101, 120, 116]))), (13, (.pv (.str [101, 120, 105, 116]))), (14, (.pv (.str [114, 101, 116, 117, 114, 110]))), (15, (.pv (.str [112, 114, 105, 110, 116]))), (16, (.pv (.str [112, 114, 105, 110, 116, 102])))] fun t1 σ1 =>
 (retV (t1) σ1 K))
theorem S27_eq (env : Env) (σ : AS) (K : AV → AS → Prop) (X : PV → AS → Prop) : S27 env  σ K X = bodyD Go.Proofs.Try.prog env an27 Go.Proofs.Try.f27 [] σ K X := by
  unfold S27
  kernel_rfl
theorem S27_ok : (match Go.Proofs.Try.f27.body with | some c => okCode an27 Go.Proofs.Try.prog Go.Proofs.Try.f27.ntmps c | none => false) = true := by kernel_rfl
/-! ### tedder/tedderref05.builts (function 28) -/
def an28 : An := { mu := [], cut := [], loop := [] }
def S28 (env : Env) (σ : AS) (K : AV → AS → Prop) (X : PV → AS → Prop) : Prop :=
 (lock buildSliceD Go.Proofs.Try.prog false σ 48 11 11 [(0, (.pv (.str [108, 101, 110, 103, 116, 104]))), (1, (.pv (.str [115, 117, 98, 115, 116, 114]))), (2, (.pv (.str [105, 110, 100, 101, 120]))), (3, (.pv (.str [115, 112, 108, 105, 116]))), (4, (.pv (.str [115, 117, 98]))), (5, (.pv (.str [103, 115, 117, 98]))), (6, (.pv (.str [109, 97, 116, 99, 104]))), (7, (.pv (.str [115, 112, 114, 105, 110, 116, 102]))), (8, (.pv (.str [116, 111, 108, 111, 119, 101, 114]))), (9, (.pv (.str [116, 111, 117, 112, 112, 101, 114]))), (10, (.pv (.str [105, 110, 116])))] fun t1 σ1 =>
 (retV (t1) σ1 K))
theorem S28_eq (env : Env) (σ : AS) (K : AV → AS → Prop) (X : PV → AS → Prop) : S28 env  σ K X = bodyD Go.Proofs.Try.prog env an28 Go.Proofs.Try.f28 [] σ K X := by
  unfold S28
  kernel_rfl
theorem S28_ok : (match Go.Proofs.Try.f28.body with | some c => okCode an28 Go.Proofs.Try.prog Go.Proofs.Try.f28.ntmps c | none => false) = true := by kernel_rfl
/-! ### tedder/tedderref05.ops (function 29) -/
def an29 : An := { mu := [], cut := [], loop := [] }
def S29 (env : Env) (σ : AS) (K : AV → AS → Prop) (X : PV → AS → Prop) : Prop :=
 (lock buildSliceD Go.Proofs.Try.prog false σ 48 38 38 [(0, (.pv (.str [62, 62]))), (1, (.pv (.str [33, 126]))), (2, (.pv (.str [43, 61]))), (3, (.pv (.str [45, 61]))), (4, (.pv (.str [42, 61]))), (5, (.pv (.str [47, 61]))), (6, (.pv (.str [37, 61]))), (7, (.pv (.str [94, 61]))), (8, (.pv (.str [61, 61]))), (9, (.pv (.str [60, 61]))), (10, (.pv (.str [62, 61]))), (11, (.pv (.str [33, 61]))), (12, (.pv (.str [43, 43]))), (13, (.pv (.str [45, 45]))), (14, (.pv (.str [38, 38]))), (15, (.pv (.str [124, 124]))), (16, (.pv (.str [123]))), (17, (.pv (.str [125]))), (18, (.pv (.str [40]))), (19, (.pv (.str [41]))), (20, (.pv (.str [91]))), (21, (.pv (.str [93]))), (22, (.pv (.str [59]))), (23, (.pv (.str [44]))), (24, (.pv (.str [43]))), (25, (.pv (.str [45]))), (26, (.pv (.str [42]))), (27, (.pv (.str [47]))), (28, (.pv (.str [37]))), (29, (.pv (.str [94]))), (30, (.pv (.str [33]))), (31, (.pv (.str [62]))), (32, (.pv (.str [60]))), (33, (.pv (.str [63]))), (34, (.pv (.str [58]))), (35, (.pv (.str [126]))), (36, (.pv (.str [36]))), (37, (.pv (.str [61])))] fun t1 σ1 =>
 (retV (t1) σ1 K))
theorem S29_eq (env : Env) (σ : AS) (K : AV → AS → Prop) (X : PV → AS → Prop) : S29 env  σ K X = bodyD Go.Proofs.Try.prog env an29 Go.Proofs.Try.f29 [] σ K X := by
  unfold S29
  kernel_rfl
theorem S29_ok : (match Go.Proofs.Try.f29.body with | some c => okCode an29 Go.Proofs.Try.prog Go.Proofs.Try.f29.ntmps c | none => false) = true := by kernel_rfl
/-! ### tedder/tedderref05.operand (function 21) -/
def an21 : An := { mu := [], cut := [(6, [1, 4, 5])], loop := [] }
def J21_6 (env : Env)  (t1_j6 t4_j6 t5_j6 : AV) (σ : AS) (K : AV → AS → Prop) (X : PV → AS → Prop) : Prop :=
 (condD t5_j6
 (retV ((.pv (.bool true))) σ K)
 (lock binD Go.Proofs.Try.prog .eql 9 t4_j6 (.pv (.str [98, 117, 105, 108, 116])) fun t11 =>
 (condD t11
 (lock fieldAddrD Go.Proofs.Try.prog 30 t1_j6 1 fun t12 =>
 (lock loadD Go.Proofs.Try.prog σ 9 t12 fun t13 =>
 (lock binD Go.Proofs.Try.prog .eql 9 t13 (.pv (.str [108, 101, 110, 103, 116, 104])) fun t14 =>
 (retV (t14) σ K))))
 (lock binD Go.Proofs.Try.prog .eql 9 t4_j6 (.pv (.str [111, 112])) fun t16 =>
 (condD t16
 (lock fieldAddrD Go.Proofs.Try.prog 30 t1_j6 1 fun t17 =>
 (lock loadD Go.Proofs.Try.prog σ 9 t17 fun t18 =>
 (lock buildSliceD Go.Proofs.Try.prog false σ 48 5 5 [(0, (.pv (.str [41]))), (1, (.pv (.str [93]))), (2, (.pv (.str [36]))), (3, (.pv (.str [43, 43]))), (4, (.pv (.str [45, 45])))] fun t19 σ2 =>
 (env 25 [t18, t19] σ2 (fun t20 σ3 =>
 (retV (t20) σ3 K)) (panV X)))))
 (retV ((.pv (.bool false))) σ K))))))
theorem J21_6_eq (env : Env)  (t1_j6 t4_j6 t5_j6 : AV) (σ : AS) (K : AV → AS → Prop) (X : PV → AS → Prop) : J21_6 env  t1_j6 t4_j6 t5_j6 σ K X = wpD Go.Proofs.Try.prog env an21 (subC (bodyC Go.Proofs.Try.f21) [1, 0, 1, 0, 1]) (contQ Go.Proofs.Try.prog env an21 (bodyC Go.Proofs.Try.f21) [1, 0, 1, 0, 1] [] (rootQ Go.Proofs.Try.prog Go.Proofs.Try.f21 K X)) [(1, t1_j6), (4, t4_j6), (5, t5_j6)] σ := by
  unfold J21_6
  kernel_rfl
def S21 (env : Env) (t0_a : AV) (σ : AS) (K : AV → AS → Prop) (X : PV → AS → Prop) : Prop :=
 (lock boxD σ t0_a fun t1 σ1 =>
 (lock fieldAddrD Go.Proofs.Try.prog 30 t1 0 fun t3 =>
 (lock loadD Go.Proofs.Try.prog σ1 9 t3 fun t4 =>
 (lock binD Go.Proofs.Try.prog .eql 9 t4 (.pv (.str [110, 117, 109])) fun t6 =>
 (condD t6
 (J21_6 env  (t1) (t4) (t6) σ1 K X)
 (lock binD Go.Proofs.Try.prog .eql 9 t4 (.pv (.str [115, 116, 114])) fun t7 =>
 (condD t7
 (J21_6 env  (t1) (t4) (t7) σ1 K X)
 (lock binD Go.Proofs.Try.prog .eql 9 t4 (.pv (.str [101, 114, 101])) fun t8 =>
 (condD t8
 (J21_6 env  (t1) (t4) (t8) σ1 K X)
 (lock binD Go.Proofs.Try.prog .eql 9 t4 (.pv (.str [110, 97, 109, 101])) fun t9 =>
 (J21_6 env  (t1) (t4) (t9) σ1 K X)))))))))))
theorem S21_eq (env : Env) (t0_a : AV) (σ : AS) (K : AV → AS → Prop) (X : PV → AS → Prop) : S21 env t0_a σ K X = bodyD Go.Proofs.Try.prog env an21 Go.Proofs.Try.f21 [t0_a] σ K X := by
  unfold S21
  kernel_rfl
theorem S21_ok : (match Go.Proofs.Try.f21.body with | some c => okCode an21 Go.Proofs.Try.prog Go.Proofs.Try.f21.ntmps c | none => false) = true := by kernel_rfl
/-! ### tedder/tedderref05.number (function 19) -/
def an19 : An := { mu := [], cut := [(4, [0, 3]), (6, [0, 3, 4]), (7, [0, 3, 4, 44]), (9, [0, 3]), (11, [0, 3, 4]), (15, [0, 3, 5, 77]), (18, [0, 3, 5]), (19, [0, 3, 5, 107])], loop := [(3, [0, 3, 4]), (8, [0, 3, 4]), (19, [0, 5])] }
def J19_4 (env : Env) (I3 : Nat → List AV → AS → Prop) (m3 : Nat) (s0_j4 i3_j4 : AV) (σ : AS) (K : AV → AS → Prop) (X : PV → AS → Prop) : Prop :=
 (lock binD Go.Proofs.Try.prog .add 3 i3_j4 (.pv (.int .i64 1)) fun t17 =>
 (∃ m', m' < m3 ∧ I3 m' [s0_j4, t17, (.pv (.bool true))] σ))
theorem J19_4_eq (env : Env) (I3 : Nat → List AV → AS → Prop) (m3 : Nat) (s0_j4 i3_j4 : AV) (σ : AS) (K : AV → AS → Prop) (X : PV → AS → Prop) : J19_4 env I3 m3 s0_j4 i3_j4 σ K X = wpD Go.Proofs.Try.prog env an19 (subC (bodyC Go.Proofs.Try.f19) [1, 1, 1, 0, 0, 0, 1]) (contQ Go.Proofs.Try.prog env an19 (bodyC Go.Proofs.Try.f19) [1, 1, 1, 0, 0, 0, 1] [(I3, m3)] (rootQ Go.Proofs.Try.prog Go.Proofs.Try.f19 K X)) [(0, s0_j4), (3, i3_j4)] σ := by
  unfold J19_4
  kernel_rfl
def J19_9 (env : Env) (I8 : Nat → List AV → AS → Prop) (m8 : Nat) (s0_j9 i3_j9 : AV) (σ : AS) (K : AV → AS → Prop) (X : PV → AS → Prop) : Prop :=
 (lock binD Go.Proofs.Try.prog .add 3 i3_j9 (.pv (.int .i64 1)) fun t58 =>
 (∃ m', m' < m8 ∧ I8 m' [s0_j9, t58, (.pv (.bool true))] σ))
theorem J19_9_eq (env : Env) (I8 : Nat → List AV → AS → Prop) (m8 : Nat) (s0_j9 i3_j9 : AV) (σ : AS) (K : AV → AS → Prop) (X : PV → AS → Prop) : J19_9 env I8 m8 s0_j9 i3_j9 σ K X = wpD Go.Proofs.Try.prog env an19 (subC (bodyC Go.Proofs.Try.f19) [1, 1, 1, 1, 0, 1, 0, 1, 0, 0, 1]) (contQ Go.Proofs.Try.prog env an19 (bodyC Go.Proofs.Try.f19) [1, 1, 1, 1, 0, 1, 0, 1, 0, 0, 1] [(I8, m8)] (rootQ Go.Proofs.Try.prog Go.Proofs.Try.f19 K X)) [(0, s0_j9), (3, i3_j9)] σ := by
  unfold J19_9
  kernel_rfl
def L19_19 (env : Env) (I19 : Nat → List AV → AS → Prop) (m19 : Nat) (s0_l19 k5_l19 : AV) (σ : AS) (K : AV → AS → Prop) (X : PV → AS → Prop) : Prop :=
 (lock lenD Go.Proofs.Try.prog 9 s0_l19 fun t110 =>
 (lock binD Go.Proofs.Try.prog .lss 3 k5_l19 t110 fun t111 =>
 (guardD t111 true
 (lock indexD Go.Proofs.Try.prog 9 s0_l19 k5_l19 fun t115 =>
 (env 24 [t115] σ (fun t116 σ8 =>
 (condD t116
 (lock binD Go.Proofs.Try.prog .add 3 k5_l19 (.pv (.int .i64 1)) fun t119 =>
 (∃ m', m' < m19 ∧ I19 m' [s0_l19, t119] σ8))
 (retV (k5_l19) σ8 K))) (panV X)))
 (retV (k5_l19) σ K))))
theorem L19_19_eq (env : Env) (I19 : Nat → List AV → AS → Prop) (m19 : Nat) (s0_l19 k5_l19 : AV) (σ : AS) (K : AV → AS → Prop) (X : PV → AS → Prop) : L19_19 env I19 m19 s0_l19 k5_l19 σ K X = wpD Go.Proofs.Try.prog env an19 (subC (bodyC Go.Proofs.Try.f19) [1, 1, 1, 1, 1, 1, 1, 0, 1, 0, 1, 1, 1, 0, 0, 0, 0]) (contQ Go.Proofs.Try.prog env an19 (bodyC Go.Proofs.Try.f19) [1, 1, 1, 1, 1, 1, 1, 0, 1, 0, 1, 1, 1, 0, 0, 0, 0] [(I19, m19)] (rootQ Go.Proofs.Try.prog Go.Proofs.Try.f19 K X)) [(0, s0_l19), (5, k5_l19)] σ := by
  unfold L19_19
  kernel_rfl
theorem lp19_19 {α : Type} {env : Env}  {s0_l19 : AV} {σ : AS} {K : AV → AS → Prop} {X : PV → AS → Prop} (μ : α → AS → Nat) (I : α → AS → Prop) (ek5_l19 : α → AV) (a0 : α) (h0 : I a0 σ)
 (h : ∀ a σ, I a σ → L19_19 env  (Inv (fun a => [s0_l19, ek5_l19 a]) μ I) (μ a σ) s0_l19 (ek5_l19 a) σ K X) :
 ∃ I19 : Nat → List AV → AS → Prop, (∃ m, I19 m [s0_l19, ek5_l19 a0] σ) ∧ ∀ (m : Nat) (x0 x1 : AV), ∀ σ, I19 m [x0, x1] σ →
 L19_19 env  I19 m x0 x1 σ K X := by
  refine ⟨Inv (fun a => [s0_l19, ek5_l19 a]) μ I, ⟨_, a0, rfl, rfl, h0⟩, ?_⟩
  rintro m x0 x1 σ' ⟨a, hv, rfl, hI⟩
  simp only [List.cons.injEq, and_true] at hv
  obtain ⟨rfl, rfl⟩ := hv
  exact h a σ' hI
def J19_19 (env : Env)  (s0_j19 i3_j19 k5_j19 t107_j19 : AV) (σ : AS) (K : AV → AS → Prop) (X : PV → AS → Prop) : Prop :=
 (condD t107_j19
 (∃ I19 : Nat → List AV → AS → Prop, (∃ m, I19 m [s0_j19, k5_j19] σ) ∧ ∀ (m19 : Nat) (s0_l19 k5_l19 : AV), ∀ σ7, I19 m19 [s0_l19, k5_l19] σ7 →
 (L19_19 env I19 m19 s0_l19 k5_l19 σ7 K X))
 (retV (i3_j19) σ K))
theorem J19_19_eq (env : Env)  (s0_j19 i3_j19 k5_j19 t107_j19 : AV) (σ : AS) (K : AV → AS → Prop) (X : PV → AS → Prop) : J19_19 env  s0_j19 i3_j19 k5_j19 t107_j19 σ K X = wpD Go.Proofs.Try.prog env an19 (subC (bodyC Go.Proofs.Try.f19) [1, 1, 1, 1, 1, 1, 1, 0, 1, 0, 1, 1, 1]) (contQ Go.Proofs.Try.prog env an19 (bodyC Go.Proofs.Try.f19) [1, 1, 1, 1, 1, 1, 1, 0, 1, 0, 1, 1, 1] [] (rootQ Go.Proofs.Try.prog Go.Proofs.Try.f19 K X)) [(0, s0_j19), (3, i3_j19), (5, k5_j19), (107, t107_j19)] σ := by
  unfold J19_19
  simp only [L19_19_eq]
  kernel_rfl
def J19_18 (env : Env)  (s0_j18 i3_j18 k5_j18 : AV) (σ : AS) (K : AV → AS → Prop) (X : PV → AS → Prop) : Prop :=
 (lock lenD Go.Proofs.Try.prog 9 s0_j18 fun t100 =>
 (lock binD Go.Proofs.Try.prog .lss 3 k5_j18 t100 fun t101 =>
 (guardD t101 true
 (lock indexD Go.Proofs.Try.prog 9 s0_j18 k5_j18 fun t105 =>
 (env 24 [t105] σ (fun t106 σ6 =>
 (J19_19 env  (s0_j18) (i3_j18) (k5_j18) (t106) σ6 K X)) (panV X)))
 (J19_19 env  (s0_j18) (i3_j18) (k5_j18) (.pv (.bool false)) σ K X))))
theorem J19_18_eq (env : Env)  (s0_j18 i3_j18 k5_j18 : AV) (σ : AS) (K : AV → AS → Prop) (X : PV → AS → Prop) : J19_18 env  s0_j18 i3_j18 k5_j18 σ K X = wpD Go.Proofs.Try.prog env an19 (subC (bodyC Go.Proofs.Try.f19) [1, 1, 1, 1, 1, 1, 1, 0, 1, 0, 1, 1]) (contQ Go.Proofs.Try.prog env an19 (bodyC Go.Proofs.Try.f19) [1, 1, 1, 1, 1, 1, 1, 0, 1, 0, 1, 1] [] (rootQ Go.Proofs.Try.prog Go.Proofs.Try.f19 K X)) [(0, s0_j18), (3, i3_j18), (5, k5_j18)] σ := by
  unfold J19_18
  kernel_rfl
def J19_15 (env : Env)  (s0_j15 i3_j15 k5_j15 t77_j15 : AV) (σ : AS) (K : AV → AS → Prop) (X : PV → AS → Prop) : Prop :=
 (condD t77_j15
 (lock binD Go.Proofs.Try.prog .add 3 k5_j15 (.pv (.int .i64 1)) fun t79 =>
 (lock lenD Go.Proofs.Try.prog 9 s0_j15 fun t82 =>
 (lock binD Go.Proofs.Try.prog .lss 3 t79 t82 fun t83 =>
 (guardD t83 true
 (lock indexD Go.Proofs.Try.prog 9 s0_j15 t79 fun t87 =>
 (lock binD Go.Proofs.Try.prog .eql 5 t87 (.pv (.int .u8 43)) fun t88 =>
 (guardD t88 false
 (lock indexD Go.Proofs.Try.prog 9 s0_j15 t79 fun t92 =>
 (lock binD Go.Proofs.Try.prog .eql 5 t92 (.pv (.int .u8 45)) fun t93 =>
 (condD t93
 (lock binD Go.Proofs.Try.prog .add 3 t79 (.pv (.int .i64 1)) fun t97 =>
 (J19_18 env  (s0_j15) (i3_j15) (t97) σ K X))
 (J19_18 env  (s0_j15) (i3_j15) (t79) σ K X))))
 (lock binD Go.Proofs.Try.prog .add 3 t79 (.pv (.int .i64 1)) fun t97 =>
 (J19_18 env  (s0_j15) (i3_j15) (t97) σ K X)))))
 (J19_18 env  (s0_j15) (i3_j15) (t79) σ K X)))))
 (retV (i3_j15) σ K))
theorem J19_15_eq (env : Env)  (s0_j15 i3_j15 k5_j15 t77_j15 : AV) (σ : AS) (K : AV → AS → Prop) (X : PV → AS → Prop) : J19_15 env  s0_j15 i3_j15 k5_j15 t77_j15 σ K X = wpD Go.Proofs.Try.prog env an19 (subC (bodyC Go.Proofs.Try.f19) [1, 1, 1, 1, 1, 1, 1, 0, 1]) (contQ Go.Proofs.Try.prog env an19 (bodyC Go.Proofs.Try.f19) [1, 1, 1, 1, 1, 1, 1, 0, 1] [] (rootQ Go.Proofs.Try.prog Go.Proofs.Try.f19 K X)) [(0, s0_j15), (3, i3_j15), (5, k5_j15), (77, t77_j15)] σ := by
  unfold J19_15
  kernel_rfl
def J19_11 (env : Env)  (s0_j11 i3_j11 some4_j11 : AV) (σ : AS) (K : AV → AS → Prop) (X : PV → AS → Prop) : Prop :=
 (unD .not some4_j11 fun t60 =>
 (condD t60
 (retV ((.pv (.int .i64 0))) σ K)
 (lock lenD Go.Proofs.Try.prog 9 s0_j11 fun t64 =>
 (lock binD Go.Proofs.Try.prog .lss 3 i3_j11 t64 fun t65 =>
 (guardD t65 true
 (lock indexD Go.Proofs.Try.prog 9 s0_j11 i3_j11 fun t69 =>
 (lock binD Go.Proofs.Try.prog .eql 5 t69 (.pv (.int .u8 101)) fun t70 =>
 (guardD t70 false
 (lock indexD Go.Proofs.Try.prog 9 s0_j11 i3_j11 fun t74 =>
 (lock binD Go.Proofs.Try.prog .eql 5 t74 (.pv (.int .u8 69)) fun t75 =>
 (J19_15 env  (s0_j11) (i3_j11) (i3_j11) (t75) σ K X)))
 (J19_15 env  (s0_j11) (i3_j11) (i3_j11) (.pv (.bool true)) σ K X))))
 (J19_15 env  (s0_j11) (i3_j11) (i3_j11) (.pv (.bool false)) σ K X))))))
theorem J19_11_eq (env : Env)  (s0_j11 i3_j11 some4_j11 : AV) (σ : AS) (K : AV → AS → Prop) (X : PV → AS → Prop) : J19_11 env  s0_j11 i3_j11 some4_j11 σ K X = wpD Go.Proofs.Try.prog env an19 (subC (bodyC Go.Proofs.Try.f19) [1, 1, 1, 1, 1]) (contQ Go.Proofs.Try.prog env an19 (bodyC Go.Proofs.Try.f19) [1, 1, 1, 1, 1] [] (rootQ Go.Proofs.Try.prog Go.Proofs.Try.f19 K X)) [(0, s0_j11), (3, i3_j11), (4, some4_j11)] σ := by
  unfold J19_11
  kernel_rfl
def L19_8 (env : Env) (I8 : Nat → List AV → AS → Prop) (m8 : Nat) (s0_l8 i3_l8 some4_l8 : AV) (σ : AS) (K : AV → AS → Prop) (X : PV → AS → Prop) : Prop :=
 (lock lenD Go.Proofs.Try.prog 9 s0_l8 fun t49 =>
 (lock binD Go.Proofs.Try.prog .lss 3 i3_l8 t49 fun t50 =>
 (guardD t50 true
 (lock indexD Go.Proofs.Try.prog 9 s0_l8 i3_l8 fun t54 =>
 (env 24 [t54] σ (fun t55 σ5 =>
 (condD t55
 (J19_9 env I8 m8 (s0_l8) (i3_l8) σ5 K X)
 (J19_11 env  (s0_l8) (i3_l8) (some4_l8) σ5 K X))) (panV X)))
 (J19_11 env  (s0_l8) (i3_l8) (some4_l8) σ K X))))
theorem L19_8_eq (env : Env) (I8 : Nat → List AV → AS → Prop) (m8 : Nat) (s0_l8 i3_l8 some4_l8 : AV) (σ : AS) (K : AV → AS → Prop) (X : PV → AS → Prop) : L19_8 env I8 m8 s0_l8 i3_l8 some4_l8 σ K X = wpD Go.Proofs.Try.prog env an19 (subC (bodyC Go.Proofs.Try.f19) [1, 1, 1, 1, 0, 1, 0, 1, 0, 0]) (contQ Go.Proofs.Try.prog env an19 (bodyC Go.Proofs.Try.f19) [1, 1, 1, 1, 0, 1, 0, 1, 0, 0] [(I8, m8)] (rootQ Go.Proofs.Try.prog Go.Proofs.Try.f19 K X)) [(0, s0_l8), (3, i3_l8), (4, some4_l8)] σ := by
  unfold L19_8
  kernel_rfl
theorem lp19_8 {α : Type} {env : Env}  {s0_l8 : AV} {σ : AS} {K : AV → AS → Prop} {X : PV → AS → Prop} (μ : α → AS → Nat) (I : α → AS → Prop) (ei3_l8 esome4_l8 : α → AV) (a0 : α) (h0 : I a0 σ)
 (h : ∀ a σ, I a σ → L19_8 env  (Inv (fun a => [s0_l8, ei3_l8 a, esome4_l8 a]) μ I) (μ a σ) s0_l8 (ei3_l8 a) (esome4_l8 a) σ K X) :
 ∃ I8 : Nat → List AV → AS → Prop, (∃ m, I8 m [s0_l8, ei3_l8 a0, esome4_l8 a0] σ) ∧ ∀ (m : Nat) (x0 x1 x2 : AV), ∀ σ, I8 m [x0, x1, x2] σ →
 L19_8 env  I8 m x0 x1 x2 σ K X := by
  refine ⟨Inv (fun a => [s0_l8, ei3_l8 a, esome4_l8 a]) μ I, ⟨_, a0, rfl, rfl, h0⟩, ?_⟩
  rintro m x0 x1 x2 σ' ⟨a, hv, rfl, hI⟩
  simp only [List.cons.injEq, and_true] at hv
  obtain ⟨rfl, rfl, rfl⟩ := hv
  exact h a σ' hI
def J19_7 (env : Env)  (s0_j7 i3_j7 some4_j7 t44_j7 : AV) (σ : AS) (K : AV → AS → Prop) (X : PV → AS → Prop) : Prop :=
 (condD t44_j7
 (lock binD Go.Proofs.Try.prog .add 3 i3_j7 (.pv (.int .i64 1)) fun t46 =>
 (∃ I8 : Nat → List AV → AS → Prop, (∃ m, I8 m [s0_j7, t46, some4_j7] σ) ∧ ∀ (m8 : Nat) (s0_l8 i3_l8 some4_l8 : AV), ∀ σ4, I8 m8 [s0_l8, i3_l8, some4_l8] σ4 →
 (L19_8 env I8 m8 s0_l8 i3_l8 some4_l8 σ4 K X)))
 (J19_11 env  (s0_j7) (i3_j7) (some4_j7) σ K X))
theorem J19_7_eq (env : Env)  (s0_j7 i3_j7 some4_j7 t44_j7 : AV) (σ : AS) (K : AV → AS → Prop) (X : PV → AS → Prop) : J19_7 env  s0_j7 i3_j7 some4_j7 t44_j7 σ K X = wpD Go.Proofs.Try.prog env an19 (subC (bodyC Go.Proofs.Try.f19) [1, 1, 1, 1, 0, 1]) (contQ Go.Proofs.Try.prog env an19 (bodyC Go.Proofs.Try.f19) [1, 1, 1, 1, 0, 1] [] (rootQ Go.Proofs.Try.prog Go.Proofs.Try.f19 K X)) [(0, s0_j7), (3, i3_j7), (4, some4_j7), (44, t44_j7)] σ := by
  unfold J19_7
  simp only [L19_8_eq]
  kernel_rfl
def J19_6 (env : Env)  (s0_j6 i3_j6 some4_j6 : AV) (σ : AS) (K : AV → AS → Prop) (X : PV → AS → Prop) : Prop :=
 (lock lenD Go.Proofs.Try.prog 9 s0_j6 fun t20 =>
 (lock binD Go.Proofs.Try.prog .lss 3 i3_j6 t20 fun t21 =>
 (guardD t21 true
 (lock indexD Go.Proofs.Try.prog 9 s0_j6 i3_j6 fun t25 =>
 (lock binD Go.Proofs.Try.prog .eql 5 t25 (.pv (.int .u8 46)) fun t26 =>
 (guardD t26 true
 (guardD some4_j6 false
 (lock binD Go.Proofs.Try.prog .add 3 i3_j6 (.pv (.int .i64 1)) fun t32 =>
 (lock lenD Go.Proofs.Try.prog 9 s0_j6 fun t34 =>
 (lock binD Go.Proofs.Try.prog .lss 3 t32 t34 fun t35 =>
 (guardD t35 true
 (lock binD Go.Proofs.Try.prog .add 3 i3_j6 (.pv (.int .i64 1)) fun t39 =>
 (lock indexD Go.Proofs.Try.prog 9 s0_j6 t39 fun t40 =>
 (env 24 [t40] σ (fun t41 σ3 =>
 (J19_7 env  (s0_j6) (i3_j6) (some4_j6) (t41) σ3 K X)) (panV X))))
 (J19_7 env  (s0_j6) (i3_j6) (some4_j6) (.pv (.bool false)) σ K X)))))
 (J19_7 env  (s0_j6) (i3_j6) (some4_j6) (.pv (.bool true)) σ K X))
 (J19_7 env  (s0_j6) (i3_j6) (some4_j6) (.pv (.bool false)) σ K X))))
 (J19_7 env  (s0_j6) (i3_j6) (some4_j6) (.pv (.bool false)) σ K X))))
theorem J19_6_eq (env : Env)  (s0_j6 i3_j6 some4_j6 : AV) (σ : AS) (K : AV → AS → Prop) (X : PV → AS → Prop) : J19_6 env  s0_j6 i3_j6 some4_j6 σ K X = wpD Go.Proofs.Try.prog env an19 (subC (bodyC Go.Proofs.Try.f19) [1, 1, 1, 1]) (contQ Go.Proofs.Try.prog env an19 (bodyC Go.Proofs.Try.f19) [1, 1, 1, 1] [] (rootQ Go.Proofs.Try.prog Go.Proofs.Try.f19 K X)) [(0, s0_j6), (3, i3_j6), (4, some4_j6)] σ := by
  unfold J19_6
  kernel_rfl
def L19_3 (env : Env) (I3 : Nat → List AV → AS → Prop) (m3 : Nat) (s0_l3 i3_l3 some4_l3 : AV) (σ : AS) (K : AV → AS → Prop) (X : PV → AS → Prop) : Prop :=
 (lock lenD Go.Proofs.Try.prog 9 s0_l3 fun t8 =>
 (lock binD Go.Proofs.Try.prog .lss 3 i3_l3 t8 fun t9 =>
 (guardD t9 true
 (lock indexD Go.Proofs.Try.prog 9 s0_l3 i3_l3 fun t13 =>
 (env 24 [t13] σ (fun t14 σ2 =>
 (condD t14
 (J19_4 env I3 m3 (s0_l3) (i3_l3) σ2 K X)
 (J19_6 env  (s0_l3) (i3_l3) (some4_l3) σ2 K X))) (panV X)))
 (J19_6 env  (s0_l3) (i3_l3) (some4_l3) σ K X))))
theorem L19_3_eq (env : Env) (I3 : Nat → List AV → AS → Prop) (m3 : Nat) (s0_l3 i3_l3 some4_l3 : AV) (σ : AS) (K : AV → AS → Prop) (X : PV → AS → Prop) : L19_3 env I3 m3 s0_l3 i3_l3 some4_l3 σ K X = wpD Go.Proofs.Try.prog env an19 (subC (bodyC Go.Proofs.Try.f19) [1, 1, 1, 0, 0, 0]) (contQ Go.Proofs.Try.prog env an19 (bodyC Go.Proofs.Try.f19) [1, 1, 1, 0, 0, 0] [(I3, m3)] (rootQ Go.Proofs.Try.prog Go.Proofs.Try.f19 K X)) [(0, s0_l3), (3, i3_l3), (4, some4_l3)] σ := by
  unfold L19_3
  kernel_rfl
theorem lp19_3 {α : Type} {env : Env}  {s0_l3 : AV} {σ : AS} {K : AV → AS → Prop} {X : PV → AS → Prop} (μ : α → AS → Nat) (I : α → AS → Prop) (ei3_l3 esome4_l3 : α → AV) (a0 : α) (h0 : I a0 σ)
 (h : ∀ a σ, I a σ → L19_3 env  (Inv (fun a => [s0_l3, ei3_l3 a, esome4_l3 a]) μ I) (μ a σ) s0_l3 (ei3_l3 a) (esome4_l3 a) σ K X) :
 ∃ I3 : Nat → List AV → AS → Prop, (∃ m, I3 m [s0_l3, ei3_l3 a0, esome4_l3 a0] σ) ∧ ∀ (m : Nat) (x0 x1 x2 : AV), ∀ σ, I3 m [x0, x1, x2] σ →
 L19_3 env  I3 m x0 x1 x2 σ K X := by
  refine ⟨Inv (fun a => [s0_l3, ei3_l3 a, esome4_l3 a]) μ I, ⟨_, a0, rfl, rfl, h0⟩, ?_⟩
  rintro m x0 x1 x2 σ' ⟨a, hv, rfl, hI⟩
  simp only [List.cons.injEq, and_true] at hv
  obtain ⟨rfl, rfl, rfl⟩ := hv
  exact h a σ' hI
def S19 (env : Env) (s0_a : AV) (σ : AS) (K : AV → AS → Prop) (X : PV → AS → Prop) : Prop :=
 (∃ I3 : Nat → List AV → AS → Prop, (∃ m, I3 m [s0_a, (.pv (.int .i64 0)), (.pv (.bool false))] σ) ∧ ∀ (m3 : Nat) (s0_l3 i3_l3 some4_l3 : AV), ∀ σ1, I3 m3 [s0_l3, i3_l3, some4_l3] σ1 →
 (L19_3 env I3 m3 s0_l3 i3_l3 some4_l3 σ1 K X))
theorem S19_eq (env : Env) (s0_a : AV) (σ : AS) (K : AV → AS → Prop) (X : PV → AS → Prop) : S19 env s0_a σ K X = bodyD Go.Proofs.Try.prog env an19 Go.Proofs.Try.f19 [s0_a] σ K X := by
  unfold S19
  simp only [L19_3_eq]
  kernel_rfl
theorem S19_ok : (match Go.Proofs.Try.f19.body with | some c => okCode an19 Go.Proofs.Try.prog Go.Proofs.Try.f19.ntmps c | none => false) = true := by kernel_rfl
/-! ### tedder/tedderref05.text (function 20) -/
def an20 : An := { mu := [], cut := [(11, [0, 4, 5, 9, 21, 26]), (38, [0, 4, 5, 98]), (43, [0, 4, 5, 7, 8]), (45, [0, 4, 5, 7])], loop := [(3, [0, 4, 5]), (41, [0, 4, 5, 7, 8])] }
def J20_43 (env : Env) (I3 : Nat → List AV → AS → Prop) (m3 : Nat) (I41 : Nat → List AV → AS → Prop) (m41 : Nat) (s0_j43 b4_j43 i5_j43 n7_j43 k8_j43 : AV) (σ : AS) (K : AV → AS → Prop) (X : PV → AS → Prop) : Prop :=
 (lock binD Go.Proofs.Try.prog .mul 3 (.pv (.int .i64 8)) n7_j43 fun t136 =>
 (lock indexD Go.Proofs.Try.prog 9 s0_j43 i5_j43 fun t139 =>
 (lock binD Go.Proofs.Try.prog .sub 5 t139 (.pv (.int .u8 48)) fun t140 =>
 (lock convD Go.Proofs.Try.prog σ 5 3 t140 fun t141 =>
 (lock binD Go.Proofs.Try.prog .add 3 t136 t141 fun t142 =>
 (lock binD Go.Proofs.Try.prog .add 3 i5_j43 (.pv (.int .i64 1)) fun t144 =>
 (lock binD Go.Proofs.Try.prog .add 3 k8_j43 (.pv (.int .i64 1)) fun t134 =>
 (∃ m', m' < m41 ∧ I41 m' [s0_j43, b4_j43, t144, t142, t134] σ))))))))
theorem J20_43_eq (env : Env) (I3 : Nat → List AV → AS → Prop) (m3 : Nat) (I41 : Nat → List AV → AS → Prop) (m41 : Nat) (s0_j43 b4_j43 i5_j43 n7_j43 k8_j43 : AV) (σ : AS) (K : AV → AS → Prop) (X : PV → AS → Prop) : J20_43 env I3 m3 I41 m41 s0_j43 b4_j43 i5_j43 n7_j43 k8_j43 σ K X = wpD Go.Proofs.Try.prog env an20 (subC (bodyC Go.Proofs.Try.f20) [1, 1, 0, 1, 0, 0, 1, 0, 1, 0, 1, 1, 1, 1, 1, 1, 1, 1, 1, 0, 1, 1, 0, 1, 0, 0, 1]) (contQ Go.Proofs.Try.prog env an20 (bodyC Go.Proofs.Try.f20) [1, 1, 0, 1, 0, 0, 1, 0, 1, 0, 1, 1, 1, 1, 1, 1, 1, 1, 1, 0, 1, 1, 0, 1, 0, 0, 1] [(I3, m3), (I41, m41)] (rootQ Go.Proofs.Try.prog Go.Proofs.Try.f20 K X)) [(0, s0_j43), (4, b4_j43), (5, i5_j43), (7, n7_j43), (8, k8_j43)] σ := by
  unfold J20_43
  kernel_rfl
def J20_45 (env : Env) (I3 : Nat → List AV → AS → Prop) (m3 : Nat) (s0_j45 b4_j45 i5_j45 n7_j45 : AV) (σ : AS) (K : AV → AS → Prop) (X : PV → AS → Prop) : Prop :=
 (lock binD Go.Proofs.Try.prog .rem 3 n7_j45 (.pv (.int .i64 256)) fun t147 =>
 (lock convD Go.Proofs.Try.prog σ 3 5 t147 fun t148 =>
 (lock buildSliceD Go.Proofs.Try.prog false σ 50 1 1 [(0, t148)] fun t149 σ5 =>
 (lock appendD Go.Proofs.Try.prog false σ5 50 b4_j45 t149 fun t150 σ6 =>
 (∃ m', m' < m3 ∧ I3 m' [s0_j45, t150, i5_j45] σ6)))))
theorem J20_45_eq (env : Env) (I3 : Nat → List AV → AS → Prop) (m3 : Nat) (s0_j45 b4_j45 i5_j45 n7_j45 : AV) (σ : AS) (K : AV → AS → Prop) (X : PV → AS → Prop) : J20_45 env I3 m3 s0_j45 b4_j45 i5_j45 n7_j45 σ K X = wpD Go.Proofs.Try.prog env an20 (subC (bodyC Go.Proofs.Try.f20) [1, 1, 0, 1, 0, 0, 1, 0, 1, 0, 1, 1, 1, 1, 1, 1, 1, 1, 1, 0, 1, 1, 1]) (contQ Go.Proofs.Try.prog env an20 (bodyC Go.Proofs.Try.f20) [1, 1, 0, 1, 0, 0, 1, 0, 1, 0, 1, 1, 1, 1, 1, 1, 1, 1, 1, 0, 1, 1, 1] [(I3, m3)] (rootQ Go.Proofs.Try.prog Go.Proofs.Try.f20 K X)) [(0, s0_j45), (4, b4_j45), (5, i5_j45), (7, n7_j45)] σ := by
  unfold J20_45
  kernel_rfl
def L20_41 (env : Env) (I3 : Nat → List AV → AS → Prop) (m3 : Nat) (I41 : Nat → List AV → AS → Prop) (m41 : Nat) (s0_l41 b4_l41 i5_l41 n7_l41 k8_l41 : AV) (σ : AS) (K : AV → AS → Prop) (X : PV → AS → Prop) : Prop :=
 (lock binD Go.Proofs.Try.prog .lss 3 k8_l41 (.pv (.int .i64 3)) fun t114 =>
 (guardD t114 true
 (lock lenD Go.Proofs.Try.prog 9 s0_l41 fun t118 =>
 (lock binD Go.Proofs.Try.prog .lss 3 i5_l41 t118 fun t119 =>
 (guardD t119 true
 (lock indexD Go.Proofs.Try.prog 9 s0_l41 i5_l41 fun t124 =>
 (lock binD Go.Proofs.Try.prog .geq 5 t124 (.pv (.int .u8 48)) fun t125 =>
 (guardD t125 true
 (lock indexD Go.Proofs.Try.prog 9 s0_l41 i5_l41 fun t130 =>
 (lock binD Go.Proofs.Try.prog .leq 5 t130 (.pv (.int .u8 55)) fun t131 =>
 (condD t131
 (J20_43 env I3 m3 I41 m41 (s0_l41) (b4_l41) (i5_l41) (n7_l41) (k8_l41) σ K X)
 (J20_45 env I3 m3 (s0_l41) (b4_l41) (i5_l41) (n7_l41) σ K X))))
 (J20_45 env I3 m3 (s0_l41) (b4_l41) (i5_l41) (n7_l41) σ K X))))
 (J20_45 env I3 m3 (s0_l41) (b4_l41) (i5_l41) (n7_l41) σ K X))))
 (J20_45 env I3 m3 (s0_l41) (b4_l41) (i5_l41) (n7_l41) σ K X)))
theorem L20_41_eq (env : Env) (I3 : Nat → List AV → AS → Prop) (m3 : Nat) (I41 : Nat → List AV → AS → Prop) (m41 : Nat) (s0_l41 b4_l41 i5_l41 n7_l41 k8_l41 : AV) (σ : AS) (K : AV → AS → Prop) (X : PV → AS → Prop) : L20_41 env I3 m3 I41 m41 s0_l41 b4_l41 i5_l41 n7_l41 k8_l41 σ K X = wpD Go.Proofs.Try.prog env an20 (subC (bodyC Go.Proofs.Try.f20) [1, 1, 0, 1, 0, 0, 1, 0, 1, 0, 1, 1, 1, 1, 1, 1, 1, 1, 1, 0, 1, 1, 0, 1, 0, 0]) (contQ Go.Proofs.Try.prog env an20 (bodyC Go.Proofs.Try.f20) [1, 1, 0, 1, 0, 0, 1, 0, 1, 0, 1, 1, 1, 1, 1, 1, 1, 1, 1, 0, 1, 1, 0, 1, 0, 0] [(I3, m3), (I41, m41)] (rootQ Go.Proofs.Try.prog Go.Proofs.Try.f20 K X)) [(0, s0_l41), (4, b4_l41), (5, i5_l41), (7, n7_l41), (8, k8_l41)] σ := by
  unfold L20_41
  kernel_rfl
theorem lp20_41 {α : Type} {env : Env} {I3 : Nat → List AV → AS → Prop} {m3 : Nat} {s0_l41 b4_l41 : AV} {σ : AS} {K : AV → AS → Prop} {X : PV → AS → Prop} (μ : α → AS → Nat) (I : α → AS → Prop) (ei5_l41 en7_l41 ek8_l41 : α → AV) (a0 : α) (h0 : I a0 σ)
 (h : ∀ a σ, I a σ → L20_41 env I3 m3 (Inv (fun a => [s0_l41, b4_l41, ei5_l41 a, en7_l41 a, ek8_l41 a]) μ I) (μ a σ) s0_l41 b4_l41 (ei5_l41 a) (en7_l41 a) (ek8_l41 a) σ K X) :
 ∃ I41 : Nat → List AV → AS → Prop, (∃ m, I41 m [s0_l41, b4_l41, ei5_l41 a0, en7_l41 a0, ek8_l41 a0] σ) ∧ ∀ (m : Nat) (x0 x1 x2 x3 x4 : AV), ∀ σ, I41 m [x0, x1, x2, x3, x4] σ →
 L20_41 env I3 m3 I41 m x0 x1 x2 x3 x4 σ K X := by
  refine ⟨Inv (fun a => [s0_l41, b4_l41, ei5_l41 a, en7_l41 a, ek8_l41 a]) μ I, ⟨_, a0, rfl, rfl, h0⟩, ?_⟩
  rintro m x0 x1 x2 x3 x4 σ' ⟨a, hv, rfl, hI⟩
  simp only [List.cons.injEq, and_true] at hv
  obtain ⟨rfl, rfl, rfl, rfl, rfl⟩ := hv
  exact h a σ' hI
def J20_11 (env : Env) (I3 : Nat → List AV → AS → Prop) (m3 : Nat) (s0_j11 b4_j11 i5_j11 d9_j11 t21_j11 t26_j11 : AV) (σ : AS) (K : AV → AS → Prop) (X : PV → AS → Prop) : Prop :=
 (condD t26_j11
 (lock buildSliceD Go.Proofs.Try.prog false σ 50 1 1 [(0, d9_j11)] fun t32 σ7 =>
 (lock appendD Go.Proofs.Try.prog false σ7 50 b4_j11 t32 fun t33 σ8 =>
 (lock binD Go.Proofs.Try.prog .add 3 i5_j11 (.pv (.int .i64 2)) fun t72 =>
 (∃ m', m' < m3 ∧ I3 m' [s0_j11, t33, t72] σ8))))
 (lock binD Go.Proofs.Try.prog .eql 5 t21_j11 (.pv (.int .u8 97)) fun t35 =>
 (condD t35
 (lock buildSliceD Go.Proofs.Try.prog false σ 50 1 1 [(0, (.pv (.int .u8 7)))] fun t37 σ9 =>
 (lock appendD Go.Proofs.Try.prog false σ9 50 b4_j11 t37 fun t38 σ10 =>
 (lock binD Go.Proofs.Try.prog .add 3 i5_j11 (.pv (.int .i64 2)) fun t72 =>
 (∃ m', m' < m3 ∧ I3 m' [s0_j11, t38, t72] σ10))))
 (lock binD Go.Proofs.Try.prog .eql 5 t21_j11 (.pv (.int .u8 98)) fun t40 =>
 (condD t40
 (lock buildSliceD Go.Proofs.Try.prog false σ 50 1 1 [(0, (.pv (.int .u8 8)))] fun t42 σ11 =>
 (lock appendD Go.Proofs.Try.prog false σ11 50 b4_j11 t42 fun t43 σ12 =>
 (lock binD Go.Proofs.Try.prog .add 3 i5_j11 (.pv (.int .i64 2)) fun t72 =>
 (∃ m', m' < m3 ∧ I3 m' [s0_j11, t43, t72] σ12))))
 (lock binD Go.Proofs.Try.prog .eql 5 t21_j11 (.pv (.int .u8 102)) fun t45 =>
 (condD t45
 (lock buildSliceD Go.Proofs.Try.prog false σ 50 1 1 [(0, (.pv (.int .u8 12)))] fun t47 σ13 =>
 (lock appendD Go.Proofs.Try.prog false σ13 50 b4_j11 t47 fun t48 σ14 =>
 (lock binD Go.Proofs.Try.prog .add 3 i5_j11 (.pv (.int .i64 2)) fun t72 =>
 (∃ m', m' < m3 ∧ I3 m' [s0_j11, t48, t72] σ14))))
 (lock binD Go.Proofs.Try.prog .eql 5 t21_j11 (.pv (.int .u8 110)) fun t50 =>
 (condD t50
 (lock buildSliceD Go.Proofs.Try.prog false σ 50 1 1 [(0, (.pv (.int .u8 10)))] fun t52 σ15 =>
 (lock appendD Go.Proofs.Try.prog false σ15 50 b4_j11 t52 fun t53 σ16 =>
 (lock binD Go.Proofs.Try.prog .add 3 i5_j11 (.pv (.int .i64 2)) fun t72 =>
 (∃ m', m' < m3 ∧ I3 m' [s0_j11, t53, t72] σ16))))
 (lock binD Go.Proofs.Try.prog .eql 5 t21_j11 (.pv (.int .u8 114)) fun t55 =>
 (condD t55
 (lock buildSliceD Go.Proofs.Try.prog false σ 50 1 1 [(0, (.pv (.int .u8 13)))] fun t57 σ17 =>
 (lock appendD Go.Proofs.Try.prog false σ17 50 b4_j11 t57 fun t58 σ18 =>
 (lock binD Go.Proofs.Try.prog .add 3 i5_j11 (.pv (.int .i64 2)) fun t72 =>
 (∃ m', m' < m3 ∧ I3 m' [s0_j11, t58, t72] σ18))))
 (lock binD Go.Proofs.Try.prog .eql 5 t21_j11 (.pv (.int .u8 116)) fun t60 =>
 (condD t60
 (lock buildSliceD Go.Proofs.Try.prog false σ 50 1 1 [(0, (.pv (.int .u8 9)))] fun t62 σ19 =>
 (lock appendD Go.Proofs.Try.prog false σ19 50 b4_j11 t62 fun t63 σ20 =>
 (lock binD Go.Proofs.Try.prog .add 3 i5_j11 (.pv (.int .i64 2)) fun t72 =>
 (∃ m', m' < m3 ∧ I3 m' [s0_j11, t63, t72] σ20))))
 (lock binD Go.Proofs.Try.prog .eql 5 t21_j11 (.pv (.int .u8 118)) fun t65 =>
 (condD t65
 (lock buildSliceD Go.Proofs.Try.prog false σ 50 1 1 [(0, (.pv (.int .u8 11)))] fun t67 σ21 =>
 (lock appendD Go.Proofs.Try.prog false σ21 50 b4_j11 t67 fun t68 σ22 =>
 (lock binD Go.Proofs.Try.prog .add 3 i5_j11 (.pv (.int .i64 2)) fun t72 =>
 (∃ m', m' < m3 ∧ I3 m' [s0_j11, t68, t72] σ22))))
 (lock binD Go.Proofs.Try.prog .eql 5 t21_j11 (.pv (.int .u8 10)) fun t70 =>
 (condD t70
 (lock binD Go.Proofs.Try.prog .add 3 i5_j11 (.pv (.int .i64 2)) fun t72 =>
 (∃ m', m' < m3 ∧ I3 m' [s0_j11, b4_j11, t72] σ))
 (lock buildSliceD Go.Proofs.Try.prog false σ 50 2 2 [(0, (.pv (.int .u8 92))), (1, d9_j11)] fun t24 σ23 =>
 (lock appendD Go.Proofs.Try.prog false σ23 50 b4_j11 t24 fun t25 σ24 =>
 (lock binD Go.Proofs.Try.prog .add 3 i5_j11 (.pv (.int .i64 2)) fun t72 =>
 (∃ m', m' < m3 ∧ I3 m' [s0_j11, t25, t72] σ24)))))))))))))))))))))
theorem J20_11_eq (env : Env) (I3 : Nat → List AV → AS → Prop) (m3 : Nat) (s0_j11 b4_j11 i5_j11 d9_j11 t21_j11 t26_j11 : AV) (σ : AS) (K : AV → AS → Prop) (X : PV → AS → Prop) : J20_11 env I3 m3 s0_j11 b4_j11 i5_j11 d9_j11 t21_j11 t26_j11 σ K X = wpD Go.Proofs.Try.prog env an20 (subC (bodyC Go.Proofs.Try.f20) [1, 1, 0, 1, 0, 0, 1, 0, 1, 0, 1, 1, 1, 1, 1, 1, 1, 1, 1, 1, 1, 0, 1, 0, 1]) (contQ Go.Proofs.Try.prog env an20 (bodyC Go.Proofs.Try.f20) [1, 1, 0, 1, 0, 0, 1, 0, 1, 0, 1, 1, 1, 1, 1, 1, 1, 1, 1, 1, 1, 0, 1, 0, 1] [(I3, m3)] (rootQ Go.Proofs.Try.prog Go.Proofs.Try.f20 K X)) [(0, s0_j11), (4, b4_j11), (5, i5_j11), (9, d9_j11), (21, t21_j11), (26, t26_j11)] σ := by
  unfold J20_11
  kernel_rfl
def J20_38 (env : Env) (I3 : Nat → List AV → AS → Prop) (m3 : Nat) (s0_j38 b4_j38 i5_j38 t98_j38 : AV) (σ : AS) (K : AV → AS → Prop) (X : PV → AS → Prop) : Prop :=
 (condD t98_j38
 (lock binD Go.Proofs.Try.prog .add 3 i5_j38 (.pv (.int .i64 1)) fun t112 =>
 (∃ I41 : Nat → List AV → AS → Prop, (∃ m, I41 m [s0_j38, b4_j38, t112, (.pv (.int .i64 0)), (.pv (.int .i64 0))] σ) ∧ ∀ (m41 : Nat) (s0_l41 b4_l41 i5_l41 n7_l41 k8_l41 : AV), ∀ σ4, I41 m41 [s0_l41, b4_l41, i5_l41, n7_l41, k8_l41] σ4 →
 (L20_41 env I3 m3 I41 m41 s0_l41 b4_l41 i5_l41 n7_l41 k8_l41 σ4 K X)))
 (lock binD Go.Proofs.Try.prog .add 3 i5_j38 (.pv (.int .i64 1)) fun t19 =>
 (lock indexD Go.Proofs.Try.prog 9 s0_j38 t19 fun t20 =>
 (lock binD Go.Proofs.Try.prog .eql 5 t20 (.pv (.int .u8 34)) fun t27 =>
 (condD t27
 (J20_11 env I3 m3 (s0_j38) (b4_j38) (i5_j38) (t20) (t20) (t27) σ K X)
 (lock binD Go.Proofs.Try.prog .eql 5 t20 (.pv (.int .u8 92)) fun t28 =>
 (condD t28
 (J20_11 env I3 m3 (s0_j38) (b4_j38) (i5_j38) (t20) (t20) (t28) σ K X)
 (lock binD Go.Proofs.Try.prog .eql 5 t20 (.pv (.int .u8 47)) fun t29 =>
 (J20_11 env I3 m3 (s0_j38) (b4_j38) (i5_j38) (t20) (t20) (t29) σ K X)))))))))
theorem J20_38_eq (env : Env) (I3 : Nat → List AV → AS → Prop) (m3 : Nat) (s0_j38 b4_j38 i5_j38 t98_j38 : AV) (σ : AS) (K : AV → AS → Prop) (X : PV → AS → Prop) : J20_38 env I3 m3 s0_j38 b4_j38 i5_j38 t98_j38 σ K X = wpD Go.Proofs.Try.prog env an20 (subC (bodyC Go.Proofs.Try.f20) [1, 1, 0, 1, 0, 0, 1, 0, 1, 0, 1, 1, 1, 1, 1, 1, 1, 1, 1]) (contQ Go.Proofs.Try.prog env an20 (bodyC Go.Proofs.Try.f20) [1, 1, 0, 1, 0, 0, 1, 0, 1, 0, 1, 1, 1, 1, 1, 1, 1, 1, 1] [(I3, m3)] (rootQ Go.Proofs.Try.prog Go.Proofs.Try.f20 K X)) [(0, s0_j38), (4, b4_j38), (5, i5_j38), (98, t98_j38)] σ := by
  unfold J20_38
  simp only [L20_41_eq]
  kernel_rfl
def L20_3 (env : Env) (I3 : Nat → List AV → AS → Prop) (m3 : Nat) (s0_l3 b4_l3 i5_l3 : AV) (σ : AS) (K : AV → AS → Prop) (X : PV → AS → Prop) : Prop :=
 (lock lenD Go.Proofs.Try.prog 9 s0_l3 fun t12 =>
 (lock binD Go.Proofs.Try.prog .lss 3 i5_l3 t12 fun t13 =>
 (condD t13
 (lock indexD Go.Proofs.Try.prog 9 s0_l3 i5_l3 fun t16 =>
 (lock binD Go.Proofs.Try.prog .eql 5 t16 (.pv (.int .u8 34)) fun t75 =>
 (condD t75
 (lock convD Go.Proofs.Try.prog σ 50 9 b4_l3 fun t77 =>
 (lock binD Go.Proofs.Try.prog .add 3 i5_l3 (.pv (.int .i64 1)) fun t79 =>
 (retV (.tuple [t77, t79]) σ K)))
 (lock binD Go.Proofs.Try.prog .eql 5 t16 (.pv (.int .u8 10)) fun t82 =>
 (condD t82
 (retV (.tuple [(.pv (.str [])), (.pv (.int .i64 0))]) σ K)
 (lock binD Go.Proofs.Try.prog .neq 5 t16 (.pv (.int .u8 92)) fun t85 =>
 (condD t85
 (lock buildSliceD Go.Proofs.Try.prog false σ 50 1 1 [(0, t16)] fun t88 σ2 =>
 (lock appendD Go.Proofs.Try.prog false σ2 50 b4_l3 t88 fun t89 σ3 =>
 (lock binD Go.Proofs.Try.prog .add 3 i5_l3 (.pv (.int .i64 1)) fun t91 =>
 (∃ m', m' < m3 ∧ I3 m' [s0_l3, t89, t91] σ3))))
 (lock binD Go.Proofs.Try.prog .add 3 i5_l3 (.pv (.int .i64 1)) fun t94 =>
 (lock lenD Go.Proofs.Try.prog 9 s0_l3 fun t96 =>
 (lock binD Go.Proofs.Try.prog .geq 3 t94 t96 fun t97 =>
 (condD t97
 (retV (.tuple [(.pv (.str [])), (.pv (.int .i64 0))]) σ K)
 (lock binD Go.Proofs.Try.prog .add 3 i5_l3 (.pv (.int .i64 1)) fun t101 =>
 (lock indexD Go.Proofs.Try.prog 9 s0_l3 t101 fun t102 =>
 (lock binD Go.Proofs.Try.prog .geq 5 t102 (.pv (.int .u8 48)) fun t103 =>
 (guardD t103 true
 (lock binD Go.Proofs.Try.prog .add 3 i5_l3 (.pv (.int .i64 1)) fun t107 =>
 (lock indexD Go.Proofs.Try.prog 9 s0_l3 t107 fun t108 =>
 (lock binD Go.Proofs.Try.prog .leq 5 t108 (.pv (.int .u8 55)) fun t109 =>
 (J20_38 env I3 m3 (s0_l3) (b4_l3) (i5_l3) (t109) σ K X))))
 (J20_38 env I3 m3 (s0_l3) (b4_l3) (i5_l3) (.pv (.bool false)) σ K X))))))))))))))))
 (retV (.tuple [(.pv (.str [])), (.pv (.int .i64 0))]) σ K))))
theorem L20_3_eq (env : Env) (I3 : Nat → List AV → AS → Prop) (m3 : Nat) (s0_l3 b4_l3 i5_l3 : AV) (σ : AS) (K : AV → AS → Prop) (X : PV → AS → Prop) : L20_3 env I3 m3 s0_l3 b4_l3 i5_l3 σ K X = wpD Go.Proofs.Try.prog env an20 (subC (bodyC Go.Proofs.Try.f20) [1, 1, 0, 1, 0, 0]) (contQ Go.Proofs.Try.prog env an20 (bodyC Go.Proofs.Try.f20) [1, 1, 0, 1, 0, 0] [(I3, m3)] (rootQ Go.Proofs.Try.prog Go.Proofs.Try.f20 K X)) [(0, s0_l3), (4, b4_l3), (5, i5_l3)] σ := by
  unfold L20_3
  kernel_rfl
theorem lp20_3 {α : Type} {env : Env}  {s0_l3 : AV} {σ : AS} {K : AV → AS → Prop} {X : PV → AS → Prop} (μ : α → AS → Nat) (I : α → AS → Prop) (eb4_l3 ei5_l3 : α → AV) (a0 : α) (h0 : I a0 σ)
 (h : ∀ a σ, I a σ → L20_3 env  (Inv (fun a => [s0_l3, eb4_l3 a, ei5_l3 a]) μ I) (μ a σ) s0_l3 (eb4_l3 a) (ei5_l3 a) σ K X) :
 ∃ I3 : Nat → List AV → AS → Prop, (∃ m, I3 m [s0_l3, eb4_l3 a0, ei5_l3 a0] σ) ∧ ∀ (m : Nat) (x0 x1 x2 : AV), ∀ σ, I3 m [x0, x1, x2] σ →
 L20_3 env  I3 m x0 x1 x2 σ K X := by
  refine ⟨Inv (fun a => [s0_l3, eb4_l3 a, ei5_l3 a]) μ I, ⟨_, a0, rfl, rfl, h0⟩, ?_⟩
  rintro m x0 x1 x2 σ' ⟨a, hv, rfl, hI⟩
  simp only [List.cons.injEq, and_true] at hv
  obtain ⟨rfl, rfl, rfl⟩ := hv
  exact h a σ' hI
def S20 (env : Env) (s0_a : AV) (σ : AS) (K : AV → AS → Prop) (X : PV → AS → Prop) : Prop :=
 (∃ I3 : Nat → List AV → AS → Prop, (∃ m, I3 m [s0_a, (.nilS), (.pv (.int .i64 0))] σ) ∧ ∀ (m3 : Nat) (s0_l3 b4_l3 i5_l3 : AV), ∀ σ1, I3 m3 [s0_l3, b4_l3, i5_l3] σ1 →
 (L20_3 env I3 m3 s0_l3 b4_l3 i5_l3 σ1 K X))
theorem S20_eq (env : Env) (s0_a : AV) (σ : AS) (K : AV → AS → Prop) (X : PV → AS → Prop) : S20 env s0_a σ K X = bodyD Go.Proofs.Try.prog env an20 Go.Proofs.Try.f20 [s0_a] σ K X := by
  unfold S20
  simp only [L20_3_eq]
  kernel_rfl
theorem S20_ok : (match Go.Proofs.Try.f20.body with | some c => okCode an20 Go.Proofs.Try.prog Go.Proofs.Try.f20.ntmps c | none => false) = true := by kernel_rfl
/-! ### tedder/tedderref05.slashes (function 22) -/
def an22 : An := { mu := [], cut := [(15, [0, 4, 5, 42])], loop := [(3, [0, 4, 5])] }
def J22_15 (env : Env) (I3 : Nat → List AV → AS → Prop) (m3 : Nat) (s0_j15 b4_j15 i5_j15 t42_j15 : AV) (σ : AS) (K : AV → AS → Prop) (X : PV → AS → Prop) : Prop :=
 (condD t42_j15
 (retV (.tuple [(.pv (.str [])), (.pv (.int .i64 0))]) σ K)
 (lock binD Go.Proofs.Try.prog .add 3 i5_j15 (.pv (.int .i64 1)) fun t58 =>
 (lock indexD Go.Proofs.Try.prog 9 s0_j15 t58 fun t59 =>
 (lock binD Go.Proofs.Try.prog .eql 5 t59 (.pv (.int .u8 47)) fun t60 =>
 (condD t60
 (lock buildSliceD Go.Proofs.Try.prog false σ 50 1 1 [(0, (.pv (.int .u8 47)))] fun t62 σ4 =>
 (lock appendD Go.Proofs.Try.prog false σ4 50 b4_j15 t62 fun t63 σ5 =>
 (lock binD Go.Proofs.Try.prog .add 3 i5_j15 (.pv (.int .i64 2)) fun t65 =>
 (∃ m', m' < m3 ∧ I3 m' [s0_j15, t63, t65] σ5))))
 (lock binD Go.Proofs.Try.prog .add 3 i5_j15 (.pv (.int .i64 1)) fun t17 =>
 (lock indexD Go.Proofs.Try.prog 9 s0_j15 t17 fun t18 =>
 (lock buildSliceD Go.Proofs.Try.prog false σ 50 2 2 [(0, (.pv (.int .u8 92))), (1, t18)] fun t19 σ6 =>
 (lock appendD Go.Proofs.Try.prog false σ6 50 b4_j15 t19 fun t20 σ7 =>
 (lock binD Go.Proofs.Try.prog .add 3 i5_j15 (.pv (.int .i64 2)) fun t22 =>
 (∃ m', m' < m3 ∧ I3 m' [s0_j15, t20, t22] σ7)))))))))))
theorem J22_15_eq (env : Env) (I3 : Nat → List AV → AS → Prop) (m3 : Nat) (s0_j15 b4_j15 i5_j15 t42_j15 : AV) (σ : AS) (K : AV → AS → Prop) (X : PV → AS → Prop) : J22_15 env I3 m3 s0_j15 b4_j15 i5_j15 t42_j15 σ K X = wpD Go.Proofs.Try.prog env an22 (subC (bodyC Go.Proofs.Try.f22) [1, 1, 0, 1, 0, 0, 1, 0, 1, 0, 1, 1, 1, 1, 1, 1, 1]) (contQ Go.Proofs.Try.prog env an22 (bodyC Go.Proofs.Try.f22) [1, 1, 0, 1, 0, 0, 1, 0, 1, 0, 1, 1, 1, 1, 1, 1, 1] [(I3, m3)] (rootQ Go.Proofs.Try.prog Go.Proofs.Try.f22 K X)) [(0, s0_j15), (4, b4_j15), (5, i5_j15), (42, t42_j15)] σ := by
  unfold J22_15
  kernel_rfl
def L22_3 (env : Env) (I3 : Nat → List AV → AS → Prop) (m3 : Nat) (s0_l3 b4_l3 i5_l3 : AV) (σ : AS) (K : AV → AS → Prop) (X : PV → AS → Prop) : Prop :=
 (lock lenD Go.Proofs.Try.prog 9 s0_l3 fun t9 =>
 (lock binD Go.Proofs.Try.prog .lss 3 i5_l3 t9 fun t10 =>
 (condD t10
 (lock indexD Go.Proofs.Try.prog 9 s0_l3 i5_l3 fun t13 =>
 (lock binD Go.Proofs.Try.prog .eql 5 t13 (.pv (.int .u8 47)) fun t25 =>
 (condD t25
 (lock convD Go.Proofs.Try.prog σ 50 9 b4_l3 fun t27 =>
 (lock binD Go.Proofs.Try.prog .add 3 i5_l3 (.pv (.int .i64 1)) fun t29 =>
 (retV (.tuple [t27, t29]) σ K)))
 (lock binD Go.Proofs.Try.prog .eql 5 t13 (.pv (.int .u8 10)) fun t32 =>
 (condD t32
 (retV (.tuple [(.pv (.str [])), (.pv (.int .i64 0))]) σ K)
 (lock binD Go.Proofs.Try.prog .neq 5 t13 (.pv (.int .u8 92)) fun t35 =>
 (condD t35
 (lock buildSliceD Go.Proofs.Try.prog false σ 50 1 1 [(0, t13)] fun t38 σ2 =>
 (lock appendD Go.Proofs.Try.prog false σ2 50 b4_l3 t38 fun t39 σ3 =>
 (lock binD Go.Proofs.Try.prog .add 3 i5_l3 (.pv (.int .i64 1)) fun t41 =>
 (∃ m', m' < m3 ∧ I3 m' [s0_l3, t39, t41] σ3))))
 (lock binD Go.Proofs.Try.prog .add 3 i5_l3 (.pv (.int .i64 1)) fun t44 =>
 (lock lenD Go.Proofs.Try.prog 9 s0_l3 fun t46 =>
 (lock binD Go.Proofs.Try.prog .geq 3 t44 t46 fun t47 =>
 (guardD t47 false
 (lock binD Go.Proofs.Try.prog .add 3 i5_l3 (.pv (.int .i64 1)) fun t51 =>
 (lock indexD Go.Proofs.Try.prog 9 s0_l3 t51 fun t52 =>
 (lock binD Go.Proofs.Try.prog .eql 5 t52 (.pv (.int .u8 10)) fun t53 =>
 (J22_15 env I3 m3 (s0_l3) (b4_l3) (i5_l3) (t53) σ K X))))
 (J22_15 env I3 m3 (s0_l3) (b4_l3) (i5_l3) (.pv (.bool true)) σ K X))))))))))))
 (retV (.tuple [(.pv (.str [])), (.pv (.int .i64 0))]) σ K))))
theorem L22_3_eq (env : Env) (I3 : Nat → List AV → AS → Prop) (m3 : Nat) (s0_l3 b4_l3 i5_l3 : AV) (σ : AS) (K : AV → AS → Prop) (X : PV → AS → Prop) : L22_3 env I3 m3 s0_l3 b4_l3 i5_l3 σ K X = wpD Go.Proofs.Try.prog env an22 (subC (bodyC Go.Proofs.Try.f22) [1, 1, 0, 1, 0, 0]) (contQ Go.Proofs.Try.prog env an22 (bodyC Go.Proofs.Try.f22) [1, 1, 0, 1, 0, 0] [(I3, m3)] (rootQ Go.Proofs.Try.prog Go.Proofs.Try.f22 K X)) [(0, s0_l3), (4, b4_l3), (5, i5_l3)] σ := by
  unfold L22_3
  kernel_rfl
theorem lp22_3 {α : Type} {env : Env}  {s0_l3 : AV} {σ : AS} {K : AV → AS → Prop} {X : PV → AS → Prop} (μ : α → AS → Nat) (I : α → AS → Prop) (eb4_l3 ei5_l3 : α → AV) (a0 : α) (h0 : I a0 σ)
 (h : ∀ a σ, I a σ → L22_3 env  (Inv (fun a => [s0_l3, eb4_l3 a, ei5_l3 a]) μ I) (μ a σ) s0_l3 (eb4_l3 a) (ei5_l3 a) σ K X) :
 ∃ I3 : Nat → List AV → AS → Prop, (∃ m, I3 m [s0_l3, eb4_l3 a0, ei5_l3 a0] σ) ∧ ∀ (m : Nat) (x0 x1 x2 : AV), ∀ σ, I3 m [x0, x1, x2] σ →
 L22_3 env  I3 m x0 x1 x2 σ K X := by
  refine ⟨Inv (fun a => [s0_l3, eb4_l3 a, ei5_l3 a]) μ I, ⟨_, a0, rfl, rfl, h0⟩, ?_⟩
  rintro m x0 x1 x2 σ' ⟨a, hv, rfl, hI⟩
  simp only [List.cons.injEq, and_true] at hv
  obtain ⟨rfl, rfl, rfl⟩ := hv
  exact h a σ' hI
def S22 (env : Env) (s0_a : AV) (σ : AS) (K : AV → AS → Prop) (X : PV → AS → Prop) : Prop :=
 (∃ I3 : Nat → List AV → AS → Prop, (∃ m, I3 m [s0_a, (.nilS), (.pv (.int .i64 0))] σ) ∧ ∀ (m3 : Nat) (s0_l3 b4_l3 i5_l3 : AV), ∀ σ1, I3 m3 [s0_l3, b4_l3, i5_l3] σ1 →
 (L22_3 env I3 m3 s0_l3 b4_l3 i5_l3 σ1 K X))
theorem S22_eq (env : Env) (s0_a : AV) (σ : AS) (K : AV → AS → Prop) (X : PV → AS → Prop) : S22 env s0_a σ K X = bodyD Go.Proofs.Try.prog env an22 Go.Proofs.Try.f22 [s0_a] σ K X := by
  unfold S22
  simp only [L22_3_eq]
  kernel_rfl
theorem S22_ok : (match Go.Proofs.Try.f22.body with | some c => okCode an22 Go.Proofs.Try.prog Go.Proofs.Try.f22.ntmps c | none => false) = true := by kernel_rfl
/-! ### tedder/tedderref05.Lex (function 12) -/
def an12 : An := { mu := [], cut := [(12, [0, 4, 5, 6, 7]), (19, [0, 4, 5, 16, 17, 18, 90]), (25, [0, 4, 5, 6, 7, 8, 106]), (27, [0, 4, 5, 6, 7, 8, 115]), (44, [0, 4, 5, 6, 196]), (53, [0, 4, 5, 13]), (63, [0, 4, 13, 14, 15])], loop := [(5, [0, 4, 5]), (16, [0, 4, 5, 16, 17, 18]), (29, [0, 4, 5]), (51, [0, 4, 5, 13])], any := [18] }
def L12_29 (env : Env) (I5 : Nat → List AV → AS → Prop) (m5 : Nat) (I29 : Nat → List AV → AS → Prop) (m29 : Nat) (s0_l29 l4_l29 i5_l29 : AV) (σ : AS) (K : AV → AS → Prop) (X : PV → AS → Prop) : Prop :=
 (lock lenD Go.Proofs.Try.prog 9 s0_l29 fun t139 =>
 (lock binD Go.Proofs.Try.prog .lss 3 i5_l29 t139 fun t140 =>
 (guardD t140 true
 (lock indexD Go.Proofs.Try.prog 9 s0_l29 i5_l29 fun t144 =>
 (lock binD Go.Proofs.Try.prog .neq 5 t144 (.pv (.int .u8 10)) fun t145 =>
 (condD t145
 (lock binD Go.Proofs.Try.prog .add 3 i5_l29 (.pv (.int .i64 1)) fun t148 =>
 (∃ m', m' < m29 ∧ I29 m' [s0_l29, l4_l29, t148] σ))
 (∃ m', m' < m5 ∧ I5 m' [s0_l29, l4_l29, i5_l29] σ))))
 (∃ m', m' < m5 ∧ I5 m' [s0_l29, l4_l29, i5_l29] σ))))
theorem L12_29_eq (env : Env) (I5 : Nat → List AV → AS → Prop) (m5 : Nat) (I29 : Nat → List AV → AS → Prop) (m29 : Nat) (s0_l29 l4_l29 i5_l29 : AV) (σ : AS) (K : AV → AS → Prop) (X : PV → AS → Prop) : L12_29 env I5 m5 I29 m29 s0_l29 l4_l29 i5_l29 σ K X = wpD Go.Proofs.Try.prog env an12 (subC (bodyC Go.Proofs.Try.f12) [1, 1, 1, 0, 1, 0, 0, 1, 0, 1, 1, 1, 1, 1, 0, 1, 1, 1, 1, 1, 0, 0, 0]) (contQ Go.Proofs.Try.prog env an12 (bodyC Go.Proofs.Try.f12) [1, 1, 1, 0, 1, 0, 0, 1, 0, 1, 1, 1, 1, 1, 0, 1, 1, 1, 1, 1, 0, 0, 0] [(I5, m5), (I29, m29)] (rootQ Go.Proofs.Try.prog Go.Proofs.Try.f12 K X)) [(0, s0_l29), (4, l4_l29), (5, i5_l29)] σ := by
  unfold L12_29
  kernel_rfl
theorem lp12_29 {α : Type} {env : Env} {I5 : Nat → List AV → AS → Prop} {m5 : Nat} {s0_l29 l4_l29 : AV} {σ : AS} {K : AV → AS → Prop} {X : PV → AS → Prop} (μ : α → AS → Nat) (I : α → AS → Prop) (ei5_l29 : α → AV) (a0 : α) (h0 : I a0 σ)
 (h : ∀ a σ, I a σ → L12_29 env I5 m5 (Inv (fun a => [s0_l29, l4_l29, ei5_l29 a]) μ I) (μ a σ) s0_l29 l4_l29 (ei5_l29 a) σ K X) :
 ∃ I29 : Nat → List AV → AS → Prop, (∃ m, I29 m [s0_l29, l4_l29, ei5_l29 a0] σ) ∧ ∀ (m : Nat) (x0 x1 x2 : AV), ∀ σ, I29 m [x0, x1, x2] σ →
 L12_29 env I5 m5 I29 m x0 x1 x2 σ K X := by
  refine ⟨Inv (fun a => [s0_l29, l4_l29, ei5_l29 a]) μ I, ⟨_, a0, rfl, rfl, h0⟩, ?_⟩
  rintro m x0 x1 x2 σ' ⟨a, hv, rfl, hI⟩
  simp only [List.cons.injEq, and_true] at hv
  obtain ⟨rfl, rfl, rfl⟩ := hv
  exact h a σ' hI
def J12_63 (env : Env) (I5 : Nat → List AV → AS → Prop) (m5 : Nat) (s0_j63 l4_j63 k13_j63 w14_j63 kind15_j63 : AV) (σ : AS) (K : AV → AS → Prop) (X : PV → AS → Prop) : Prop :=
 (lock buildD Go.Proofs.Try.prog 30 [(0, kind15_j63), (1, w14_j63)] fun t275 =>
 (lock buildSliceD Go.Proofs.Try.prog false σ 23 1 1 [(0, t275)] fun t276 σ26 =>
 (lock appendD Go.Proofs.Try.prog false σ26 23 l4_j63 t276 fun t277 σ27 =>
 (∃ m', m' < m5 ∧ I5 m' [s0_j63, t277, k13_j63] σ27))))
theorem J12_63_eq (env : Env) (I5 : Nat → List AV → AS → Prop) (m5 : Nat) (s0_j63 l4_j63 k13_j63 w14_j63 kind15_j63 : AV) (σ : AS) (K : AV → AS → Prop) (X : PV → AS → Prop) : J12_63 env I5 m5 s0_j63 l4_j63 k13_j63 w14_j63 kind15_j63 σ K X = wpD Go.Proofs.Try.prog env an12 (subC (bodyC Go.Proofs.Try.f12) [1, 1, 1, 0, 1, 0, 0, 1, 0, 1, 1, 1, 1, 1, 0, 1, 1, 1, 1, 1, 1, 1, 1, 1, 1, 1, 1, 1, 1, 1, 0, 1, 1, 1, 1, 1]) (contQ Go.Proofs.Try.prog env an12 (bodyC Go.Proofs.Try.f12) [1, 1, 1, 0, 1, 0, 0, 1, 0, 1, 1, 1, 1, 1, 0, 1, 1, 1, 1, 1, 1, 1, 1, 1, 1, 1, 1, 1, 1, 1, 0, 1, 1, 1, 1, 1] [(I5, m5)] (rootQ Go.Proofs.Try.prog Go.Proofs.Try.f12 K X)) [(0, s0_j63), (4, l4_j63), (13, k13_j63), (14, w14_j63), (15, kind15_j63)] σ := by
  unfold J12_63
  kernel_rfl
def J12_53 (env : Env) (I5 : Nat → List AV → AS → Prop) (m5 : Nat) (s0_j53 l4_j53 i5_j53 k13_j53 : AV) (σ : AS) (K : AV → AS → Prop) (X : PV → AS → Prop) : Prop :=
 (lock sliceD Go.Proofs.Try.prog 9 s0_j53 (some i5_j53) (some k13_j53) fun t248 =>
 (env 26 [] σ (fun t251 σ22 =>
 (env 25 [t248, t251] σ22 (fun t252 σ23 =>
 (condD t252
 (retV (.tuple [(.nilS), (.pv (.bool false))]) σ23 K)
 (env 27 [] σ23 (fun t255 σ24 =>
 (env 25 [t248, t255] σ24 (fun t256 σ25 =>
 (condD t256
 (J12_63 env I5 m5 (s0_j53) (l4_j53) (k13_j53) (t248) (.pv (.str [119, 111, 114, 100])) σ25 K X)
 (env 28 [] σ25 (fun t259 σ28 =>
 (env 25 [t248, t259] σ28 (fun t260 σ29 =>
 (condD t260
 (J12_63 env I5 m5 (s0_j53) (l4_j53) (k13_j53) (t248) (.pv (.str [98, 117, 105, 108, 116])) σ29 K X)
 (lock lenD Go.Proofs.Try.prog 9 s0_j53 fun t264 =>
 (lock binD Go.Proofs.Try.prog .lss 3 k13_j53 t264 fun t265 =>
 (guardD t265 true
 (lock indexD Go.Proofs.Try.prog 9 s0_j53 k13_j53 fun t269 =>
 (lock binD Go.Proofs.Try.prog .eql 5 t269 (.pv (.int .u8 40)) fun t270 =>
 (condD t270
 (J12_63 env I5 m5 (s0_j53) (l4_j53) (k13_j53) (t248) (.pv (.str [102, 117, 110, 99])) σ29 K X)
 (J12_63 env I5 m5 (s0_j53) (l4_j53) (k13_j53) (t248) (.pv (.str [110, 97, 109, 101])) σ29 K X))))
 (J12_63 env I5 m5 (s0_j53) (l4_j53) (k13_j53) (t248) (.pv (.str [110, 97, 109, 101])) σ29 K X)))))) (panV X))) (panV X)))) (panV X))) (panV X)))) (panV X))) (panV X)))
theorem J12_53_eq (env : Env) (I5 : Nat → List AV → AS → Prop) (m5 : Nat) (s0_j53 l4_j53 i5_j53 k13_j53 : AV) (σ : AS) (K : AV → AS → Prop) (X : PV → AS → Prop) : J12_53 env I5 m5 s0_j53 l4_j53 i5_j53 k13_j53 σ K X = wpD Go.Proofs.Try.prog env an12 (subC (bodyC Go.Proofs.Try.f12) [1, 1, 1, 0, 1, 0, 0, 1, 0, 1, 1, 1, 1, 1, 0, 1, 1, 1, 1, 1, 1, 1, 1, 1, 1, 1, 1, 1, 1, 1, 0, 1, 1]) (contQ Go.Proofs.Try.prog env an12 (bodyC Go.Proofs.Try.f12) [1, 1, 1, 0, 1, 0, 0, 1, 0, 1, 1, 1, 1, 1, 0, 1, 1, 1, 1, 1, 1, 1, 1, 1, 1, 1, 1, 1, 1, 1, 0, 1, 1] [(I5, m5)] (rootQ Go.Proofs.Try.prog Go.Proofs.Try.f12 K X)) [(0, s0_j53), (4, l4_j53), (5, i5_j53), (13, k13_j53)] σ := by
  unfold J12_53
  kernel_rfl
def L12_51 (env : Env) (I5 : Nat → List AV → AS → Prop) (m5 : Nat) (I51 : Nat → List AV → AS → Prop) (m51 : Nat) (s0_l51 l4_l51 i5_l51 k13_l51 : AV) (σ : AS) (K : AV → AS → Prop) (X : PV → AS → Prop) : Prop :=
 (lock lenD Go.Proofs.Try.prog 9 s0_l51 fun t229 =>
 (lock binD Go.Proofs.Try.prog .lss 3 k13_l51 t229 fun t230 =>
 (guardD t230 true
 (lock indexD Go.Proofs.Try.prog 9 s0_l51 k13_l51 fun t234 =>
 (env 23 [t234] σ (fun t235 σ20 =>
 (guardD t235 false
 (lock indexD Go.Proofs.Try.prog 9 s0_l51 k13_l51 fun t239 =>
 (env 24 [t239] σ20 (fun t240 σ21 =>
 (condD t240
 (lock binD Go.Proofs.Try.prog .add 3 k13_l51 (.pv (.int .i64 1)) fun t244 =>
 (∃ m', m' < m51 ∧ I51 m' [s0_l51, l4_l51, i5_l51, t244] σ21))
 (J12_53 env I5 m5 (s0_l51) (l4_l51) (i5_l51) (k13_l51) σ21 K X))) (panV X)))
 (lock binD Go.Proofs.Try.prog .add 3 k13_l51 (.pv (.int .i64 1)) fun t244 =>
 (∃ m', m' < m51 ∧ I51 m' [s0_l51, l4_l51, i5_l51, t244] σ20)))) (panV X)))
 (J12_53 env I5 m5 (s0_l51) (l4_l51) (i5_l51) (k13_l51) σ K X))))
theorem L12_51_eq (env : Env) (I5 : Nat → List AV → AS → Prop) (m5 : Nat) (I51 : Nat → List AV → AS → Prop) (m51 : Nat) (s0_l51 l4_l51 i5_l51 k13_l51 : AV) (σ : AS) (K : AV → AS → Prop) (X : PV → AS → Prop) : L12_51 env I5 m5 I51 m51 s0_l51 l4_l51 i5_l51 k13_l51 σ K X = wpD Go.Proofs.Try.prog env an12 (subC (bodyC Go.Proofs.Try.f12) [1, 1, 1, 0, 1, 0, 0, 1, 0, 1, 1, 1, 1, 1, 0, 1, 1, 1, 1, 1, 1, 1, 1, 1, 1, 1, 1, 1, 1, 1, 0, 1, 0, 0, 0]) (contQ Go.Proofs.Try.prog env an12 (bodyC Go.Proofs.Try.f12) [1, 1, 1, 0, 1, 0, 0, 1, 0, 1, 1, 1, 1, 1, 0, 1, 1, 1, 1, 1, 1, 1, 1, 1, 1, 1, 1, 1, 1, 1, 0, 1, 0, 0, 0] [(I5, m5), (I51, m51)] (rootQ Go.Proofs.Try.prog Go.Proofs.Try.f12 K X)) [(0, s0_l51), (4, l4_l51), (5, i5_l51), (13, k13_l51)] σ := by
  unfold L12_51
  kernel_rfl
theorem lp12_51 {α : Type} {env : Env} {I5 : Nat → List AV → AS → Prop} {m5 : Nat} {s0_l51 l4_l51 i5_l51 : AV} {σ : AS} {K : AV → AS → Prop} {X : PV → AS → Prop} (μ : α → AS → Nat) (I : α → AS → Prop) (ek13_l51 : α → AV) (a0 : α) (h0 : I a0 σ)
 (h : ∀ a σ, I a σ → L12_51 env I5 m5 (Inv (fun a => [s0_l51, l4_l51, i5_l51, ek13_l51 a]) μ I) (μ a σ) s0_l51 l4_l51 i5_l51 (ek13_l51 a) σ K X) :
 ∃ I51 : Nat → List AV → AS → Prop, (∃ m, I51 m [s0_l51, l4_l51, i5_l51, ek13_l51 a0] σ) ∧ ∀ (m : Nat) (x0 x1 x2 x3 : AV), ∀ σ, I51 m [x0, x1, x2, x3] σ →
 L12_51 env I5 m5 I51 m x0 x1 x2 x3 σ K X := by
  refine ⟨Inv (fun a => [s0_l51, l4_l51, i5_l51, ek13_l51 a]) μ I, ⟨_, a0, rfl, rfl, h0⟩, ?_⟩
  rintro m x0 x1 x2 x3 σ' ⟨a, hv, rfl, hI⟩
  simp only [List.cons.injEq, and_true] at hv
  obtain ⟨rfl, rfl, rfl, rfl⟩ := hv
  exact h a σ' hI
def J12_19 (env : Env) (I5 : Nat → List AV → AS → Prop) (m5 : Nat) (I16 : Nat → List AV → AS → Prop) (m16 : Nat) (s0_j19 l4_j19 i5_j19 all16_j19 found17_j19 k18_j19 t90_j19 : AV) (σ : AS) (K : AV → AS → Prop) (X : PV → AS → Prop) : Prop :=
 (condD t90_j19
 (lock indexAddrD Go.Proofs.Try.prog 48 all16_j19 k18_j19 fun t93 =>
 (lock loadD Go.Proofs.Try.prog σ 9 t93 fun t94 =>
 (lock binD Go.Proofs.Try.prog .sub 3 k18_j19 (.pv (.int .i64 1)) fun t53 =>
 (∃ m', m' < m16 ∧ I16 m' [s0_j19, l4_j19, i5_j19, all16_j19, t94, t53] σ))))
 (lock binD Go.Proofs.Try.prog .sub 3 k18_j19 (.pv (.int .i64 1)) fun t53 =>
 (∃ m', m' < m16 ∧ I16 m' [s0_j19, l4_j19, i5_j19, all16_j19, found17_j19, t53] σ)))
theorem J12_19_eq (env : Env) (I5 : Nat → List AV → AS → Prop) (m5 : Nat) (I16 : Nat → List AV → AS → Prop) (m16 : Nat) (s0_j19 l4_j19 i5_j19 all16_j19 found17_j19 k18_j19 t90_j19 : AV) (σ : AS) (K : AV → AS → Prop) (X : PV → AS → Prop) : J12_19 env I5 m5 I16 m16 s0_j19 l4_j19 i5_j19 all16_j19 found17_j19 k18_j19 t90_j19 σ K X = wpD Go.Proofs.Try.prog env an12 (subC (bodyC Go.Proofs.Try.f12) [1, 1, 1, 0, 1, 0, 0, 1, 0, 1, 1, 1, 1, 1, 0, 1, 1, 1, 1, 1, 1, 1, 1, 1, 1, 1, 1, 1, 1, 1, 1, 1, 1, 0, 1, 0, 0, 1, 0, 0, 1]) (contQ Go.Proofs.Try.prog env an12 (bodyC Go.Proofs.Try.f12) [1, 1, 1, 0, 1, 0, 0, 1, 0, 1, 1, 1, 1, 1, 0, 1, 1, 1, 1, 1, 1, 1, 1, 1, 1, 1, 1, 1, 1, 1, 1, 1, 1, 0, 1, 0, 0, 1, 0, 0, 1] [(I5, m5), (I16, m16)] (rootQ Go.Proofs.Try.prog Go.Proofs.Try.f12 K X)) [(0, s0_j19), (4, l4_j19), (5, i5_j19), (16, all16_j19), (17, found17_j19), (18, k18_j19), (90, t90_j19)] σ := by
  unfold J12_19
  kernel_rfl
def L12_16 (env : Env) (I5 : Nat → List AV → AS → Prop) (m5 : Nat) (I16 : Nat → List AV → AS → Prop) (m16 : Nat) (s0_l16 l4_l16 i5_l16 all16_l16 found17_l16 k18_l16 : AV) (σ : AS) (K : AV → AS → Prop) (X : PV → AS → Prop) : Prop :=
 (lock binD Go.Proofs.Try.prog .geq 3 k18_l16 (.pv (.int .i64 0)) fun t51 =>
 (condD t51
 (lock lenD Go.Proofs.Try.prog 9 s0_l16 fun t55 =>
 (lock binD Go.Proofs.Try.prog .sub 3 t55 i5_l16 fun t57 =>
 (lock indexAddrD Go.Proofs.Try.prog 48 all16_l16 k18_l16 fun t60 =>
 ((lock loadD Go.Proofs.Try.prog σ 9 t60 fun t61 =>
 (lock lenD Go.Proofs.Try.prog 9 t61 fun t62 =>
 (lock binD Go.Proofs.Try.prog .geq 3 t57 t62 fun t63 =>
 (guardD t63 true
 (lock indexAddrD Go.Proofs.Try.prog 48 all16_l16 k18_l16 fun t70 =>
 (lock indexAddrD Go.Proofs.Try.prog 48 all16_l16 k18_l16 fun t77 =>
 ((lock loadD Go.Proofs.Try.prog σ 9 t70 fun t71 =>
 (lock lenD Go.Proofs.Try.prog 9 t71 fun t72 =>
 (lock binD Go.Proofs.Try.prog .add 3 i5_l16 t72 fun t73 =>
 (lock sliceD Go.Proofs.Try.prog 9 s0_l16 (some i5_l16) (some t73) fun t74 =>
 ((lock loadD Go.Proofs.Try.prog σ 9 t77 fun t78 =>
 (lock binD Go.Proofs.Try.prog .eql 9 t74 t78 fun t79 =>
 (guardD t79 true
 (lock indexAddrD Go.Proofs.Try.prog 48 all16_l16 k18_l16 fun t84 =>
 (lock lenD Go.Proofs.Try.prog 9 found17_l16 fun t88 =>
 ((lock loadD Go.Proofs.Try.prog σ 9 t84 fun t85 =>
 (lock lenD Go.Proofs.Try.prog 9 t85 fun t86 =>
 (lock binD Go.Proofs.Try.prog .gtr 3 t86 t88 fun t89 =>
 (J12_19 env I5 m5 I16 m16 (s0_l16) (l4_l16) (i5_l16) (all16_l16) (found17_l16) (k18_l16) (t89) σ K X)))) ∧ True)))
 ((J12_19 env I5 m5 I16 m16 (s0_l16) (l4_l16) (i5_l16) (all16_l16) (found17_l16) (k18_l16) (.pv (.bool false)) σ K X) ∧ True)))) ∧ True))))) ∧ ((lock loadD Go.Proofs.Try.prog σ 9 t77 fun t78 =>
 ((lock loadD Go.Proofs.Try.prog σ 9 t70 fun t71 =>
 (lock lenD Go.Proofs.Try.prog 9 t71 fun t72 =>
 (lock binD Go.Proofs.Try.prog .add 3 i5_l16 t72 fun t73 =>
 (lock sliceD Go.Proofs.Try.prog 9 s0_l16 (some i5_l16) (some t73) fun t74 =>
 (lock binD Go.Proofs.Try.prog .eql 9 t74 t78 fun t79 =>
 (guardD t79 true
 (lock indexAddrD Go.Proofs.Try.prog 48 all16_l16 k18_l16 fun t84 =>
 (lock lenD Go.Proofs.Try.prog 9 found17_l16 fun t88 =>
 ((lock loadD Go.Proofs.Try.prog σ 9 t84 fun t85 =>
 (lock lenD Go.Proofs.Try.prog 9 t85 fun t86 =>
 (lock binD Go.Proofs.Try.prog .gtr 3 t86 t88 fun t89 =>
 (J12_19 env I5 m5 I16 m16 (s0_l16) (l4_l16) (i5_l16) (all16_l16) (found17_l16) (k18_l16) (t89) σ K X)))) ∧ True)))
 ((J12_19 env I5 m5 I16 m16 (s0_l16) (l4_l16) (i5_l16) (all16_l16) (found17_l16) (k18_l16) (.pv (.bool false)) σ K X) ∧ True))))))) ∧ True)) ∧ True))))
 ((((J12_19 env I5 m5 I16 m16 (s0_l16) (l4_l16) (i5_l16) (all16_l16) (found17_l16) (k18_l16) (.pv (.bool false)) σ K X) ∧ True) ∧ True) ∧ ((((J12_19 env I5 m5 I16 m16 (s0_l16) (l4_l16) (i5_l16) (all16_l16) (found17_l16) (k18_l16) (.pv (.bool false)) σ K X) ∧ True) ∧ True) ∧ True)))))) ∧ True))))
 (lock binD Go.Proofs.Try.prog .eql 9 found17_l16 (.pv (.str [])) fun t96 =>
 (condD t96
 (retV (.tuple [(.nilS), (.pv (.bool false))]) σ K)
 (lock buildD Go.Proofs.Try.prog 30 [(0, (.pv (.str [111, 112]))), (1, found17_l16)] fun t99 =>
 (lock buildSliceD Go.Proofs.Try.prog false σ 23 1 1 [(0, t99)] fun t100 σ32 =>
 (lock appendD Go.Proofs.Try.prog false σ32 23 l4_l16 t100 fun t101 σ33 =>
 (lock lenD Go.Proofs.Try.prog 9 found17_l16 fun t104 =>
 (lock binD Go.Proofs.Try.prog .add 3 i5_l16 t104 fun t105 =>
 (∃ m', m' < m5 ∧ I5 m' [s0_l16, t101, t105] σ33))))))))))
theorem L12_16_eq (env : Env) (I5 : Nat → List AV → AS → Prop) (m5 : Nat) (I16 : Nat → List AV → AS → Prop) (m16 : Nat) (s0_l16 l4_l16 i5_l16 all16_l16 found17_l16 k18_l16 : AV) (σ : AS) (K : AV → AS → Prop) (X : PV → AS → Prop) : L12_16 env I5 m5 I16 m16 s0_l16 l4_l16 i5_l16 all16_l16 found17_l16 k18_l16 σ K X = wpD Go.Proofs.Try.prog env an12 (subC (bodyC Go.Proofs.Try.f12) [1, 1, 1, 0, 1, 0, 0, 1, 0, 1, 1, 1, 1, 1, 0, 1, 1, 1, 1, 1, 1, 1, 1, 1, 1, 1, 1, 1, 1, 1, 1, 1, 1, 0, 1, 0, 0]) (contQ Go.Proofs.Try.prog env an12 (bodyC Go.Proofs.Try.f12) [1, 1, 1, 0, 1, 0, 0, 1, 0, 1, 1, 1, 1, 1, 0, 1, 1, 1, 1, 1, 1, 1, 1, 1, 1, 1, 1, 1, 1, 1, 1, 1, 1, 0, 1, 0, 0] [(I5, m5), (I16, m16)] (rootQ Go.Proofs.Try.prog Go.Proofs.Try.f12 K X)) [(0, s0_l16), (4, l4_l16), (5, i5_l16), (16, all16_l16), (17, found17_l16), (18, k18_l16)] σ := by
  unfold L12_16
  kernel_rfl
theorem lp12_16 {α : Type} {env : Env} {I5 : Nat → List AV → AS → Prop} {m5 : Nat} {s0_l16 l4_l16 i5_l16 all16_l16 : AV} {σ : AS} {K : AV → AS → Prop} {X : PV → AS → Prop} (μ : α → AS → Nat) (I : α → AS → Prop) (efound17_l16 ek18_l16 : α → AV) (a0 : α) (h0 : I a0 σ)
 (h : ∀ a σ, I a σ → L12_16 env I5 m5 (Inv (fun a => [s0_l16, l4_l16, i5_l16, all16_l16, efound17_l16 a, ek18_l16 a]) μ I) (μ a σ) s0_l16 l4_l16 i5_l16 all16_l16 (efound17_l16 a) (ek18_l16 a) σ K X) :
 ∃ I16 : Nat → List AV → AS → Prop, (∃ m, I16 m [s0_l16, l4_l16, i5_l16, all16_l16, efound17_l16 a0, ek18_l16 a0] σ) ∧ ∀ (m : Nat) (x0 x1 x2 x3 x4 x5 : AV), ∀ σ, I16 m [x0, x1, x2, x3, x4, x5] σ →
 L12_16 env I5 m5 I16 m x0 x1 x2 x3 x4 x5 σ K X := by
  refine ⟨Inv (fun a => [s0_l16, l4_l16, i5_l16, all16_l16, efound17_l16 a, ek18_l16 a]) μ I, ⟨_, a0, rfl, rfl, h0⟩, ?_⟩
  rintro m x0 x1 x2 x3 x4 x5 σ' ⟨a, hv, rfl, hI⟩
  simp only [List.cons.injEq, and_true] at hv
  obtain ⟨rfl, rfl, rfl, rfl, rfl, rfl⟩ := hv
  exact h a σ' hI
def J12_44 (env : Env) (I5 : Nat → List AV → AS → Prop) (m5 : Nat) (s0_j44 l4_j44 i5_j44 c6_j44 t196_j44 : AV) (σ : AS) (K : AV → AS → Prop) (X : PV → AS → Prop) : Prop :=
 (condD t196_j44
 (lock binD Go.Proofs.Try.prog .add 3 i5_j44 (.pv (.int .i64 1)) fun t207 =>
 (lock sliceD Go.Proofs.Try.prog 9 s0_j44 (some t207) none fun t208 =>
 (env 22 [t208] σ (fun t209 σ15 =>
 (lock extractD t209 0 fun t210 =>
 (lock extractD t209 1 fun t211 =>
 (lock binD Go.Proofs.Try.prog .eql 3 t211 (.pv (.int .i64 0)) fun t213 =>
 (condD t213
 (retV (.tuple [(.nilS), (.pv (.bool false))]) σ15 K)
 (lock buildD Go.Proofs.Try.prog 30 [(0, (.pv (.str [101, 114, 101]))), (1, t210)] fun t216 =>
 (lock buildSliceD Go.Proofs.Try.prog false σ15 23 1 1 [(0, t216)] fun t217 σ16 =>
 (lock appendD Go.Proofs.Try.prog false σ16 23 l4_j44 t217 fun t218 σ17 =>
 (lock binD Go.Proofs.Try.prog .add 3 i5_j44 (.pv (.int .i64 1)) fun t220 =>
 (lock binD Go.Proofs.Try.prog .add 3 t220 t211 fun t222 =>
 (∃ m', m' < m5 ∧ I5 m' [s0_j44, t218, t222] σ17))))))))))) (panV X))))
 (env 23 [c6_j44] σ (fun t225 σ18 =>
 (condD t225
 (∃ I51 : Nat → List AV → AS → Prop, (∃ m, I51 m [s0_j44, l4_j44, i5_j44, i5_j44] σ18) ∧ ∀ (m51 : Nat) (s0_l51 l4_l51 i5_l51 k13_l51 : AV), ∀ σ19, I51 m51 [s0_l51, l4_l51, i5_l51, k13_l51] σ19 →
 (L12_51 env I5 m5 I51 m51 s0_l51 l4_l51 i5_l51 k13_l51 σ19 K X))
 (env 29 [] σ18 (fun t46 σ30 =>
 (lock lenD Go.Proofs.Try.prog 48 t46 fun t48 =>
 (lock binD Go.Proofs.Try.prog .sub 3 t48 (.pv (.int .i64 1)) fun t49 =>
 (∃ I16 : Nat → List AV → AS → Prop, (∃ m, I16 m [s0_j44, l4_j44, i5_j44, t46, (.pv (.str [])), t49] σ30) ∧ ∀ (m16 : Nat) (s0_l16 l4_l16 i5_l16 all16_l16 found17_l16 k18_l16 : AV), ∀ σ31, I16 m16 [s0_l16, l4_l16, i5_l16, all16_l16, found17_l16, k18_l16] σ31 →
 (L12_16 env I5 m5 I16 m16 s0_l16 l4_l16 i5_l16 all16_l16 found17_l16 k18_l16 σ31 K X))))) (panV X)))) (panV X)))
theorem J12_44_eq (env : Env) (I5 : Nat → List AV → AS → Prop) (m5 : Nat) (s0_j44 l4_j44 i5_j44 c6_j44 t196_j44 : AV) (σ : AS) (K : AV → AS → Prop) (X : PV → AS → Prop) : J12_44 env I5 m5 s0_j44 l4_j44 i5_j44 c6_j44 t196_j44 σ K X = wpD Go.Proofs.Try.prog env an12 (subC (bodyC Go.Proofs.Try.f12) [1, 1, 1, 0, 1, 0, 0, 1, 0, 1, 1, 1, 1, 1, 0, 1, 1, 1, 1, 1, 1, 1, 1, 1, 1, 1, 1, 1]) (contQ Go.Proofs.Try.prog env an12 (bodyC Go.Proofs.Try.f12) [1, 1, 1, 0, 1, 0, 0, 1, 0, 1, 1, 1, 1, 1, 0, 1, 1, 1, 1, 1, 1, 1, 1, 1, 1, 1, 1, 1] [(I5, m5)] (rootQ Go.Proofs.Try.prog Go.Proofs.Try.f12 K X)) [(0, s0_j44), (4, l4_j44), (5, i5_j44), (6, c6_j44), (196, t196_j44)] σ := by
  unfold J12_44
  simp only [L12_51_eq, L12_16_eq]
  kernel_rfl
def J12_27 (env : Env) (I5 : Nat → List AV → AS → Prop) (m5 : Nat) (s0_j27 l4_j27 i5_j27 c6_j27 last7_j27 n8_j27 t115_j27 : AV) (σ : AS) (K : AV → AS → Prop) (X : PV → AS → Prop) : Prop :=
 (condD t115_j27
 (lock binD Go.Proofs.Try.prog .add 3 i5_j27 (.pv (.int .i64 2)) fun t133 =>
 (∃ m', m' < m5 ∧ I5 m' [s0_j27, l4_j27, t133] σ))
 (lock binD Go.Proofs.Try.prog .eql 5 c6_j27 (.pv (.int .u8 35)) fun t136 =>
 (condD t136
 (∃ I29 : Nat → List AV → AS → Prop, (∃ m, I29 m [s0_j27, l4_j27, i5_j27] σ) ∧ ∀ (m29 : Nat) (s0_l29 l4_l29 i5_l29 : AV), ∀ σ6, I29 m29 [s0_l29, l4_l29, i5_l29] σ6 →
 (L12_29 env I5 m5 I29 m29 s0_l29 l4_l29 i5_l29 σ6 K X))
 (lock binD Go.Proofs.Try.prog .eql 5 c6_j27 (.pv (.int .u8 10)) fun t151 =>
 (condD t151
 (lock buildD Go.Proofs.Try.prog 30 [(0, (.pv (.str [110, 108])))] fun t153 =>
 (lock buildSliceD Go.Proofs.Try.prog false σ 23 1 1 [(0, t153)] fun t154 σ7 =>
 (lock appendD Go.Proofs.Try.prog false σ7 23 l4_j27 t154 fun t155 σ8 =>
 (lock binD Go.Proofs.Try.prog .add 3 i5_j27 (.pv (.int .i64 1)) fun t157 =>
 (∃ m', m' < m5 ∧ I5 m' [s0_j27, t155, t157] σ8)))))
 (lock binD Go.Proofs.Try.prog .gtr 3 n8_j27 (.pv (.int .i64 0)) fun t160 =>
 (condD t160
 (lock binD Go.Proofs.Try.prog .add 3 i5_j27 n8_j27 fun t166 =>
 (lock sliceD Go.Proofs.Try.prog 9 s0_j27 (some i5_j27) (some t166) fun t167 =>
 (lock buildD Go.Proofs.Try.prog 30 [(0, (.pv (.str [110, 117, 109]))), (1, t167)] fun t168 =>
 (lock buildSliceD Go.Proofs.Try.prog false σ 23 1 1 [(0, t168)] fun t169 σ9 =>
 (lock appendD Go.Proofs.Try.prog false σ9 23 l4_j27 t169 fun t170 σ10 =>
 (lock binD Go.Proofs.Try.prog .add 3 i5_j27 n8_j27 fun t173 =>
 (∃ m', m' < m5 ∧ I5 m' [s0_j27, t170, t173] σ10)))))))
 (lock binD Go.Proofs.Try.prog .eql 5 c6_j27 (.pv (.int .u8 34)) fun t176 =>
 (condD t176
 (lock binD Go.Proofs.Try.prog .add 3 i5_j27 (.pv (.int .i64 1)) fun t180 =>
 (lock sliceD Go.Proofs.Try.prog 9 s0_j27 (some t180) none fun t181 =>
 (env 20 [t181] σ (fun t182 σ11 =>
 (lock extractD t182 0 fun t183 =>
 (lock extractD t182 1 fun t184 =>
 (lock binD Go.Proofs.Try.prog .eql 3 t184 (.pv (.int .i64 0)) fun t186 =>
 (condD t186
 (retV (.tuple [(.nilS), (.pv (.bool false))]) σ11 K)
 (lock buildD Go.Proofs.Try.prog 30 [(0, (.pv (.str [115, 116, 114]))), (1, t183)] fun t189 =>
 (lock buildSliceD Go.Proofs.Try.prog false σ11 23 1 1 [(0, t189)] fun t190 σ12 =>
 (lock appendD Go.Proofs.Try.prog false σ12 23 l4_j27 t190 fun t191 σ13 =>
 (lock binD Go.Proofs.Try.prog .add 3 i5_j27 (.pv (.int .i64 1)) fun t193 =>
 (lock binD Go.Proofs.Try.prog .add 3 t193 t184 fun t195 =>
 (∃ m', m' < m5 ∧ I5 m' [s0_j27, t191, t195] σ13))))))))))) (panV X))))
 (lock binD Go.Proofs.Try.prog .eql 5 c6_j27 (.pv (.int .u8 47)) fun t198 =>
 (guardD t198 true
 (lock loadD Go.Proofs.Try.prog σ 30 last7_j27 fun t200 =>
 (env 21 [t200] σ (fun t201 σ14 =>
 (unD .not t201 fun t202 =>
 (J12_44 env I5 m5 (s0_j27) (l4_j27) (i5_j27) (c6_j27) (t202) σ14 K X))) (panV X)))
 (J12_44 env I5 m5 (s0_j27) (l4_j27) (i5_j27) (c6_j27) (.pv (.bool false)) σ K X))))))))))))
theorem J12_27_eq (env : Env) (I5 : Nat → List AV → AS → Prop) (m5 : Nat) (s0_j27 l4_j27 i5_j27 c6_j27 last7_j27 n8_j27 t115_j27 : AV) (σ : AS) (K : AV → AS → Prop) (X : PV → AS → Prop) : J12_27 env I5 m5 s0_j27 l4_j27 i5_j27 c6_j27 last7_j27 n8_j27 t115_j27 σ K X = wpD Go.Proofs.Try.prog env an12 (subC (bodyC Go.Proofs.Try.f12) [1, 1, 1, 0, 1, 0, 0, 1, 0, 1, 1, 1, 1, 1, 0, 1, 1, 1]) (contQ Go.Proofs.Try.prog env an12 (bodyC Go.Proofs.Try.f12) [1, 1, 1, 0, 1, 0, 0, 1, 0, 1, 1, 1, 1, 1, 0, 1, 1, 1] [(I5, m5)] (rootQ Go.Proofs.Try.prog Go.Proofs.Try.f12 K X)) [(0, s0_j27), (4, l4_j27), (5, i5_j27), (6, c6_j27), (7, last7_j27), (8, n8_j27), (115, t115_j27)] σ := by
  unfold J12_27
  simp only [L12_29_eq]
  kernel_rfl
def J12_25 (env : Env) (I5 : Nat → List AV → AS → Prop) (m5 : Nat) (s0_j25 l4_j25 i5_j25 c6_j25 last7_j25 n8_j25 t106_j25 : AV) (σ : AS) (K : AV → AS → Prop) (X : PV → AS → Prop) : Prop :=
 (condD t106_j25
 (lock binD Go.Proofs.Try.prog .add 3 i5_j25 (.pv (.int .i64 1)) fun t114 =>
 (∃ m', m' < m5 ∧ I5 m' [s0_j25, l4_j25, t114] σ))
 (lock binD Go.Proofs.Try.prog .eql 5 c6_j25 (.pv (.int .u8 92)) fun t117 =>
 (guardD t117 true
 (lock binD Go.Proofs.Try.prog .add 3 i5_j25 (.pv (.int .i64 1)) fun t120 =>
 (lock lenD Go.Proofs.Try.prog 9 s0_j25 fun t122 =>
 (lock binD Go.Proofs.Try.prog .lss 3 t120 t122 fun t123 =>
 (guardD t123 true
 (lock binD Go.Proofs.Try.prog .add 3 i5_j25 (.pv (.int .i64 1)) fun t128 =>
 (lock indexD Go.Proofs.Try.prog 9 s0_j25 t128 fun t129 =>
 (lock binD Go.Proofs.Try.prog .eql 5 t129 (.pv (.int .u8 10)) fun t130 =>
 (J12_27 env I5 m5 (s0_j25) (l4_j25) (i5_j25) (c6_j25) (last7_j25) (n8_j25) (t130) σ K X))))
 (J12_27 env I5 m5 (s0_j25) (l4_j25) (i5_j25) (c6_j25) (last7_j25) (n8_j25) (.pv (.bool false)) σ K X)))))
 (J12_27 env I5 m5 (s0_j25) (l4_j25) (i5_j25) (c6_j25) (last7_j25) (n8_j25) (.pv (.bool false)) σ K X))))
theorem J12_25_eq (env : Env) (I5 : Nat → List AV → AS → Prop) (m5 : Nat) (s0_j25 l4_j25 i5_j25 c6_j25 last7_j25 n8_j25 t106_j25 : AV) (σ : AS) (K : AV → AS → Prop) (X : PV → AS → Prop) : J12_25 env I5 m5 s0_j25 l4_j25 i5_j25 c6_j25 last7_j25 n8_j25 t106_j25 σ K X = wpD Go.Proofs.Try.prog env an12 (subC (bodyC Go.Proofs.Try.f12) [1, 1, 1, 0, 1, 0, 0, 1, 0, 1, 1, 1, 1, 1, 0, 1]) (contQ Go.Proofs.Try.prog env an12 (bodyC Go.Proofs.Try.f12) [1, 1, 1, 0, 1, 0, 0, 1, 0, 1, 1, 1, 1, 1, 0, 1] [(I5, m5)] (rootQ Go.Proofs.Try.prog Go.Proofs.Try.f12 K X)) [(0, s0_j25), (4, l4_j25), (5, i5_j25), (6, c6_j25), (7, last7_j25), (8, n8_j25), (106, t106_j25)] σ := by
  unfold J12_25
  kernel_rfl
def J12_12 (env : Env) (I5 : Nat → List AV → AS → Prop) (m5 : Nat) (s0_j12 l4_j12 i5_j12 c6_j12 last7_j12 : AV) (σ : AS) (K : AV → AS → Prop) (X : PV → AS → Prop) : Prop :=
 (lock sliceD Go.Proofs.Try.prog 9 s0_j12 (some i5_j12) none fun t44 =>
 (env 19 [t44] σ (fun t45 σ5 =>
 (lock binD Go.Proofs.Try.prog .eql 5 c6_j12 (.pv (.int .u8 32)) fun t108 =>
 (guardD t108 false
 (lock binD Go.Proofs.Try.prog .eql 5 c6_j12 (.pv (.int .u8 9)) fun t111 =>
 (J12_25 env I5 m5 (s0_j12) (l4_j12) (i5_j12) (c6_j12) (last7_j12) (t45) (t111) σ5 K X))
 (J12_25 env I5 m5 (s0_j12) (l4_j12) (i5_j12) (c6_j12) (last7_j12) (t45) (.pv (.bool true)) σ5 K X)))) (panV X)))
theorem J12_12_eq (env : Env) (I5 : Nat → List AV → AS → Prop) (m5 : Nat) (s0_j12 l4_j12 i5_j12 c6_j12 last7_j12 : AV) (σ : AS) (K : AV → AS → Prop) (X : PV → AS → Prop) : J12_12 env I5 m5 s0_j12 l4_j12 i5_j12 c6_j12 last7_j12 σ K X = wpD Go.Proofs.Try.prog env an12 (subC (bodyC Go.Proofs.Try.f12) [1, 1, 1, 0, 1, 0, 0, 1, 0, 1, 1, 1, 1]) (contQ Go.Proofs.Try.prog env an12 (bodyC Go.Proofs.Try.f12) [1, 1, 1, 0, 1, 0, 0, 1, 0, 1, 1, 1, 1] [(I5, m5)] (rootQ Go.Proofs.Try.prog Go.Proofs.Try.f12 K X)) [(0, s0_j12), (4, l4_j12), (5, i5_j12), (6, c6_j12), (7, last7_j12)] σ := by
  unfold J12_12
  kernel_rfl
def L12_5 (env : Env) (I5 : Nat → List AV → AS → Prop) (m5 : Nat) (s0_l5 l4_l5 i5_l5 : AV) (σ : AS) (K : AV → AS → Prop) (X : PV → AS → Prop) : Prop :=
 (lock lenD Go.Proofs.Try.prog 9 s0_l5 fun t24 =>
 (lock binD Go.Proofs.Try.prog .lss 3 i5_l5 t24 fun t25 =>
 (condD t25
 (lock lenD Go.Proofs.Try.prog 23 l4_l5 fun t27 =>
 (lock binD Go.Proofs.Try.prog .gtr 3 t27 (.pv (.int .i64 20000)) fun t28 =>
 (condD t28
 (retV (.tuple [(.nilS), (.pv (.bool false))]) σ K)
 (lock indexD Go.Proofs.Try.prog 9 s0_l5 i5_l5 fun t31 =>
 (lock buildD Go.Proofs.Try.prog 30 [] fun t32 =>
 (lock allocD Go.Proofs.Try.prog σ 30 fun t7 σ2 =>
 (lock storeD Go.Proofs.Try.prog σ2 30 t7 t32 fun σ3 =>
 (lock lenD Go.Proofs.Try.prog 23 l4_l5 fun t34 =>
 (lock binD Go.Proofs.Try.prog .gtr 3 t34 (.pv (.int .i64 0)) fun t35 =>
 (condD t35
 (lock lenD Go.Proofs.Try.prog 23 l4_l5 fun t38 =>
 (lock binD Go.Proofs.Try.prog .sub 3 t38 (.pv (.int .i64 1)) fun t39 =>
 (lock indexAddrD Go.Proofs.Try.prog 23 l4_l5 t39 fun t40 =>
 (lock loadD Go.Proofs.Try.prog σ3 30 t40 fun t41 =>
 (lock storeD Go.Proofs.Try.prog σ3 30 t7 t41 fun σ4 =>
 (J12_12 env I5 m5 (s0_l5) (l4_l5) (i5_l5) (t31) (t7) σ4 K X))))))
 (J12_12 env I5 m5 (s0_l5) (l4_l5) (i5_l5) (t31) (t7) σ3 K X)))))))))))
 (lock lenD Go.Proofs.Try.prog 23 l4_l5 fun t280 =>
 (lock binD Go.Proofs.Try.prog .gtr 3 t280 (.pv (.int .i64 20000)) fun t281 =>
 (condD t281
 (retV (.tuple [(.nilS), (.pv (.bool false))]) σ K)
 (retV (.tuple [l4_l5, (.pv (.bool true))]) σ K)))))))
theorem L12_5_eq (env : Env) (I5 : Nat → List AV → AS → Prop) (m5 : Nat) (s0_l5 l4_l5 i5_l5 : AV) (σ : AS) (K : AV → AS → Prop) (X : PV → AS → Prop) : L12_5 env I5 m5 s0_l5 l4_l5 i5_l5 σ K X = wpD Go.Proofs.Try.prog env an12 (subC (bodyC Go.Proofs.Try.f12) [1, 1, 1, 0, 1, 0, 0]) (contQ Go.Proofs.Try.prog env an12 (bodyC Go.Proofs.Try.f12) [1, 1, 1, 0, 1, 0, 0] [(I5, m5)] (rootQ Go.Proofs.Try.prog Go.Proofs.Try.f12 K X)) [(0, s0_l5), (4, l4_l5), (5, i5_l5)] σ := by
  unfold L12_5
  kernel_rfl
theorem lp12_5 {α : Type} {env : Env}  {s0_l5 : AV} {σ : AS} {K : AV → AS → Prop} {X : PV → AS → Prop} (μ : α → AS → Nat) (I : α → AS → Prop) (el4_l5 ei5_l5 : α → AV) (a0 : α) (h0 : I a0 σ)
 (h : ∀ a σ, I a σ → L12_5 env  (Inv (fun a => [s0_l5, el4_l5 a, ei5_l5 a]) μ I) (μ a σ) s0_l5 (el4_l5 a) (ei5_l5 a) σ K X) :
 ∃ I5 : Nat → List AV → AS → Prop, (∃ m, I5 m [s0_l5, el4_l5 a0, ei5_l5 a0] σ) ∧ ∀ (m : Nat) (x0 x1 x2 : AV), ∀ σ, I5 m [x0, x1, x2] σ →
 L12_5 env  I5 m x0 x1 x2 σ K X := by
  refine ⟨Inv (fun a => [s0_l5, el4_l5 a, ei5_l5 a]) μ I, ⟨_, a0, rfl, rfl, h0⟩, ?_⟩
  rintro m x0 x1 x2 σ' ⟨a, hv, rfl, hI⟩
  simp only [List.cons.injEq, and_true] at hv
  obtain ⟨rfl, rfl, rfl⟩ := hv
  exact h a σ' hI
def S12 (env : Env) (s0_a : AV) (σ : AS) (K : AV → AS → Prop) (X : PV → AS → Prop) : Prop :=
 (lock lenD Go.Proofs.Try.prog 9 s0_a fun t20 =>
 (lock binD Go.Proofs.Try.prog .gtr 3 t20 (.pv (.int .i64 65536)) fun t21 =>
 (condD t21
 (retV (.tuple [(.nilS), (.pv (.bool false))]) σ K)
 (∃ I5 : Nat → List AV → AS → Prop, (∃ m, I5 m [s0_a, (.nilS), (.pv (.int .i64 0))] σ) ∧ ∀ (m5 : Nat) (s0_l5 l4_l5 i5_l5 : AV), ∀ σ1, I5 m5 [s0_l5, l4_l5, i5_l5] σ1 →
 (L12_5 env I5 m5 s0_l5 l4_l5 i5_l5 σ1 K X)))))
theorem S12_eq (env : Env) (s0_a : AV) (σ : AS) (K : AV → AS → Prop) (X : PV → AS → Prop) : S12 env s0_a σ K X = bodyD Go.Proofs.Try.prog env an12 Go.Proofs.Try.f12 [s0_a] σ K X := by
  unfold S12
  simp only [L12_5_eq]
  kernel_rfl
theorem S12_ok : (match Go.Proofs.Try.f12.body with | some c => okCode an12 Go.Proofs.Try.prog Go.Proofs.Try.f12.ntmps c | none => false) = true := by kernel_rfl
/-! ### tedder/tedderref05.Same (function 13) -/
def an13 : An := { mu := [], cut := [], loop := [(4, [0, 1, 5])], any := [6] }
def L13_4 (env : Env) (I4 : Nat → List AV → AS → Prop) (m4 : Nat) (a0_l4 b1_l4 i5_l4 : AV) (σ : AS) (K : AV → AS → Prop) (X : PV → AS → Prop) : Prop :=
 (lock lenD Go.Proofs.Try.prog 23 a0_l4 fun t13 =>
 (lock binD Go.Proofs.Try.prog .lss 3 i5_l4 t13 fun t14 =>
 (condD t14
 (lock indexAddrD Go.Proofs.Try.prog 23 a0_l4 i5_l4 fun t19 =>
 (lock indexAddrD Go.Proofs.Try.prog 23 b1_l4 i5_l4 fun t23 =>
 ((lock loadD Go.Proofs.Try.prog σ 30 t19 fun t20 =>
 ((lock loadD Go.Proofs.Try.prog σ 30 t23 fun t24 =>
 ((lock binD Go.Proofs.Try.prog .neq 30 t20 t24 fun t25 =>
 (condD t25
 (retV ((.pv (.bool false))) σ K)
 (lock binD Go.Proofs.Try.prog .add 3 i5_l4 (.pv (.int .i64 1)) fun t16 =>
 (∃ m', m' < m4 ∧ I4 m' [a0_l4, b1_l4, t16] σ)))) ∧ True)) ∧ True)) ∧ ((lock loadD Go.Proofs.Try.prog σ 30 t23 fun t24 =>
 ((lock loadD Go.Proofs.Try.prog σ 30 t19 fun t20 =>
 ((lock binD Go.Proofs.Try.prog .neq 30 t20 t24 fun t25 =>
 (condD t25
 (retV ((.pv (.bool false))) σ K)
 (lock binD Go.Proofs.Try.prog .add 3 i5_l4 (.pv (.int .i64 1)) fun t16 =>
 (∃ m', m' < m4 ∧ I4 m' [a0_l4, b1_l4, t16] σ)))) ∧ True)) ∧ True)) ∧ True))))
 (retV ((.pv (.bool true))) σ K))))
theorem L13_4_eq (env : Env) (I4 : Nat → List AV → AS → Prop) (m4 : Nat) (a0_l4 b1_l4 i5_l4 : AV) (σ : AS) (K : AV → AS → Prop) (X : PV → AS → Prop) : L13_4 env I4 m4 a0_l4 b1_l4 i5_l4 σ K X = wpD Go.Proofs.Try.prog env an13 (subC (bodyC Go.Proofs.Try.f13) [1, 1, 0, 1, 0, 0]) (contQ Go.Proofs.Try.prog env an13 (bodyC Go.Proofs.Try.f13) [1, 1, 0, 1, 0, 0] [(I4, m4)] (rootQ Go.Proofs.Try.prog Go.Proofs.Try.f13 K X)) [(0, a0_l4), (1, b1_l4), (5, i5_l4)] σ := by
  unfold L13_4
  kernel_rfl
theorem lp13_4 {α : Type} {env : Env}  {a0_l4 b1_l4 : AV} {σ : AS} {K : AV → AS → Prop} {X : PV → AS → Prop} (μ : α → AS → Nat) (I : α → AS → Prop) (ei5_l4 : α → AV) (a0 : α) (h0 : I a0 σ)
 (h : ∀ a σ, I a σ → L13_4 env  (Inv (fun a => [a0_l4, b1_l4, ei5_l4 a]) μ I) (μ a σ) a0_l4 b1_l4 (ei5_l4 a) σ K X) :
 ∃ I4 : Nat → List AV → AS → Prop, (∃ m, I4 m [a0_l4, b1_l4, ei5_l4 a0] σ) ∧ ∀ (m : Nat) (x0 x1 x2 : AV), ∀ σ, I4 m [x0, x1, x2] σ →
 L13_4 env  I4 m x0 x1 x2 σ K X := by
  refine ⟨Inv (fun a => [a0_l4, b1_l4, ei5_l4 a]) μ I, ⟨_, a0, rfl, rfl, h0⟩, ?_⟩
  rintro m x0 x1 x2 σ' ⟨a, hv, rfl, hI⟩
  simp only [List.cons.injEq, and_true] at hv
  obtain ⟨rfl, rfl, rfl⟩ := hv
  exact h a σ' hI
def S13 (env : Env) (a0_a b1_a : AV) (σ : AS) (K : AV → AS → Prop) (X : PV → AS → Prop) : Prop :=
 (lock lenD Go.Proofs.Try.prog 23 a0_a fun t7 =>
 (lock lenD Go.Proofs.Try.prog 23 b1_a fun t9 =>
 (lock binD Go.Proofs.Try.prog .neq 3 t7 t9 fun t10 =>
 (condD t10
 (retV ((.pv (.bool false))) σ K)
 (∃ I4 : Nat → List AV → AS → Prop, (∃ m, I4 m [a0_a, b1_a, (.pv (.int .i64 0))] σ) ∧ ∀ (m4 : Nat) (a0_l4 b1_l4 i5_l4 : AV), ∀ σ1, I4 m4 [a0_l4, b1_l4, i5_l4] σ1 →
 (L13_4 env I4 m4 a0_l4 b1_l4 i5_l4 σ1 K X))))))
theorem S13_eq (env : Env) (a0_a b1_a : AV) (σ : AS) (K : AV → AS → Prop) (X : PV → AS → Prop) : S13 env a0_a b1_a σ K X = bodyD Go.Proofs.Try.prog env an13 Go.Proofs.Try.f13 [a0_a, b1_a] σ K X := by
  unfold S13
  simp only [L13_4_eq]
  kernel_rfl
theorem S13_ok : (match Go.Proofs.Try.f13.body with | some c => okCode an13 Go.Proofs.Try.prog Go.Proofs.Try.f13.ntmps c | none => false) = true := by kernel_rfl
end Go.AD
