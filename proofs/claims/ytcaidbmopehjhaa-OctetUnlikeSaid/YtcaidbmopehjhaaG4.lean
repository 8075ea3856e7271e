/- Bodies in the calculus' own words. Printed by gen.py, a program of this claim's own. -/
import Derived.Test.YtcaidbmopehjhaaTy
set_option linter.unusedVariables false
set_option maxRecDepth 100000
namespace Go.AD
/-! ### (*strings.Builder).WriteByte (function 36) -/
def an36 : An := { mu := [], cut := [], loop := [] }
def S36 (env : Env) (b0_a c1_a : AV) (σ : AS) (K : AV → AS → Prop) (X : PV → AS → Prop) : Prop :=
 (env 54 [b0_a] σ (fun t6 σ1 =>
 (nilD b0_a fun t9 =>
 (fieldAddrD Go.Proofs.Try.prog 49 t9 1 fun t10 =>
 (loadD Go.Proofs.Try.prog σ1 45 t10 fun t11 =>
 (buildSliceD Go.Proofs.Try.prog false σ1 45 1 1 [(0, c1_a)] fun t13 σ2 =>
 (appendD Go.Proofs.Try.prog false σ2 45 t11 t13 fun t14 σ3 =>
 (nilD b0_a fun t15 =>
 (fieldAddrD Go.Proofs.Try.prog 49 t15 1 fun t16 =>
 (storeD Go.Proofs.Try.prog σ3 45 t16 t14 fun σ4 =>
 (retV ((.pv .nilIface)) σ4 K)))))))))) (panV X))
theorem S36_eq (env : Env) (b0_a c1_a : AV) (σ : AS) (K : AV → AS → Prop) (X : PV → AS → Prop) : S36 env b0_a c1_a σ K X = bodyD Go.Proofs.Try.prog env an36 Go.Proofs.Try.f36 [b0_a, c1_a] σ K X := by
  unfold S36
  kernel_rfl
theorem S36_ok : (match Go.Proofs.Try.f36.body with | some c => okCode an36 Go.Proofs.Try.prog Go.Proofs.Try.f36.ntmps c | none => false) = true := by kernel_rfl
/-! ### (*strings.Builder).WriteString (function 37) -/
def an37 : An := { mu := [], cut := [], loop := [] }
def S37 (env : Env) (b0_a s1_a : AV) (σ : AS) (K : AV → AS → Prop) (X : PV → AS → Prop) : Prop :=
 (env 54 [b0_a] σ (fun t7 σ1 =>
 (nilD b0_a fun t10 =>
 (fieldAddrD Go.Proofs.Try.prog 49 t10 1 fun t11 =>
 (loadD Go.Proofs.Try.prog σ1 45 t11 fun t12 =>
 (appendStrD Go.Proofs.Try.prog false σ1 45 9 t12 s1_a fun t14 σ2 =>
 (nilD b0_a fun t15 =>
 (fieldAddrD Go.Proofs.Try.prog 49 t15 1 fun t16 =>
 (storeD Go.Proofs.Try.prog σ2 45 t16 t14 fun σ3 =>
 (lenD Go.Proofs.Try.prog 9 s1_a fun t18 =>
 (retV (.tuple [t18, (.pv .nilIface)]) σ3 K)))))))))) (panV X))
theorem S37_eq (env : Env) (b0_a s1_a : AV) (σ : AS) (K : AV → AS → Prop) (X : PV → AS → Prop) : S37 env b0_a s1_a σ K X = bodyD Go.Proofs.Try.prog env an37 Go.Proofs.Try.f37 [b0_a, s1_a] σ K X := by
  unfold S37
  kernel_rfl
theorem S37_ok : (match Go.Proofs.Try.f37.body with | some c => okCode an37 Go.Proofs.Try.prog Go.Proofs.Try.f37.ntmps c | none => false) = true := by kernel_rfl
/-! ### (*strings.Builder).Write (function 53) -/
def an53 : An := { mu := [], cut := [], loop := [] }
def S53 (env : Env) (b0_a p1_a : AV) (σ : AS) (K : AV → AS → Prop) (X : PV → AS → Prop) : Prop :=
 (env 54 [b0_a] σ (fun t7 σ1 =>
 (nilD b0_a fun t10 =>
 (fieldAddrD Go.Proofs.Try.prog 49 t10 1 fun t11 =>
 (loadD Go.Proofs.Try.prog σ1 45 t11 fun t12 =>
 (appendD Go.Proofs.Try.prog false σ1 45 t12 p1_a fun t14 σ2 =>
 (nilD b0_a fun t15 =>
 (fieldAddrD Go.Proofs.Try.prog 49 t15 1 fun t16 =>
 (storeD Go.Proofs.Try.prog σ2 45 t16 t14 fun σ3 =>
 (lenD Go.Proofs.Try.prog 45 p1_a fun t18 =>
 (retV (.tuple [t18, (.pv .nilIface)]) σ3 K)))))))))) (panV X))
theorem S53_eq (env : Env) (b0_a p1_a : AV) (σ : AS) (K : AV → AS → Prop) (X : PV → AS → Prop) : S53 env b0_a p1_a σ K X = bodyD Go.Proofs.Try.prog env an53 Go.Proofs.Try.f53 [b0_a, p1_a] σ K X := by
  unfold S53
  kernel_rfl
theorem S53_ok : (match Go.Proofs.Try.f53.body with | some c => okCode an53 Go.Proofs.Try.prog Go.Proofs.Try.f53.ntmps c | none => false) = true := by kernel_rfl
/-! ### tedder/octet.octal (function 35) -/
def an35 : An := { mu := [], cut := [], loop := [] }
def S35 (env : Env) (b0_a c1_a : AV) (σ : AS) (K : AV → AS → Prop) (X : PV → AS → Prop) : Prop :=
 (binD Go.Proofs.Try.prog .shr 5 c1_a (.pv (.int .u64 6)) fun t6 =>
 (binD Go.Proofs.Try.prog .add 5 (.pv (.int .u8 48)) t6 fun t7 =>
 (binD Go.Proofs.Try.prog .shr 5 c1_a (.pv (.int .u64 3)) fun t9 =>
 (binD Go.Proofs.Try.prog .and 5 t9 (.pv (.int .u8 7)) fun t10 =>
 (binD Go.Proofs.Try.prog .add 5 (.pv (.int .u8 48)) t10 fun t11 =>
 (binD Go.Proofs.Try.prog .and 5 c1_a (.pv (.int .u8 7)) fun t13 =>
 (binD Go.Proofs.Try.prog .add 5 (.pv (.int .u8 48)) t13 fun t14 =>
 (buildSliceD Go.Proofs.Try.prog false σ 45 4 4 [(0, (.pv (.int .u8 92))), (1, t7), (2, t11), (3, t14)] fun t15 σ1 =>
 (env 53 [b0_a, t15] σ1 (fun t16 σ2 =>
 (retV (.tuple []) σ2 K)) (panV X))))))))))
theorem S35_eq (env : Env) (b0_a c1_a : AV) (σ : AS) (K : AV → AS → Prop) (X : PV → AS → Prop) : S35 env b0_a c1_a σ K X = bodyD Go.Proofs.Try.prog env an35 Go.Proofs.Try.f35 [b0_a, c1_a] σ K X := by
  unfold S35
  kernel_rfl
theorem S35_ok : (match Go.Proofs.Try.f35.body with | some c => okCode an35 Go.Proofs.Try.prog Go.Proofs.Try.f35.ntmps c | none => false) = true := by kernel_rfl
/-! ### tedder/octet.number (function 38) -/
def an38 : An := { mu := [], cut := [(4, [0, 3])], loop := [(2, [0, 3])] }
def J38_4 (env : Env) (I2 : Nat → List AV → AS → Prop) (m2 : Nat) (r0_j4 s3_j4 : AV) (σ : AS) (K : AV → AS → Prop) (X : PV → AS → Prop) : Prop :=
 (binD Go.Proofs.Try.prog .and 21 r0_j4 (.pv (.int .i32 15)) fun t14 =>
 (indexD Go.Proofs.Try.prog 9 (.pv (.str [48, 49, 50, 51, 52, 53, 54, 55, 56, 57, 65, 66, 67, 68, 69, 70])) t14 fun t15 =>
 (convD Go.Proofs.Try.prog σ 5 9 t15 fun t16 =>
 (binD Go.Proofs.Try.prog .add 9 t16 s3_j4 fun t18 =>
 (binD Go.Proofs.Try.prog .shr 21 r0_j4 (.pv (.int .u64 4)) fun t12 =>
 (∃ m', m' < m2 ∧ I2 m' [t12, t18] σ))))))
theorem J38_4_eq (env : Env) (I2 : Nat → List AV → AS → Prop) (m2 : Nat) (r0_j4 s3_j4 : AV) (σ : AS) (K : AV → AS → Prop) (X : PV → AS → Prop) : J38_4 env I2 m2 r0_j4 s3_j4 σ K X = wpD Go.Proofs.Try.prog env an38 (subC (bodyC Go.Proofs.Try.f38) [1, 1, 0, 0, 0, 1]) (contQ Go.Proofs.Try.prog env an38 (bodyC Go.Proofs.Try.f38) [1, 1, 0, 0, 0, 1] [(I2, m2)] (rootQ Go.Proofs.Try.prog Go.Proofs.Try.f38 K X)) [(0, r0_j4), (3, s3_j4)] σ := by
  unfold J38_4
  kernel_rfl
def L38_2 (env : Env) (I2 : Nat → List AV → AS → Prop) (m2 : Nat) (r0_l2 s3_l2 : AV) (σ : AS) (K : AV → AS → Prop) (X : PV → AS → Prop) : Prop :=
 (binD Go.Proofs.Try.prog .gtr 21 r0_l2 (.pv (.int .i32 0)) fun t5 =>
 (guardD t5 false
 (lenD Go.Proofs.Try.prog 9 s3_l2 fun t8 =>
 (binD Go.Proofs.Try.prog .lss 3 t8 (.pv (.int .i64 4)) fun t9 =>
 (condD t9
 (J38_4 env I2 m2 (r0_l2) (s3_l2) σ K X)
 (retV (s3_l2) σ K))))
 (J38_4 env I2 m2 (r0_l2) (s3_l2) σ K X)))
theorem L38_2_eq (env : Env) (I2 : Nat → List AV → AS → Prop) (m2 : Nat) (r0_l2 s3_l2 : AV) (σ : AS) (K : AV → AS → Prop) (X : PV → AS → Prop) : L38_2 env I2 m2 r0_l2 s3_l2 σ K X = wpD Go.Proofs.Try.prog env an38 (subC (bodyC Go.Proofs.Try.f38) [1, 1, 0, 0, 0]) (contQ Go.Proofs.Try.prog env an38 (bodyC Go.Proofs.Try.f38) [1, 1, 0, 0, 0] [(I2, m2)] (rootQ Go.Proofs.Try.prog Go.Proofs.Try.f38 K X)) [(0, r0_l2), (3, s3_l2)] σ := by
  unfold L38_2
  kernel_rfl
theorem lp38_2 {α : Type} {env : Env}  {σ : AS} {K : AV → AS → Prop} {X : PV → AS → Prop} (μ : α → AS → Nat) (I : α → AS → Prop) (er0_l2 es3_l2 : α → AV) (a0 : α) (h0 : I a0 σ)
 (h : ∀ a σ, I a σ → L38_2 env  (Inv (fun a => [er0_l2 a, es3_l2 a]) μ I) (μ a σ) (er0_l2 a) (es3_l2 a) σ K X) :
 ∃ I2 : Nat → List AV → AS → Prop, (∃ m, I2 m [er0_l2 a0, es3_l2 a0] σ) ∧ ∀ (m : Nat) (x0 x1 : AV), ∀ σ, I2 m [x0, x1] σ →
 L38_2 env  I2 m x0 x1 σ K X := by
  refine ⟨Inv (fun a => [er0_l2 a, es3_l2 a]) μ I, ⟨_, a0, rfl, rfl, h0⟩, ?_⟩
  rintro m x0 x1 σ' ⟨a, hv, rfl, hI⟩
  simp only [List.cons.injEq, and_true] at hv
  obtain ⟨rfl, rfl⟩ := hv
  exact h a σ' hI
def S38 (env : Env) (r0_a : AV) (σ : AS) (K : AV → AS → Prop) (X : PV → AS → Prop) : Prop :=
 (∃ I2 : Nat → List AV → AS → Prop, (∃ m, I2 m [r0_a, (.pv (.str []))] σ) ∧ ∀ (m2 : Nat) (r0_l2 s3_l2 : AV), ∀ σ1, I2 m2 [r0_l2, s3_l2] σ1 →
 (L38_2 env I2 m2 r0_l2 s3_l2 σ1 K X))
theorem S38_eq (env : Env) (r0_a : AV) (σ : AS) (K : AV → AS → Prop) (X : PV → AS → Prop) : S38 env r0_a σ K X = bodyD Go.Proofs.Try.prog env an38 Go.Proofs.Try.f38 [r0_a] σ K X := by
  unfold S38
  simp only [L38_2_eq]
  kernel_rfl
theorem S38_ok : (match Go.Proofs.Try.f38.body with | some c => okCode an38 Go.Proofs.Try.prog Go.Proofs.Try.f38.ntmps c | none => false) = true := by kernel_rfl
/-! ### unicode/utf8.RuneLen (function 39) -/
def an39 : An := { mu := [], cut := [(8, [0, 12])], loop := [] }
def J39_8 (env : Env)  (r0_j8 t12_j8 : AV) (σ : AS) (K : AV → AS → Prop) (X : PV → AS → Prop) : Prop :=
 (condD t12_j8
 (retV ((.pv (.int .i64 (-1)))) σ K)
 (binD Go.Proofs.Try.prog .leq 21 r0_j8 (.pv (.int .i32 65535)) fun t21 =>
 (condD t21
 (retV ((.pv (.int .i64 3))) σ K)
 (binD Go.Proofs.Try.prog .leq 21 r0_j8 (.pv (.int .i32 1114111)) fun t24 =>
 (condD t24
 (retV ((.pv (.int .i64 4))) σ K)
 (retV ((.pv (.int .i64 (-1)))) σ K))))))
theorem J39_8_eq (env : Env)  (r0_j8 t12_j8 : AV) (σ : AS) (K : AV → AS → Prop) (X : PV → AS → Prop) : J39_8 env  r0_j8 t12_j8 σ K X = wpD Go.Proofs.Try.prog env an39 (subC (bodyC Go.Proofs.Try.f39) [1, 0, 0, 1, 1, 1, 1, 1, 1, 1]) (contQ Go.Proofs.Try.prog env an39 (bodyC Go.Proofs.Try.f39) [1, 0, 0, 1, 1, 1, 1, 1, 1, 1] [] (rootQ Go.Proofs.Try.prog Go.Proofs.Try.f39 K X)) [(0, r0_j8), (12, t12_j8)] σ := by
  unfold J39_8
  kernel_rfl
def S39 (env : Env) (r0_a : AV) (σ : AS) (K : AV → AS → Prop) (X : PV → AS → Prop) : Prop :=
 (binD Go.Proofs.Try.prog .lss 21 r0_a (.pv (.int .i32 0)) fun t5 =>
 (condD t5
 (retV ((.pv (.int .i64 (-1)))) σ K)
 (binD Go.Proofs.Try.prog .leq 21 r0_a (.pv (.int .i32 127)) fun t8 =>
 (condD t8
 (retV ((.pv (.int .i64 1))) σ K)
 (binD Go.Proofs.Try.prog .leq 21 r0_a (.pv (.int .i32 2047)) fun t11 =>
 (condD t11
 (retV ((.pv (.int .i64 2))) σ K)
 (binD Go.Proofs.Try.prog .leq 21 (.pv (.int .i32 55296)) r0_a fun t14 =>
 (guardD t14 true
 (binD Go.Proofs.Try.prog .leq 21 r0_a (.pv (.int .i32 57343)) fun t17 =>
 (J39_8 env  (r0_a) (t17) σ K X))
 (J39_8 env  (r0_a) (.pv (.bool false)) σ K X)))))))))
theorem S39_eq (env : Env) (r0_a : AV) (σ : AS) (K : AV → AS → Prop) (X : PV → AS → Prop) : S39 env r0_a σ K X = bodyD Go.Proofs.Try.prog env an39 Go.Proofs.Try.f39 [r0_a] σ K X := by
  unfold S39
  kernel_rfl
theorem S39_ok : (match Go.Proofs.Try.f39.body with | some c => okCode an39 Go.Proofs.Try.prog Go.Proofs.Try.f39.ntmps c | none => false) = true := by kernel_rfl
/-! ### strings.HasPrefix (function 34) -/
def an34 : An := { mu := [], cut := [], loop := [] }
def S34 (env : Env) (s0_a prefix1_a : AV) (σ : AS) (K : AV → AS → Prop) (X : PV → AS → Prop) : Prop :=
 (env 52 [s0_a, prefix1_a] σ (fun t7 σ1 =>
 (retV (t7) σ1 K)) (panV X))
theorem S34_eq (env : Env) (s0_a prefix1_a : AV) (σ : AS) (K : AV → AS → Prop) (X : PV → AS → Prop) : S34 env s0_a prefix1_a σ K X = bodyD Go.Proofs.Try.prog env an34 Go.Proofs.Try.f34 [s0_a, prefix1_a] σ K X := by
  unfold S34
  kernel_rfl
theorem S34_ok : (match Go.Proofs.Try.f34.body with | some c => okCode an34 Go.Proofs.Try.prog Go.Proofs.Try.f34.ntmps c | none => false) = true := by kernel_rfl
/-! ### internal/stringslite.HasPrefix (function 52) -/
def an52 : An := { mu := [], cut := [], loop := [] }
def S52 (env : Env) (s0_a prefix1_a : AV) (σ : AS) (K : AV → AS → Prop) (X : PV → AS → Prop) : Prop :=
 (lenD Go.Proofs.Try.prog 9 s0_a fun t6 =>
 (lenD Go.Proofs.Try.prog 9 prefix1_a fun t8 =>
 (binD Go.Proofs.Try.prog .geq 3 t6 t8 fun t9 =>
 (guardD t9 true
 (lenD Go.Proofs.Try.prog 9 prefix1_a fun t13 =>
 (sliceD Go.Proofs.Try.prog 9 s0_a none (some t13) fun t14 =>
 (binD Go.Proofs.Try.prog .eql 9 t14 prefix1_a fun t16 =>
 (retV (t16) σ K))))
 (retV ((.pv (.bool false))) σ K)))))
theorem S52_eq (env : Env) (s0_a prefix1_a : AV) (σ : AS) (K : AV → AS → Prop) (X : PV → AS → Prop) : S52 env s0_a prefix1_a σ K X = bodyD Go.Proofs.Try.prog env an52 Go.Proofs.Try.f52 [s0_a, prefix1_a] σ K X := by
  unfold S52
  kernel_rfl
theorem S52_ok : (match Go.Proofs.Try.f52.body with | some c => okCode an52 Go.Proofs.Try.prog Go.Proofs.Try.f52.ntmps c | none => false) = true := by kernel_rfl
/-! ### tedder/octet.Cut (function 18) -/
def an18 : An := { mu := [], cut := [(3, [0, 1, 2]), (8, [0, 1, 2])], loop := [] }
def J18_8 (env : Env)  (s0_j8 from1_j8 n2_j8 : AV) (σ : AS) (K : AV → AS → Prop) (X : PV → AS → Prop) : Prop :=
 (binD Go.Proofs.Try.prog .sub 3 from1_j8 (.pv (.int .i64 1)) fun t26 =>
 (sliceD Go.Proofs.Try.prog 9 s0_j8 (some t26) none fun t27 =>
 (lenD Go.Proofs.Try.prog 9 t27 fun t31 =>
 (foldD min2D n2_j8 [t31] fun t32 =>
 (sliceD Go.Proofs.Try.prog 9 t27 none (some t32) fun t33 =>
 (retV (t33) σ K))))))
theorem J18_8_eq (env : Env)  (s0_j8 from1_j8 n2_j8 : AV) (σ : AS) (K : AV → AS → Prop) (X : PV → AS → Prop) : J18_8 env  s0_j8 from1_j8 n2_j8 σ K X = wpD Go.Proofs.Try.prog env an18 (subC (bodyC Go.Proofs.Try.f18) [1, 1, 1]) (contQ Go.Proofs.Try.prog env an18 (bodyC Go.Proofs.Try.f18) [1, 1, 1] [] (rootQ Go.Proofs.Try.prog Go.Proofs.Try.f18 K X)) [(0, s0_j8), (1, from1_j8), (2, n2_j8)] σ := by
  unfold J18_8
  kernel_rfl
def J18_3 (env : Env)  (s0_j3 from1_j3 n2_j3 : AV) (σ : AS) (K : AV → AS → Prop) (X : PV → AS → Prop) : Prop :=
 (binD Go.Proofs.Try.prog .lss 3 from1_j3 (.pv (.int .i64 1)) fun t17 =>
 (condD t17
 (binD Go.Proofs.Try.prog .sub 3 from1_j3 (.pv (.int .i64 1)) fun t20 =>
 (binD Go.Proofs.Try.prog .add 3 n2_j3 t20 fun t21 =>
 (binD Go.Proofs.Try.prog .leq 3 t21 (.pv (.int .i64 0)) fun t23 =>
 (condD t23
 (retV ((.pv (.str []))) σ K)
 (J18_8 env  (s0_j3) (.pv (.int .i64 1)) (t21) σ K X)))))
 (J18_8 env  (s0_j3) (from1_j3) (n2_j3) σ K X)))
theorem J18_3_eq (env : Env)  (s0_j3 from1_j3 n2_j3 : AV) (σ : AS) (K : AV → AS → Prop) (X : PV → AS → Prop) : J18_3 env  s0_j3 from1_j3 n2_j3 σ K X = wpD Go.Proofs.Try.prog env an18 (subC (bodyC Go.Proofs.Try.f18) [1, 1]) (contQ Go.Proofs.Try.prog env an18 (bodyC Go.Proofs.Try.f18) [1, 1] [] (rootQ Go.Proofs.Try.prog Go.Proofs.Try.f18 K X)) [(0, s0_j3), (1, from1_j3), (2, n2_j3)] σ := by
  unfold J18_3
  kernel_rfl
def S18 (env : Env) (s0_a from1_a n2_a : AV) (σ : AS) (K : AV → AS → Prop) (X : PV → AS → Prop) : Prop :=
 (binD Go.Proofs.Try.prog .leq 3 n2_a (.pv (.int .i64 0)) fun t9 =>
 (guardD t9 false
 (lenD Go.Proofs.Try.prog 9 s0_a fun t13 =>
 (binD Go.Proofs.Try.prog .gtr 3 from1_a t13 fun t14 =>
 (condD t14
 (retV ((.pv (.str []))) σ K)
 (J18_3 env  (s0_a) (from1_a) (n2_a) σ K X))))
 (retV ((.pv (.str []))) σ K)))
theorem S18_eq (env : Env) (s0_a from1_a n2_a : AV) (σ : AS) (K : AV → AS → Prop) (X : PV → AS → Prop) : S18 env s0_a from1_a n2_a σ K X = bodyD Go.Proofs.Try.prog env an18 Go.Proofs.Try.f18 [s0_a, from1_a, n2_a] σ K X := by
  unfold S18
  kernel_rfl
theorem S18_ok : (match Go.Proofs.Try.f18.body with | some c => okCode an18 Go.Proofs.Try.prog Go.Proofs.Try.f18.ntmps c | none => false) = true := by kernel_rfl
/-! ### tedder/tedderref01.Cut (function 19) -/
def an19 : An := { mu := [], cut := [(6, [0, 1, 2, 7, 8, 42])], loop := [(3, [0, 1, 2, 7, 8])] }
def J19_6 (env : Env) (I3 : Nat → List AV → AS → Prop) (m3 : Nat) (s0_j6 from1_j6 n2_j6 b7_j6 i8_j6 t42_j6 : AV) (σ : AS) (K : AV → AS → Prop) (X : PV → AS → Prop) : Prop :=
 (condD t42_j6
 (binD Go.Proofs.Try.prog .sub 3 i8_j6 (.pv (.int .i64 1)) fun t46 =>
 (indexD Go.Proofs.Try.prog 9 s0_j6 t46 fun t47 =>
 (buildSliceD Go.Proofs.Try.prog false σ 45 1 1 [(0, t47)] fun t48 σ3 =>
 (appendD Go.Proofs.Try.prog false σ3 45 b7_j6 t48 fun t49 σ4 =>
 (binD Go.Proofs.Try.prog .add 3 i8_j6 (.pv (.int .i64 1)) fun t14 =>
 (∃ m', m' < m3 ∧ I3 m' [s0_j6, from1_j6, n2_j6, t49, t14] σ4))))))
 (binD Go.Proofs.Try.prog .add 3 i8_j6 (.pv (.int .i64 1)) fun t14 =>
 (∃ m', m' < m3 ∧ I3 m' [s0_j6, from1_j6, n2_j6, b7_j6, t14] σ)))
theorem J19_6_eq (env : Env) (I3 : Nat → List AV → AS → Prop) (m3 : Nat) (s0_j6 from1_j6 n2_j6 b7_j6 i8_j6 t42_j6 : AV) (σ : AS) (K : AV → AS → Prop) (X : PV → AS → Prop) : J19_6 env I3 m3 s0_j6 from1_j6 n2_j6 b7_j6 i8_j6 t42_j6 σ K X = wpD Go.Proofs.Try.prog env an19 (subC (bodyC Go.Proofs.Try.f19) [1, 1, 0, 1, 0, 0, 1, 0, 0, 1]) (contQ Go.Proofs.Try.prog env an19 (bodyC Go.Proofs.Try.f19) [1, 1, 0, 1, 0, 0, 1, 0, 0, 1] [(I3, m3)] (rootQ Go.Proofs.Try.prog Go.Proofs.Try.f19 K X)) [(0, s0_j6), (1, from1_j6), (2, n2_j6), (7, b7_j6), (8, i8_j6), (42, t42_j6)] σ := by
  unfold J19_6
  kernel_rfl
def L19_3 (env : Env) (I3 : Nat → List AV → AS → Prop) (m3 : Nat) (s0_l3 from1_l3 n2_l3 b7_l3 i8_l3 : AV) (σ : AS) (K : AV → AS → Prop) (X : PV → AS → Prop) : Prop :=
 (lenD Go.Proofs.Try.prog 9 s0_l3 fun t11 =>
 (binD Go.Proofs.Try.prog .leq 3 i8_l3 t11 fun t12 =>
 (condD t12
 (binD Go.Proofs.Try.prog .geq 3 i8_l3 from1_l3 fun t17 =>
 (guardD t17 true
 (binD Go.Proofs.Try.prog .gtr 3 n2_l3 (.pv (.int .i64 0)) fun t20 =>
 (guardD t20 true
 (binD Go.Proofs.Try.prog .gtr 3 from1_l3 (.pv (.int .i64 0)) fun t24 =>
 (guardD t24 true
 (binD Go.Proofs.Try.prog .sub 3 i8_l3 from1_l3 fun t28 =>
 (binD Go.Proofs.Try.prog .lss 3 t28 n2_l3 fun t30 =>
 (guardD t30 false
 (binD Go.Proofs.Try.prog .leq 3 from1_l3 (.pv (.int .i64 0)) fun t34 =>
 (guardD t34 true
 (env 33 [i8_l3, from1_l3, n2_l3] σ (fun t39 σ2 =>
 (J19_6 env I3 m3 (s0_l3) (from1_l3) (n2_l3) (b7_l3) (i8_l3) (t39) σ2 K X)) (panV X))
 (J19_6 env I3 m3 (s0_l3) (from1_l3) (n2_l3) (b7_l3) (i8_l3) (.pv (.bool false)) σ K X)))
 (J19_6 env I3 m3 (s0_l3) (from1_l3) (n2_l3) (b7_l3) (i8_l3) (.pv (.bool true)) σ K X))))
 (binD Go.Proofs.Try.prog .leq 3 from1_l3 (.pv (.int .i64 0)) fun t34 =>
 (guardD t34 true
 (env 33 [i8_l3, from1_l3, n2_l3] σ (fun t39 σ5 =>
 (J19_6 env I3 m3 (s0_l3) (from1_l3) (n2_l3) (b7_l3) (i8_l3) (t39) σ5 K X)) (panV X))
 (J19_6 env I3 m3 (s0_l3) (from1_l3) (n2_l3) (b7_l3) (i8_l3) (.pv (.bool false)) σ K X)))))
 (J19_6 env I3 m3 (s0_l3) (from1_l3) (n2_l3) (b7_l3) (i8_l3) (.pv (.bool false)) σ K X)))
 (J19_6 env I3 m3 (s0_l3) (from1_l3) (n2_l3) (b7_l3) (i8_l3) (.pv (.bool false)) σ K X)))
 (convD Go.Proofs.Try.prog σ 45 9 b7_l3 fun t51 =>
 (retV (t51) σ K)))))
theorem L19_3_eq (env : Env) (I3 : Nat → List AV → AS → Prop) (m3 : Nat) (s0_l3 from1_l3 n2_l3 b7_l3 i8_l3 : AV) (σ : AS) (K : AV → AS → Prop) (X : PV → AS → Prop) : L19_3 env I3 m3 s0_l3 from1_l3 n2_l3 b7_l3 i8_l3 σ K X = wpD Go.Proofs.Try.prog env an19 (subC (bodyC Go.Proofs.Try.f19) [1, 1, 0, 1, 0, 0]) (contQ Go.Proofs.Try.prog env an19 (bodyC Go.Proofs.Try.f19) [1, 1, 0, 1, 0, 0] [(I3, m3)] (rootQ Go.Proofs.Try.prog Go.Proofs.Try.f19 K X)) [(0, s0_l3), (1, from1_l3), (2, n2_l3), (7, b7_l3), (8, i8_l3)] σ := by
  unfold L19_3
  kernel_rfl
theorem lp19_3 {α : Type} {env : Env}  {s0_l3 from1_l3 n2_l3 : AV} {σ : AS} {K : AV → AS → Prop} {X : PV → AS → Prop} (μ : α → AS → Nat) (I : α → AS → Prop) (eb7_l3 ei8_l3 : α → AV) (a0 : α) (h0 : I a0 σ)
 (h : ∀ a σ, I a σ → L19_3 env  (Inv (fun a => [s0_l3, from1_l3, n2_l3, eb7_l3 a, ei8_l3 a]) μ I) (μ a σ) s0_l3 from1_l3 n2_l3 (eb7_l3 a) (ei8_l3 a) σ K X) :
 ∃ I3 : Nat → List AV → AS → Prop, (∃ m, I3 m [s0_l3, from1_l3, n2_l3, eb7_l3 a0, ei8_l3 a0] σ) ∧ ∀ (m : Nat) (x0 x1 x2 x3 x4 : AV), ∀ σ, I3 m [x0, x1, x2, x3, x4] σ →
 L19_3 env  I3 m x0 x1 x2 x3 x4 σ K X := by
  refine ⟨Inv (fun a => [s0_l3, from1_l3, n2_l3, eb7_l3 a, ei8_l3 a]) μ I, ⟨_, a0, rfl, rfl, h0⟩, ?_⟩
  rintro m x0 x1 x2 x3 x4 σ' ⟨a, hv, rfl, hI⟩
  simp only [List.cons.injEq, and_true] at hv
  obtain ⟨rfl, rfl, rfl, rfl, rfl⟩ := hv
  exact h a σ' hI
def S19 (env : Env) (s0_a from1_a n2_a : AV) (σ : AS) (K : AV → AS → Prop) (X : PV → AS → Prop) : Prop :=
 (∃ I3 : Nat → List AV → AS → Prop, (∃ m, I3 m [s0_a, from1_a, n2_a, (.nilS), (.pv (.int .i64 1))] σ) ∧ ∀ (m3 : Nat) (s0_l3 from1_l3 n2_l3 b7_l3 i8_l3 : AV), ∀ σ1, I3 m3 [s0_l3, from1_l3, n2_l3, b7_l3, i8_l3] σ1 →
 (L19_3 env I3 m3 s0_l3 from1_l3 n2_l3 b7_l3 i8_l3 σ1 K X))
theorem S19_eq (env : Env) (s0_a from1_a n2_a : AV) (σ : AS) (K : AV → AS → Prop) (X : PV → AS → Prop) : S19 env s0_a from1_a n2_a σ K X = bodyD Go.Proofs.Try.prog env an19 Go.Proofs.Try.f19 [s0_a, from1_a, n2_a] σ K X := by
  unfold S19
  simp only [L19_3_eq]
  kernel_rfl
theorem S19_ok : (match Go.Proofs.Try.f19.body with | some c => okCode an19 Go.Proofs.Try.prog Go.Proofs.Try.f19.ntmps c | none => false) = true := by kernel_rfl
/-! ### tedder/tedderref01.below (function 33) -/
def an33 : An := { mu := [], cut := [], loop := [] }
def S33 (env : Env) (i0_a from1_a n2_a : AV) (σ : AS) (K : AV → AS → Prop) (X : PV → AS → Prop) : Prop :=
 (binD Go.Proofs.Try.prog .add 3 from1_a n2_a fun t9 =>
 (binD Go.Proofs.Try.prog .gtr 3 t9 i0_a fun t11 =>
 (retV (t11) σ K)))
theorem S33_eq (env : Env) (i0_a from1_a n2_a : AV) (σ : AS) (K : AV → AS → Prop) (X : PV → AS → Prop) : S33 env i0_a from1_a n2_a σ K X = bodyD Go.Proofs.Try.prog env an33 Go.Proofs.Try.f33 [i0_a, from1_a, n2_a] σ K X := by
  unfold S33
  kernel_rfl
theorem S33_ok : (match Go.Proofs.Try.f33.body with | some c => okCode an33 Go.Proofs.Try.prog Go.Proofs.Try.f33.ntmps c | none => false) = true := by kernel_rfl
end Go.AD
