/- Bodies in the calculus' own words. Printed by gen.py, a program of this claim's own. -/
import Derived.Test.YtcaidbmopehjhaaTy
set_option linter.unusedVariables false
set_option maxRecDepth 100000
namespace Go.AD
/-! ### tedder/tedderlaw18.ChunkWhole (function 4) -/
def an4 : An := { mu := [], cut := [(10, [0, 1, 5, 7, 24, 25, 26, 38]), (15, [0, 1, 5, 8, 57]), (33, [0, 5, 9, 11, 12, 13, 16, 18, 65, 66, 67, 71, 72, 73])], loop := [(7, [0, 1, 5, 24, 25, 26]), (21, [0, 5, 9, 10, 11, 12, 13, 65, 66, 67]), (25, [0, 5, 9, 10, 11, 12, 13, 16, 65, 66, 67, 71, 72, 73]), (27, [0, 5, 9, 10, 11, 12, 13, 16, 18, 65, 66, 67, 71, 72, 73])] }
def J4_10 (env : Env) (I7 : Nat → List AV → AS → Prop) (m7 : Nat) (counts0_j10 k1_j10 n5_j10 c7_j10 t24_j10 t25_j10 t26_j10 t38_j10 : AV) (σ : AS) (K : AV → AS → Prop) (X : PV → AS → Prop) : Prop :=
 (condD t38_j10
 (env 15 [counts0_j10, k1_j10] σ (fun t41 σ3 =>
 (lenD Go.Proofs.Try.prog 24 t41 fun t42 =>
 (binD Go.Proofs.Try.prog .eql 3 t42 (.pv (.int .i64 0)) fun t43 =>
 (retV (t43) σ3 K)))) (panV X))
 (foldD max2D c7_j10 [(.pv (.int .i64 0))] fun t46 =>
 (binD Go.Proofs.Try.prog .add 3 n5_j10 t46 fun t47 =>
 (binD Go.Proofs.Try.prog .add 3 t26_j10 (.pv (.int .i64 1)) fun t48 =>
 (∃ m', m' < m7 ∧ I7 m' [counts0_j10, k1_j10, t47, t24_j10, t25_j10, t48] σ)))))
theorem J4_10_eq (env : Env) (I7 : Nat → List AV → AS → Prop) (m7 : Nat) (counts0_j10 k1_j10 n5_j10 c7_j10 t24_j10 t25_j10 t26_j10 t38_j10 : AV) (σ : AS) (K : AV → AS → Prop) (X : PV → AS → Prop) : J4_10 env I7 m7 counts0_j10 k1_j10 n5_j10 c7_j10 t24_j10 t25_j10 t26_j10 t38_j10 σ K X = wpD Go.Proofs.Try.prog env an4 (subC (bodyC Go.Proofs.Try.f4) [1, 1, 1, 1, 0, 1, 0, 0, 1, 1, 0, 0, 1, 0, 1]) (contQ Go.Proofs.Try.prog env an4 (bodyC Go.Proofs.Try.f4) [1, 1, 1, 1, 0, 1, 0, 0, 1, 1, 0, 0, 1, 0, 1] [(I7, m7)] (rootQ Go.Proofs.Try.prog Go.Proofs.Try.f4 K X)) [(0, counts0_j10), (1, k1_j10), (5, n5_j10), (7, c7_j10), (24, t24_j10), (25, t25_j10), (26, t26_j10), (38, t38_j10)] σ := by
  unfold J4_10
  kernel_rfl
def J4_33 (env : Env) (I21 : Nat → List AV → AS → Prop) (m21 : Nat) (I25 : Nat → List AV → AS → Prop) (m25 : Nat) (counts0_j33 n5_j33 file9_j33 all11_j33 least12_j33 most13_j33 size16_j33 p18_j33 t65_j33 t66_j33 t67_j33 t71_j33 t72_j33 t73_j33 : AV) (σ : AS) (K : AV → AS → Prop) (X : PV → AS → Prop) : Prop :=
 (fieldAddrD Go.Proofs.Try.prog 28 p18_j33 2 fun t117 =>
 (loadD Go.Proofs.Try.prog σ 3 t117 fun t118 =>
 (fieldAddrD Go.Proofs.Try.prog 28 p18_j33 1 fun t119 =>
 (loadD Go.Proofs.Try.prog σ 3 t119 fun t120 =>
 (binD Go.Proofs.Try.prog .sub 3 t118 t120 fun t121 =>
 (binD Go.Proofs.Try.prog .add 3 size16_j33 t121 fun t122 =>
 (fieldAddrD Go.Proofs.Try.prog 28 p18_j33 2 fun t123 =>
 (loadD Go.Proofs.Try.prog σ 3 t123 fun t124 =>
 (binD Go.Proofs.Try.prog .add 3 t73_j33 (.pv (.int .i64 1)) fun t125 =>
 (∃ m', m' < m25 ∧ I25 m' [counts0_j33, n5_j33, file9_j33, t124, all11_j33, least12_j33, most13_j33, t122, t65_j33, t66_j33, t67_j33, t71_j33, t72_j33, t125] σ))))))))))
theorem J4_33_eq (env : Env) (I21 : Nat → List AV → AS → Prop) (m21 : Nat) (I25 : Nat → List AV → AS → Prop) (m25 : Nat) (counts0_j33 n5_j33 file9_j33 all11_j33 least12_j33 most13_j33 size16_j33 p18_j33 t65_j33 t66_j33 t67_j33 t71_j33 t72_j33 t73_j33 : AV) (σ : AS) (K : AV → AS → Prop) (X : PV → AS → Prop) : J4_33 env I21 m21 I25 m25 counts0_j33 n5_j33 file9_j33 all11_j33 least12_j33 most13_j33 size16_j33 p18_j33 t65_j33 t66_j33 t67_j33 t71_j33 t72_j33 t73_j33 σ K X = wpD Go.Proofs.Try.prog env an4 (subC (bodyC Go.Proofs.Try.f4) [1, 1, 1, 1, 1, 1, 1, 1, 1, 1, 0, 1, 0, 0, 1, 1, 0, 0, 1, 1, 0, 1, 0, 0, 1, 1, 0, 0, 1, 1, 1]) (contQ Go.Proofs.Try.prog env an4 (bodyC Go.Proofs.Try.f4) [1, 1, 1, 1, 1, 1, 1, 1, 1, 1, 0, 1, 0, 0, 1, 1, 0, 0, 1, 1, 0, 1, 0, 0, 1, 1, 0, 0, 1, 1, 1] [(I21, m21), (I25, m25)] (rootQ Go.Proofs.Try.prog Go.Proofs.Try.f4 K X)) [(0, counts0_j33), (5, n5_j33), (9, file9_j33), (11, all11_j33), (12, least12_j33), (13, most13_j33), (16, size16_j33), (18, p18_j33), (65, t65_j33), (66, t66_j33), (67, t67_j33), (71, t71_j33), (72, t72_j33), (73, t73_j33)] σ := by
  unfold J4_33
  kernel_rfl
def L4_27 (env : Env) (I21 : Nat → List AV → AS → Prop) (m21 : Nat) (I25 : Nat → List AV → AS → Prop) (m25 : Nat) (I27 : Nat → List AV → AS → Prop) (m27 : Nat) (counts0_l27 n5_l27 file9_l27 next10_l27 all11_l27 least12_l27 most13_l27 size16_l27 p18_l27 t65_l27 t66_l27 t67_l27 t71_l27 t72_l27 t73_l27 : AV) (σ : AS) (K : AV → AS → Prop) (X : PV → AS → Prop) : Prop :=
 (fieldAddrD Go.Proofs.Try.prog 28 p18_l27 0 fun t78 =>
 (loadD Go.Proofs.Try.prog σ 3 t78 fun t79 =>
 (binD Go.Proofs.Try.prog .lss 3 file9_l27 t79 fun t80 =>
 (condD t80
 (indexAddrD Go.Proofs.Try.prog 22 counts0_l27 file9_l27 fun t84 =>
 (loadD Go.Proofs.Try.prog σ 3 t84 fun t85 =>
 (foldD max2D t85 [(.pv (.int .i64 0))] fun t86 =>
 (binD Go.Proofs.Try.prog .neq 3 next10_l27 t86 fun t87 =>
 (condD t87
 (retV ((.pv (.bool false))) σ K)
 (binD Go.Proofs.Try.prog .add 3 file9_l27 (.pv (.int .i64 1)) fun t89 =>
 (∃ m', m' < m27 ∧ I27 m' [counts0_l27, n5_l27, t89, (.pv (.int .i64 0)), all11_l27, least12_l27, most13_l27, size16_l27, p18_l27, t65_l27, t66_l27, t67_l27, t71_l27, t72_l27, t73_l27] σ)))))))
 (fieldAddrD Go.Proofs.Try.prog 28 p18_l27 0 fun t90 =>
 (loadD Go.Proofs.Try.prog σ 3 t90 fun t91 =>
 (binD Go.Proofs.Try.prog .neq 3 t91 file9_l27 fun t93 =>
 (guardD t93 false
 (fieldAddrD Go.Proofs.Try.prog 28 p18_l27 1 fun t95 =>
 (loadD Go.Proofs.Try.prog σ 3 t95 fun t96 =>
 (binD Go.Proofs.Try.prog .neq 3 t96 next10_l27 fun t98 =>
 (guardD t98 false
 (fieldAddrD Go.Proofs.Try.prog 28 p18_l27 2 fun t101 =>
 (loadD Go.Proofs.Try.prog σ 3 t101 fun t102 =>
 (fieldAddrD Go.Proofs.Try.prog 28 p18_l27 1 fun t103 =>
 (loadD Go.Proofs.Try.prog σ 3 t103 fun t104 =>
 (binD Go.Proofs.Try.prog .leq 3 t102 t104 fun t105 =>
 (guardD t105 false
 (fieldAddrD Go.Proofs.Try.prog 28 p18_l27 2 fun t108 =>
 (loadD Go.Proofs.Try.prog σ 3 t108 fun t109 =>
 (indexAddrD Go.Proofs.Try.prog 22 counts0_l27 file9_l27 fun t112 =>
 (loadD Go.Proofs.Try.prog σ 3 t112 fun t113 =>
 (binD Go.Proofs.Try.prog .gtr 3 t109 t113 fun t114 =>
 (condD t114
 (retV ((.pv (.bool false))) σ K)
 (J4_33 env I21 m21 I25 m25 (counts0_l27) (n5_l27) (file9_l27) (all11_l27) (least12_l27) (most13_l27) (size16_l27) (p18_l27) (t65_l27) (t66_l27) (t67_l27) (t71_l27) (t72_l27) (t73_l27) σ K X)))))))
 (retV ((.pv (.bool false))) σ K)))))))
 (retV ((.pv (.bool false))) σ K)))))
 (retV ((.pv (.bool false))) σ K)))))))))
theorem L4_27_eq (env : Env) (I21 : Nat → List AV → AS → Prop) (m21 : Nat) (I25 : Nat → List AV → AS → Prop) (m25 : Nat) (I27 : Nat → List AV → AS → Prop) (m27 : Nat) (counts0_l27 n5_l27 file9_l27 next10_l27 all11_l27 least12_l27 most13_l27 size16_l27 p18_l27 t65_l27 t66_l27 t67_l27 t71_l27 t72_l27 t73_l27 : AV) (σ : AS) (K : AV → AS → Prop) (X : PV → AS → Prop) : L4_27 env I21 m21 I25 m25 I27 m27 counts0_l27 n5_l27 file9_l27 next10_l27 all11_l27 least12_l27 most13_l27 size16_l27 p18_l27 t65_l27 t66_l27 t67_l27 t71_l27 t72_l27 t73_l27 σ K X = wpD Go.Proofs.Try.prog env an4 (subC (bodyC Go.Proofs.Try.f4) [1, 1, 1, 1, 1, 1, 1, 1, 1, 1, 0, 1, 0, 0, 1, 1, 0, 0, 1, 1, 0, 1, 0, 0, 1, 1, 0, 0, 1, 0, 0, 0]) (contQ Go.Proofs.Try.prog env an4 (bodyC Go.Proofs.Try.f4) [1, 1, 1, 1, 1, 1, 1, 1, 1, 1, 0, 1, 0, 0, 1, 1, 0, 0, 1, 1, 0, 1, 0, 0, 1, 1, 0, 0, 1, 0, 0, 0] [(I21, m21), (I25, m25), (I27, m27)] (rootQ Go.Proofs.Try.prog Go.Proofs.Try.f4 K X)) [(0, counts0_l27), (5, n5_l27), (9, file9_l27), (10, next10_l27), (11, all11_l27), (12, least12_l27), (13, most13_l27), (16, size16_l27), (18, p18_l27), (65, t65_l27), (66, t66_l27), (67, t67_l27), (71, t71_l27), (72, t72_l27), (73, t73_l27)] σ := by
  unfold L4_27
  simp only [J4_33_eq]
  kernel_rfl
def L4_25 (env : Env) (I21 : Nat → List AV → AS → Prop) (m21 : Nat) (I25 : Nat → List AV → AS → Prop) (m25 : Nat) (counts0_l25 n5_l25 file9_l25 next10_l25 all11_l25 least12_l25 most13_l25 size16_l25 t65_l25 t66_l25 t67_l25 t71_l25 t72_l25 t73_l25 : AV) (σ : AS) (K : AV → AS → Prop) (X : PV → AS → Prop) : Prop :=
 (binD Go.Proofs.Try.prog .lss 3 t73_l25 t72_l25 fun t74 =>
 (condD t74
 (indexAddrD Go.Proofs.Try.prog 26 t71_l25 t73_l25 fun t75 =>
 (loadD Go.Proofs.Try.prog σ 28 t75 fun t76 =>
 (allocD Go.Proofs.Try.prog σ 28 fun t18 σ7 =>
 (storeD Go.Proofs.Try.prog σ7 28 t18 t76 fun σ8 =>
 (∃ I27 : Nat → List AV → AS → Prop, (∃ m, I27 m [counts0_l25, n5_l25, file9_l25, next10_l25, all11_l25, least12_l25, most13_l25, size16_l25, t18, t65_l25, t66_l25, t67_l25, t71_l25, t72_l25, t73_l25] σ8) ∧ ∀ (m27 : Nat) (counts0_l27 n5_l27 file9_l27 next10_l27 all11_l27 least12_l27 most13_l27 size16_l27 p18_l27 t65_l27 t66_l27 t67_l27 t71_l27 t72_l27 t73_l27 : AV), ∀ σ9, I27 m27 [counts0_l27, n5_l27, file9_l27, next10_l27, all11_l27, least12_l27, most13_l27, size16_l27, p18_l27, t65_l27, t66_l27, t67_l27, t71_l27, t72_l27, t73_l27] σ9 →
 (L4_27 env I21 m21 I25 m25 I27 m27 counts0_l27 n5_l27 file9_l27 next10_l27 all11_l27 least12_l27 most13_l27 size16_l27 p18_l27 t65_l27 t66_l27 t67_l27 t71_l27 t72_l27 t73_l27 σ9 K X))))))
 (foldD min2D least12_l25 [size16_l25] fun t128 =>
 (foldD max2D most13_l25 [size16_l25] fun t131 =>
 (binD Go.Proofs.Try.prog .add 3 all11_l25 size16_l25 fun t134 =>
 (binD Go.Proofs.Try.prog .add 3 t67_l25 (.pv (.int .i64 1)) fun t135 =>
 (∃ m', m' < m21 ∧ I21 m' [counts0_l25, n5_l25, file9_l25, next10_l25, t134, t128, t131, t65_l25, t66_l25, t135] σ)))))))
theorem L4_25_eq (env : Env) (I21 : Nat → List AV → AS → Prop) (m21 : Nat) (I25 : Nat → List AV → AS → Prop) (m25 : Nat) (counts0_l25 n5_l25 file9_l25 next10_l25 all11_l25 least12_l25 most13_l25 size16_l25 t65_l25 t66_l25 t67_l25 t71_l25 t72_l25 t73_l25 : AV) (σ : AS) (K : AV → AS → Prop) (X : PV → AS → Prop) : L4_25 env I21 m21 I25 m25 counts0_l25 n5_l25 file9_l25 next10_l25 all11_l25 least12_l25 most13_l25 size16_l25 t65_l25 t66_l25 t67_l25 t71_l25 t72_l25 t73_l25 σ K X = wpD Go.Proofs.Try.prog env an4 (subC (bodyC Go.Proofs.Try.f4) [1, 1, 1, 1, 1, 1, 1, 1, 1, 1, 0, 1, 0, 0, 1, 1, 0, 0, 1, 1, 0, 1, 0, 0]) (contQ Go.Proofs.Try.prog env an4 (bodyC Go.Proofs.Try.f4) [1, 1, 1, 1, 1, 1, 1, 1, 1, 1, 0, 1, 0, 0, 1, 1, 0, 0, 1, 1, 0, 1, 0, 0] [(I21, m21), (I25, m25)] (rootQ Go.Proofs.Try.prog Go.Proofs.Try.f4 K X)) [(0, counts0_l25), (5, n5_l25), (9, file9_l25), (10, next10_l25), (11, all11_l25), (12, least12_l25), (13, most13_l25), (16, size16_l25), (65, t65_l25), (66, t66_l25), (67, t67_l25), (71, t71_l25), (72, t72_l25), (73, t73_l25)] σ := by
  unfold L4_25
  simp only [L4_27_eq]
  kernel_rfl
def L4_21 (env : Env) (I21 : Nat → List AV → AS → Prop) (m21 : Nat) (counts0_l21 n5_l21 file9_l21 next10_l21 all11_l21 least12_l21 most13_l21 t65_l21 t66_l21 t67_l21 : AV) (σ : AS) (K : AV → AS → Prop) (X : PV → AS → Prop) : Prop :=
 (binD Go.Proofs.Try.prog .lss 3 t67_l21 t66_l21 fun t68 =>
 (condD t68
 (indexAddrD Go.Proofs.Try.prog 24 t65_l21 t67_l21 fun t69 =>
 (loadD Go.Proofs.Try.prog σ 26 t69 fun t70 =>
 (lenD Go.Proofs.Try.prog 26 t70 fun t72 =>
 (∃ I25 : Nat → List AV → AS → Prop, (∃ m, I25 m [counts0_l21, n5_l21, file9_l21, next10_l21, all11_l21, least12_l21, most13_l21, (.pv (.int .i64 0)), t65_l21, t66_l21, t67_l21, t70, t72, (.pv (.int .i64 0))] σ) ∧ ∀ (m25 : Nat) (counts0_l25 n5_l25 file9_l25 next10_l25 all11_l25 least12_l25 most13_l25 size16_l25 t65_l25 t66_l25 t67_l25 t71_l25 t72_l25 t73_l25 : AV), ∀ σ6, I25 m25 [counts0_l25, n5_l25, file9_l25, next10_l25, all11_l25, least12_l25, most13_l25, size16_l25, t65_l25, t66_l25, t67_l25, t71_l25, t72_l25, t73_l25] σ6 →
 (L4_25 env I21 m21 I25 m25 counts0_l25 n5_l25 file9_l25 next10_l25 all11_l25 least12_l25 most13_l25 size16_l25 t65_l25 t66_l25 t67_l25 t71_l25 t72_l25 t73_l25 σ6 K X)))))
 (binD Go.Proofs.Try.prog .eql 3 all11_l21 n5_l21 fun t138 =>
 (guardD t138 true
 (binD Go.Proofs.Try.prog .sub 3 most13_l21 least12_l21 fun t142 =>
 (binD Go.Proofs.Try.prog .leq 3 t142 (.pv (.int .i64 1)) fun t143 =>
 (retV (t143) σ K)))
 (retV ((.pv (.bool false))) σ K)))))
theorem L4_21_eq (env : Env) (I21 : Nat → List AV → AS → Prop) (m21 : Nat) (counts0_l21 n5_l21 file9_l21 next10_l21 all11_l21 least12_l21 most13_l21 t65_l21 t66_l21 t67_l21 : AV) (σ : AS) (K : AV → AS → Prop) (X : PV → AS → Prop) : L4_21 env I21 m21 counts0_l21 n5_l21 file9_l21 next10_l21 all11_l21 least12_l21 most13_l21 t65_l21 t66_l21 t67_l21 σ K X = wpD Go.Proofs.Try.prog env an4 (subC (bodyC Go.Proofs.Try.f4) [1, 1, 1, 1, 1, 1, 1, 1, 1, 1, 0, 1, 0, 0]) (contQ Go.Proofs.Try.prog env an4 (bodyC Go.Proofs.Try.f4) [1, 1, 1, 1, 1, 1, 1, 1, 1, 1, 0, 1, 0, 0] [(I21, m21)] (rootQ Go.Proofs.Try.prog Go.Proofs.Try.f4 K X)) [(0, counts0_l21), (5, n5_l21), (9, file9_l21), (10, next10_l21), (11, all11_l21), (12, least12_l21), (13, most13_l21), (65, t65_l21), (66, t66_l21), (67, t67_l21)] σ := by
  unfold L4_21
  simp only [L4_25_eq]
  kernel_rfl
def J4_15 (env : Env)  (counts0_j15 k1_j15 n5_j15 l8_j15 t57_j15 : AV) (σ : AS) (K : AV → AS → Prop) (X : PV → AS → Prop) : Prop :=
 (condD t57_j15
 (lenD Go.Proofs.Try.prog 24 l8_j15 fun t59 =>
 (binD Go.Proofs.Try.prog .eql 3 t59 (.pv (.int .i64 0)) fun t60 =>
 (retV (t60) σ K)))
 (lenD Go.Proofs.Try.prog 24 l8_j15 fun t62 =>
 (binD Go.Proofs.Try.prog .neq 3 t62 k1_j15 fun t64 =>
 (condD t64
 (retV ((.pv (.bool false))) σ K)
 (lenD Go.Proofs.Try.prog 24 l8_j15 fun t66 =>
 (∃ I21 : Nat → List AV → AS → Prop, (∃ m, I21 m [counts0_j15, n5_j15, (.pv (.int .i64 0)), (.pv (.int .i64 0)), (.pv (.int .i64 0)), (.pv (.int .i64 9223372036854775807)), (.pv (.int .i64 0)), l8_j15, t66, (.pv (.int .i64 0))] σ) ∧ ∀ (m21 : Nat) (counts0_l21 n5_l21 file9_l21 next10_l21 all11_l21 least12_l21 most13_l21 t65_l21 t66_l21 t67_l21 : AV), ∀ σ5, I21 m21 [counts0_l21, n5_l21, file9_l21, next10_l21, all11_l21, least12_l21, most13_l21, t65_l21, t66_l21, t67_l21] σ5 →
 (L4_21 env I21 m21 counts0_l21 n5_l21 file9_l21 next10_l21 all11_l21 least12_l21 most13_l21 t65_l21 t66_l21 t67_l21 σ5 K X)))))))
theorem J4_15_eq (env : Env)  (counts0_j15 k1_j15 n5_j15 l8_j15 t57_j15 : AV) (σ : AS) (K : AV → AS → Prop) (X : PV → AS → Prop) : J4_15 env  counts0_j15 k1_j15 n5_j15 l8_j15 t57_j15 σ K X = wpD Go.Proofs.Try.prog env an4 (subC (bodyC Go.Proofs.Try.f4) [1, 1, 1, 1, 1, 1, 0, 1]) (contQ Go.Proofs.Try.prog env an4 (bodyC Go.Proofs.Try.f4) [1, 1, 1, 1, 1, 1, 0, 1] [] (rootQ Go.Proofs.Try.prog Go.Proofs.Try.f4 K X)) [(0, counts0_j15), (1, k1_j15), (5, n5_j15), (8, l8_j15), (57, t57_j15)] σ := by
  unfold J4_15
  simp only [L4_21_eq]
  kernel_rfl
def L4_7 (env : Env) (I7 : Nat → List AV → AS → Prop) (m7 : Nat) (counts0_l7 k1_l7 n5_l7 t24_l7 t25_l7 t26_l7 : AV) (σ : AS) (K : AV → AS → Prop) (X : PV → AS → Prop) : Prop :=
 (binD Go.Proofs.Try.prog .lss 3 t26_l7 t25_l7 fun t27 =>
 (condD t27
 (indexAddrD Go.Proofs.Try.prog 22 t24_l7 t26_l7 fun t28 =>
 (loadD Go.Proofs.Try.prog σ 3 t28 fun t29 =>
 (binD Go.Proofs.Try.prog .gtr 3 t29 (.pv (.int .i64 2147483647)) fun t31 =>
 (guardD t31 false
 (foldD max2D t29 [(.pv (.int .i64 0))] fun t35 =>
 (binD Go.Proofs.Try.prog .add 3 n5_l7 t35 fun t36 =>
 (binD Go.Proofs.Try.prog .gtr 3 t36 (.pv (.int .i64 2147483647)) fun t37 =>
 (J4_10 env I7 m7 (counts0_l7) (k1_l7) (n5_l7) (t29) (t24_l7) (t25_l7) (t26_l7) (t37) σ K X))))
 (J4_10 env I7 m7 (counts0_l7) (k1_l7) (n5_l7) (t29) (t24_l7) (t25_l7) (t26_l7) (.pv (.bool true)) σ K X)))))
 (env 15 [counts0_l7, k1_l7] σ (fun t51 σ4 =>
 (binD Go.Proofs.Try.prog .lss 3 k1_l7 (.pv (.int .i64 1)) fun t53 =>
 (guardD t53 false
 (binD Go.Proofs.Try.prog .gtr 3 k1_l7 (.pv (.int .i64 4096)) fun t56 =>
 (J4_15 env  (counts0_l7) (k1_l7) (n5_l7) (t51) (t56) σ4 K X))
 (J4_15 env  (counts0_l7) (k1_l7) (n5_l7) (t51) (.pv (.bool true)) σ4 K X)))) (panV X))))
theorem L4_7_eq (env : Env) (I7 : Nat → List AV → AS → Prop) (m7 : Nat) (counts0_l7 k1_l7 n5_l7 t24_l7 t25_l7 t26_l7 : AV) (σ : AS) (K : AV → AS → Prop) (X : PV → AS → Prop) : L4_7 env I7 m7 counts0_l7 k1_l7 n5_l7 t24_l7 t25_l7 t26_l7 σ K X = wpD Go.Proofs.Try.prog env an4 (subC (bodyC Go.Proofs.Try.f4) [1, 1, 1, 1, 0, 1, 0, 0]) (contQ Go.Proofs.Try.prog env an4 (bodyC Go.Proofs.Try.f4) [1, 1, 1, 1, 0, 1, 0, 0] [(I7, m7)] (rootQ Go.Proofs.Try.prog Go.Proofs.Try.f4 K X)) [(0, counts0_l7), (1, k1_l7), (5, n5_l7), (24, t24_l7), (25, t25_l7), (26, t26_l7)] σ := by
  unfold L4_7
  simp only [J4_10_eq, J4_15_eq]
  kernel_rfl
def S4 (env : Env) (counts0_a k1_a : AV) (σ : AS) (K : AV → AS → Prop) (X : PV → AS → Prop) : Prop :=
 (env 14 [] σ (fun t19 σ1 =>
 (unD .not t19 fun t20 =>
 (condD t20
 (retV ((.pv (.bool false))) σ1 K)
 (lenD Go.Proofs.Try.prog 22 counts0_a fun t22 =>
 (binD Go.Proofs.Try.prog .gtr 3 t22 (.pv (.int .i64 1000)) fun t23 =>
 (condD t23
 (retV ((.pv (.bool true))) σ1 K)
 (lenD Go.Proofs.Try.prog 22 counts0_a fun t25 =>
 (∃ I7 : Nat → List AV → AS → Prop, (∃ m, I7 m [counts0_a, k1_a, (.pv (.int .i64 0)), counts0_a, t25, (.pv (.int .i64 0))] σ1) ∧ ∀ (m7 : Nat) (counts0_l7 k1_l7 n5_l7 t24_l7 t25_l7 t26_l7 : AV), ∀ σ2, I7 m7 [counts0_l7, k1_l7, n5_l7, t24_l7, t25_l7, t26_l7] σ2 →
 (L4_7 env I7 m7 counts0_l7 k1_l7 n5_l7 t24_l7 t25_l7 t26_l7 σ2 K X))))))))) (panV X))
theorem S4_eq (env : Env) (counts0_a k1_a : AV) (σ : AS) (K : AV → AS → Prop) (X : PV → AS → Prop) : S4 env counts0_a k1_a σ K X = bodyD Go.Proofs.Try.prog env an4 Go.Proofs.Try.f4 [counts0_a, k1_a] σ K X := by
  unfold S4
  simp only [L4_7_eq]
  kernel_rfl
theorem S4_ok : (match Go.Proofs.Try.f4.body with | some c => okCode an4 Go.Proofs.Try.prog Go.Proofs.Try.f4.ntmps c | none => false) = true := by kernel_rfl
/-! ### tedder/tedderlaw18.ChunkCuts (function 3) -/
def an3 : An := { mu := [], cut := [(5, [0, 1])], loop := [(6, [0, 1, 26, 27, 28]), (15, [8, 46, 47, 48]), (20, [8, 9, 46, 47, 48, 61, 62, 63])] }
def L3_20 (env : Env) (I15 : Nat → List AV → AS → Prop) (m15 : Nat) (I20 : Nat → List AV → AS → Prop) (m20 : Nat) (b8_l20 i9_l20 t46_l20 t47_l20 t48_l20 t61_l20 t62_l20 t63_l20 : AV) (σ : AS) (K : AV → AS → Prop) (X : PV → AS → Prop) : Prop :=
 (binD Go.Proofs.Try.prog .lss 3 t63_l20 t62_l20 fun t64 =>
 (condD t64
 (indexAddrD Go.Proofs.Try.prog 26 t61_l20 t63_l20 fun t66 =>
 (loadD Go.Proofs.Try.prog σ 28 t66 fun t67 =>
 (allocD Go.Proofs.Try.prog σ 28 fun t12 σ7 =>
 (storeD Go.Proofs.Try.prog σ7 28 t12 t67 fun σ8 =>
 (loadD Go.Proofs.Try.prog σ8 28 t12 fun t68 =>
 (indexAddrD Go.Proofs.Try.prog 24 b8_l20 i9_l20 fun t71 =>
 (loadD Go.Proofs.Try.prog σ8 26 t71 fun t72 =>
 (indexAddrD Go.Proofs.Try.prog 26 t72 t63_l20 fun t74 =>
 (loadD Go.Proofs.Try.prog σ8 28 t74 fun t75 =>
 (binD Go.Proofs.Try.prog .neq 28 t68 t75 fun t76 =>
 (condD t76
 (retV ((.pv (.bool false))) σ8 K)
 (binD Go.Proofs.Try.prog .add 3 t63_l20 (.pv (.int .i64 1)) fun t77 =>
 (∃ m', m' < m20 ∧ I20 m' [b8_l20, i9_l20, t46_l20, t47_l20, t48_l20, t61_l20, t62_l20, t77] σ8)))))))))))))
 (binD Go.Proofs.Try.prog .add 3 t48_l20 (.pv (.int .i64 1)) fun t78 =>
 (∃ m', m' < m15 ∧ I15 m' [b8_l20, t46_l20, t47_l20, t78] σ))))
theorem L3_20_eq (env : Env) (I15 : Nat → List AV → AS → Prop) (m15 : Nat) (I20 : Nat → List AV → AS → Prop) (m20 : Nat) (b8_l20 i9_l20 t46_l20 t47_l20 t48_l20 t61_l20 t62_l20 t63_l20 : AV) (σ : AS) (K : AV → AS → Prop) (X : PV → AS → Prop) : L3_20 env I15 m15 I20 m20 b8_l20 i9_l20 t46_l20 t47_l20 t48_l20 t61_l20 t62_l20 t63_l20 σ K X = wpD Go.Proofs.Try.prog env an3 (subC (bodyC Go.Proofs.Try.f3) [1, 1, 1, 1, 1, 1, 0, 1, 0, 0, 1, 1, 0, 0, 1, 1, 1, 0, 0]) (contQ Go.Proofs.Try.prog env an3 (bodyC Go.Proofs.Try.f3) [1, 1, 1, 1, 1, 1, 0, 1, 0, 0, 1, 1, 0, 0, 1, 1, 1, 0, 0] [(I15, m15), (I20, m20)] (rootQ Go.Proofs.Try.prog Go.Proofs.Try.f3 K X)) [(8, b8_l20), (9, i9_l20), (46, t46_l20), (47, t47_l20), (48, t48_l20), (61, t61_l20), (62, t62_l20), (63, t63_l20)] σ := by
  unfold L3_20
  kernel_rfl
def L3_15 (env : Env) (I15 : Nat → List AV → AS → Prop) (m15 : Nat) (b8_l15 t46_l15 t47_l15 t48_l15 : AV) (σ : AS) (K : AV → AS → Prop) (X : PV → AS → Prop) : Prop :=
 (binD Go.Proofs.Try.prog .lss 3 t48_l15 t47_l15 fun t49 =>
 (condD t49
 (indexAddrD Go.Proofs.Try.prog 24 t46_l15 t48_l15 fun t51 =>
 (loadD Go.Proofs.Try.prog σ 26 t51 fun t52 =>
 (lenD Go.Proofs.Try.prog 26 t52 fun t54 =>
 (indexAddrD Go.Proofs.Try.prog 24 b8_l15 t48_l15 fun t57 =>
 (loadD Go.Proofs.Try.prog σ 26 t57 fun t58 =>
 (lenD Go.Proofs.Try.prog 26 t58 fun t59 =>
 (binD Go.Proofs.Try.prog .neq 3 t54 t59 fun t60 =>
 (condD t60
 (retV ((.pv (.bool false))) σ K)
 (lenD Go.Proofs.Try.prog 26 t52 fun t62 =>
 (∃ I20 : Nat → List AV → AS → Prop, (∃ m, I20 m [b8_l15, t48_l15, t46_l15, t47_l15, t48_l15, t52, t62, (.pv (.int .i64 0))] σ) ∧ ∀ (m20 : Nat) (b8_l20 i9_l20 t46_l20 t47_l20 t48_l20 t61_l20 t62_l20 t63_l20 : AV), ∀ σ6, I20 m20 [b8_l20, i9_l20, t46_l20, t47_l20, t48_l20, t61_l20, t62_l20, t63_l20] σ6 →
 (L3_20 env I15 m15 I20 m20 b8_l20 i9_l20 t46_l20 t47_l20 t48_l20 t61_l20 t62_l20 t63_l20 σ6 K X)))))))))))
 (retV ((.pv (.bool true))) σ K)))
theorem L3_15_eq (env : Env) (I15 : Nat → List AV → AS → Prop) (m15 : Nat) (b8_l15 t46_l15 t47_l15 t48_l15 : AV) (σ : AS) (K : AV → AS → Prop) (X : PV → AS → Prop) : L3_15 env I15 m15 b8_l15 t46_l15 t47_l15 t48_l15 σ K X = wpD Go.Proofs.Try.prog env an3 (subC (bodyC Go.Proofs.Try.f3) [1, 1, 1, 1, 1, 1, 0, 1, 0, 0]) (contQ Go.Proofs.Try.prog env an3 (bodyC Go.Proofs.Try.f3) [1, 1, 1, 1, 1, 1, 0, 1, 0, 0] [(I15, m15)] (rootQ Go.Proofs.Try.prog Go.Proofs.Try.f3 K X)) [(8, b8_l15), (46, t46_l15), (47, t47_l15), (48, t48_l15)] σ := by
  unfold L3_15
  simp only [L3_20_eq]
  kernel_rfl
def L3_6 (env : Env) (I6 : Nat → List AV → AS → Prop) (m6 : Nat) (counts0_l6 k1_l6 t26_l6 t27_l6 t28_l6 : AV) (σ : AS) (K : AV → AS → Prop) (X : PV → AS → Prop) : Prop :=
 (binD Go.Proofs.Try.prog .lss 3 t28_l6 t27_l6 fun t29 =>
 (condD t29
 (indexAddrD Go.Proofs.Try.prog 22 t26_l6 t28_l6 fun t30 =>
 (loadD Go.Proofs.Try.prog σ 3 t30 fun t31 =>
 (binD Go.Proofs.Try.prog .gtr 3 t31 (.pv (.int .i64 100)) fun t33 =>
 (condD t33
 (retV ((.pv (.bool true))) σ K)
 (binD Go.Proofs.Try.prog .add 3 t28_l6 (.pv (.int .i64 1)) fun t34 =>
 (∃ m', m' < m6 ∧ I6 m' [counts0_l6, k1_l6, t26_l6, t27_l6, t34] σ))))))
 (env 15 [counts0_l6, k1_l6] σ (fun t37 σ3 =>
 (env 16 [counts0_l6, k1_l6] σ3 (fun t40 σ4 =>
 (lenD Go.Proofs.Try.prog 24 t37 fun t42 =>
 (lenD Go.Proofs.Try.prog 24 t40 fun t44 =>
 (binD Go.Proofs.Try.prog .neq 3 t42 t44 fun t45 =>
 (condD t45
 (retV ((.pv (.bool false))) σ4 K)
 (lenD Go.Proofs.Try.prog 24 t37 fun t47 =>
 (∃ I15 : Nat → List AV → AS → Prop, (∃ m, I15 m [t40, t37, t47, (.pv (.int .i64 0))] σ4) ∧ ∀ (m15 : Nat) (b8_l15 t46_l15 t47_l15 t48_l15 : AV), ∀ σ5, I15 m15 [b8_l15, t46_l15, t47_l15, t48_l15] σ5 →
 (L3_15 env I15 m15 b8_l15 t46_l15 t47_l15 t48_l15 σ5 K X)))))))) (panV X))) (panV X))))
theorem L3_6_eq (env : Env) (I6 : Nat → List AV → AS → Prop) (m6 : Nat) (counts0_l6 k1_l6 t26_l6 t27_l6 t28_l6 : AV) (σ : AS) (K : AV → AS → Prop) (X : PV → AS → Prop) : L3_6 env I6 m6 counts0_l6 k1_l6 t26_l6 t27_l6 t28_l6 σ K X = wpD Go.Proofs.Try.prog env an3 (subC (bodyC Go.Proofs.Try.f3) [1, 1, 1, 0, 1, 0, 0]) (contQ Go.Proofs.Try.prog env an3 (bodyC Go.Proofs.Try.f3) [1, 1, 1, 0, 1, 0, 0] [(I6, m6)] (rootQ Go.Proofs.Try.prog Go.Proofs.Try.f3 K X)) [(0, counts0_l6), (1, k1_l6), (26, t26_l6), (27, t27_l6), (28, t28_l6)] σ := by
  unfold L3_6
  simp only [L3_15_eq]
  kernel_rfl
def J3_5 (env : Env)  (counts0_j5 k1_j5 : AV) (σ : AS) (K : AV → AS → Prop) (X : PV → AS → Prop) : Prop :=
 (lenD Go.Proofs.Try.prog 22 counts0_j5 fun t27 =>
 (∃ I6 : Nat → List AV → AS → Prop, (∃ m, I6 m [counts0_j5, k1_j5, counts0_j5, t27, (.pv (.int .i64 0))] σ) ∧ ∀ (m6 : Nat) (counts0_l6 k1_l6 t26_l6 t27_l6 t28_l6 : AV), ∀ σ2, I6 m6 [counts0_l6, k1_l6, t26_l6, t27_l6, t28_l6] σ2 →
 (L3_6 env I6 m6 counts0_l6 k1_l6 t26_l6 t27_l6 t28_l6 σ2 K X)))
theorem J3_5_eq (env : Env)  (counts0_j5 k1_j5 : AV) (σ : AS) (K : AV → AS → Prop) (X : PV → AS → Prop) : J3_5 env  counts0_j5 k1_j5 σ K X = wpD Go.Proofs.Try.prog env an3 (subC (bodyC Go.Proofs.Try.f3) [1, 1, 1]) (contQ Go.Proofs.Try.prog env an3 (bodyC Go.Proofs.Try.f3) [1, 1, 1] [] (rootQ Go.Proofs.Try.prog Go.Proofs.Try.f3 K X)) [(0, counts0_j5), (1, k1_j5)] σ := by
  unfold J3_5
  simp only [L3_6_eq]
  kernel_rfl
def S3 (env : Env) (counts0_a k1_a : AV) (σ : AS) (K : AV → AS → Prop) (X : PV → AS → Prop) : Prop :=
 (env 14 [] σ (fun t13 σ1 =>
 (unD .not t13 fun t14 =>
 (condD t14
 (retV ((.pv (.bool false))) σ1 K)
 (lenD Go.Proofs.Try.prog 22 counts0_a fun t16 =>
 (binD Go.Proofs.Try.prog .gtr 3 t16 (.pv (.int .i64 20)) fun t17 =>
 (guardD t17 false
 (binD Go.Proofs.Try.prog .gtr 3 k1_a (.pv (.int .i64 200)) fun t20 =>
 (guardD t20 true
 (binD Go.Proofs.Try.prog .leq 3 k1_a (.pv (.int .i64 4096)) fun t23 =>
 (condD t23
 (retV ((.pv (.bool true))) σ1 K)
 (J3_5 env  (counts0_a) (k1_a) σ1 K X)))
 (J3_5 env  (counts0_a) (k1_a) σ1 K X)))
 (retV ((.pv (.bool true))) σ1 K))))))) (panV X))
theorem S3_eq (env : Env) (counts0_a k1_a : AV) (σ : AS) (K : AV → AS → Prop) (X : PV → AS → Prop) : S3 env counts0_a k1_a σ K X = bodyD Go.Proofs.Try.prog env an3 Go.Proofs.Try.f3 [counts0_a, k1_a] σ K X := by
  unfold S3
  simp only [J3_5_eq]
  kernel_rfl
theorem S3_ok : (match Go.Proofs.Try.f3.body with | some c => okCode an3 Go.Proofs.Try.prog Go.Proofs.Try.f3.ntmps c | none => false) = true := by kernel_rfl
end Go.AD
