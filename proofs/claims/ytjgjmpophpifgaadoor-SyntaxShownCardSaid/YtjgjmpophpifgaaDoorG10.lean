/- Bodies in the calculus' own words. Printed by gen.py, a program of this claim's own. -/
import Derived.Test.YtjgjmpophpifgaaDoorTy
set_option linter.unusedVariables false
set_option maxRecDepth 100000
namespace Go.AD
open Go.Proofs.Tryd
/-! ### (*tedder/syntax.parser).expr (function 70) -/
def an70 : An := { mu := [], cut := [(6, [0, 1, 2, 6, 7, 9]), (9, [0, 1, 2, 6, 7, 9, 10]), (12, [0, 1, 2, 6, 7, 9, 10]), (26, [0, 1, 2, 6, 7, 9])], loop := [(3, [0, 1, 2, 6, 7, 8])], any := [12, 15, 21, 23, 25] }
def J70_26 (env : Env) (I3 : Nat → List AV → AS → Prop) (m3 : Nat) (p0_j26 least1_j26 printing2_j26 t6_j26 left7_j26 k9_j26 : AV) (σ : AS) (K : AV → AS → Prop) (X : PV → AS → Prop) : Prop :=
 (lock binD prog .eql 3 k9_j26 (.pv (.int .i64 7)) fun t101 =>
 (condD t101
 (∃ m', m' < m3 ∧ I3 m' [p0_j26, least1_j26, printing2_j26, t6_j26, left7_j26, (.pv (.int .i64 6))] σ)
 (∃ m', m' < m3 ∧ I3 m' [p0_j26, least1_j26, printing2_j26, t6_j26, left7_j26, k9_j26] σ)))
theorem J70_26_eq (env : Env) (I3 : Nat → List AV → AS → Prop) (m3 : Nat) (p0_j26 least1_j26 printing2_j26 t6_j26 left7_j26 k9_j26 : AV) (σ : AS) (K : AV → AS → Prop) (X : PV → AS → Prop) : J70_26 env I3 m3 p0_j26 least1_j26 printing2_j26 t6_j26 left7_j26 k9_j26 σ K X = wpD prog env an70 (subC (bodyC f70) [1, 1, 1, 0, 0, 0, 1, 1, 1, 1, 1]) (contQ prog env an70 (bodyC f70) [1, 1, 1, 0, 0, 0, 1, 1, 1, 1, 1] [(I3, m3)] (rootQ prog f70 K X)) [(0, p0_j26), (1, least1_j26), (2, printing2_j26), (6, t6_j26), (7, left7_j26), (9, k9_j26)] σ := by
  unfold J70_26
  kernel_rfl
def J70_12 (env : Env) (I3 : Nat → List AV → AS → Prop) (m3 : Nat) (p0_j12 least1_j12 printing2_j12 t6_j12 left7_j12 k9_j12 t10_j12 : AV) (σ : AS) (K : AV → AS → Prop) (X : PV → AS → Prop) : Prop :=
 (lock fieldAddrD prog 52 t10_j12 1 fun t41 =>
 (lock binD prog .add 3 k9_j12 (.pv (.int .i64 1)) fun t46 =>
 ((lock loadD prog σ 9 t41 fun t42 =>
 ((lock loadD prog σ 39 left7_j12 fun t43 =>
 ((env 70 [p0_j12, t46, printing2_j12] σ (fun t48 σ134 =>
 ((lock buildSliceD prog false σ134 35 2 2 [(0, t43), (1, t48)] fun t49 σ135 =>
 ((env 68 [(.pv (.str [98, 105, 110])), t42, t49] σ135 (fun t50 σ136 =>
 ((lock storeD prog σ136 39 left7_j12 t50 fun σ137 =>
 (J70_26 env I3 m3 (p0_j12) (least1_j12) (printing2_j12) (t6_j12) (left7_j12) (k9_j12) σ137 K X)) ∧ True)) (panV X)) ∧ True)) ∧ True)) (panV X)) ∧ True)) ∧ ((env 70 [p0_j12, t46, printing2_j12] σ (fun t48 σ130 =>
 ((lock loadD prog σ130 39 left7_j12 fun t43 =>
 ((lock buildSliceD prog false σ130 35 2 2 [(0, t43), (1, t48)] fun t49 σ131 =>
 ((env 68 [(.pv (.str [98, 105, 110])), t42, t49] σ131 (fun t50 σ132 =>
 ((lock storeD prog σ132 39 left7_j12 t50 fun σ133 =>
 (J70_26 env I3 m3 (p0_j12) (least1_j12) (printing2_j12) (t6_j12) (left7_j12) (k9_j12) σ133 K X)) ∧ True)) (panV X)) ∧ True)) ∧ True)) ∧ True)) (panV X)) ∧ True))) ∧ ((lock loadD prog σ 39 left7_j12 fun t43 =>
 ((lock loadD prog σ 9 t41 fun t42 =>
 ((env 70 [p0_j12, t46, printing2_j12] σ (fun t48 σ126 =>
 ((lock buildSliceD prog false σ126 35 2 2 [(0, t43), (1, t48)] fun t49 σ127 =>
 ((env 68 [(.pv (.str [98, 105, 110])), t42, t49] σ127 (fun t50 σ128 =>
 ((lock storeD prog σ128 39 left7_j12 t50 fun σ129 =>
 (J70_26 env I3 m3 (p0_j12) (least1_j12) (printing2_j12) (t6_j12) (left7_j12) (k9_j12) σ129 K X)) ∧ True)) (panV X)) ∧ True)) ∧ True)) (panV X)) ∧ True)) ∧ ((env 70 [p0_j12, t46, printing2_j12] σ (fun t48 σ119 =>
 ((lock loadD prog σ119 9 t41 fun t42 =>
 ((lock buildSliceD prog false σ119 35 2 2 [(0, t43), (1, t48)] fun t49 σ123 =>
 ((env 68 [(.pv (.str [98, 105, 110])), t42, t49] σ123 (fun t50 σ124 =>
 ((lock storeD prog σ124 39 left7_j12 t50 fun σ125 =>
 (J70_26 env I3 m3 (p0_j12) (least1_j12) (printing2_j12) (t6_j12) (left7_j12) (k9_j12) σ125 K X)) ∧ True)) (panV X)) ∧ True)) ∧ True)) ∧ ((lock buildSliceD prog false σ119 35 2 2 [(0, t43), (1, t48)] fun t49 σ120 =>
 ((lock loadD prog σ120 9 t41 fun t42 =>
 ((env 68 [(.pv (.str [98, 105, 110])), t42, t49] σ120 (fun t50 σ121 =>
 ((lock storeD prog σ121 39 left7_j12 t50 fun σ122 =>
 (J70_26 env I3 m3 (p0_j12) (least1_j12) (printing2_j12) (t6_j12) (left7_j12) (k9_j12) σ122 K X)) ∧ True)) (panV X)) ∧ True)) ∧ True)) ∧ True))) (panV X)) ∧ True))) ∧ ((env 70 [p0_j12, t46, printing2_j12] σ (fun t48 σ109 =>
 ((lock loadD prog σ109 9 t41 fun t42 =>
 ((lock loadD prog σ109 39 left7_j12 fun t43 =>
 ((lock buildSliceD prog false σ109 35 2 2 [(0, t43), (1, t48)] fun t49 σ116 =>
 ((env 68 [(.pv (.str [98, 105, 110])), t42, t49] σ116 (fun t50 σ117 =>
 ((lock storeD prog σ117 39 left7_j12 t50 fun σ118 =>
 (J70_26 env I3 m3 (p0_j12) (least1_j12) (printing2_j12) (t6_j12) (left7_j12) (k9_j12) σ118 K X)) ∧ True)) (panV X)) ∧ True)) ∧ True)) ∧ True)) ∧ ((lock loadD prog σ109 39 left7_j12 fun t43 =>
 ((lock loadD prog σ109 9 t41 fun t42 =>
 ((lock buildSliceD prog false σ109 35 2 2 [(0, t43), (1, t48)] fun t49 σ113 =>
 ((env 68 [(.pv (.str [98, 105, 110])), t42, t49] σ113 (fun t50 σ114 =>
 ((lock storeD prog σ114 39 left7_j12 t50 fun σ115 =>
 (J70_26 env I3 m3 (p0_j12) (least1_j12) (printing2_j12) (t6_j12) (left7_j12) (k9_j12) σ115 K X)) ∧ True)) (panV X)) ∧ True)) ∧ True)) ∧ ((lock buildSliceD prog false σ109 35 2 2 [(0, t43), (1, t48)] fun t49 σ110 =>
 ((lock loadD prog σ110 9 t41 fun t42 =>
 ((env 68 [(.pv (.str [98, 105, 110])), t42, t49] σ110 (fun t50 σ111 =>
 ((lock storeD prog σ111 39 left7_j12 t50 fun σ112 =>
 (J70_26 env I3 m3 (p0_j12) (least1_j12) (printing2_j12) (t6_j12) (left7_j12) (k9_j12) σ112 K X)) ∧ True)) (panV X)) ∧ True)) ∧ True)) ∧ True))) ∧ True))) (panV X)) ∧ True)))))
theorem J70_12_eq (env : Env) (I3 : Nat → List AV → AS → Prop) (m3 : Nat) (p0_j12 least1_j12 printing2_j12 t6_j12 left7_j12 k9_j12 t10_j12 : AV) (σ : AS) (K : AV → AS → Prop) (X : PV → AS → Prop) : J70_12 env I3 m3 p0_j12 least1_j12 printing2_j12 t6_j12 left7_j12 k9_j12 t10_j12 σ K X = wpD prog env an70 (subC (bodyC f70) [1, 1, 1, 0, 0, 0, 1, 1, 1, 1, 0, 1, 0, 1, 1, 1, 1, 1, 1, 1, 1, 1]) (contQ prog env an70 (bodyC f70) [1, 1, 1, 0, 0, 0, 1, 1, 1, 1, 0, 1, 0, 1, 1, 1, 1, 1, 1, 1, 1, 1] [(I3, m3)] (rootQ prog f70 K X)) [(0, p0_j12), (1, least1_j12), (2, printing2_j12), (6, t6_j12), (7, left7_j12), (9, k9_j12), (10, t10_j12)] σ := by
  unfold J70_12
  kernel_rfl
def J70_9 (env : Env) (I3 : Nat → List AV → AS → Prop) (m3 : Nat) (p0_j9 least1_j9 printing2_j9 t6_j9 left7_j9 k9_j9 t10_j9 : AV) (σ : AS) (K : AV → AS → Prop) (X : PV → AS → Prop) : Prop :=
 (lock binD prog .eql 3 k9_j9 (.pv (.int .i64 1)) fun t52 =>
 (condD t52
 (lock loadD prog σ 39 left7_j9 fun t53 =>
 (env 102 [t53] σ (fun t54 σ12 =>
 (env 31 [t54] σ12 (fun t55 σ13 =>
 (lock fieldAddrD prog 52 t10_j9 1 fun t56 =>
 ((lock loadD prog σ13 9 t56 fun t57 =>
 ((lock loadD prog σ13 39 left7_j9 fun t58 =>
 ((env 70 [p0_j9, (.pv (.int .i64 1)), printing2_j9] σ13 (fun t61 σ39 =>
 ((lock buildSliceD prog false σ39 35 2 2 [(0, t58), (1, t61)] fun t62 σ40 =>
 ((env 68 [(.pv (.str [97, 115, 115, 105, 103, 110])), t57, t62] σ40 (fun t63 σ41 =>
 ((lock storeD prog σ41 39 t6_j9 t63 fun σ42 =>
 (lock loadD prog σ42 39 t6_j9 fun r0 =>
 (retV (r0) σ42 K))) ∧ True)) (panV X)) ∧ True)) ∧ True)) (panV X)) ∧ True)) ∧ ((env 70 [p0_j9, (.pv (.int .i64 1)), printing2_j9] σ13 (fun t61 σ35 =>
 ((lock loadD prog σ35 39 left7_j9 fun t58 =>
 ((lock buildSliceD prog false σ35 35 2 2 [(0, t58), (1, t61)] fun t62 σ36 =>
 ((env 68 [(.pv (.str [97, 115, 115, 105, 103, 110])), t57, t62] σ36 (fun t63 σ37 =>
 ((lock storeD prog σ37 39 t6_j9 t63 fun σ38 =>
 (lock loadD prog σ38 39 t6_j9 fun r0 =>
 (retV (r0) σ38 K))) ∧ True)) (panV X)) ∧ True)) ∧ True)) ∧ True)) (panV X)) ∧ True))) ∧ ((lock loadD prog σ13 39 left7_j9 fun t58 =>
 ((lock loadD prog σ13 9 t56 fun t57 =>
 ((env 70 [p0_j9, (.pv (.int .i64 1)), printing2_j9] σ13 (fun t61 σ31 =>
 ((lock buildSliceD prog false σ31 35 2 2 [(0, t58), (1, t61)] fun t62 σ32 =>
 ((env 68 [(.pv (.str [97, 115, 115, 105, 103, 110])), t57, t62] σ32 (fun t63 σ33 =>
 ((lock storeD prog σ33 39 t6_j9 t63 fun σ34 =>
 (lock loadD prog σ34 39 t6_j9 fun r0 =>
 (retV (r0) σ34 K))) ∧ True)) (panV X)) ∧ True)) ∧ True)) (panV X)) ∧ True)) ∧ ((env 70 [p0_j9, (.pv (.int .i64 1)), printing2_j9] σ13 (fun t61 σ24 =>
 ((lock loadD prog σ24 9 t56 fun t57 =>
 ((lock buildSliceD prog false σ24 35 2 2 [(0, t58), (1, t61)] fun t62 σ28 =>
 ((env 68 [(.pv (.str [97, 115, 115, 105, 103, 110])), t57, t62] σ28 (fun t63 σ29 =>
 ((lock storeD prog σ29 39 t6_j9 t63 fun σ30 =>
 (lock loadD prog σ30 39 t6_j9 fun r0 =>
 (retV (r0) σ30 K))) ∧ True)) (panV X)) ∧ True)) ∧ True)) ∧ ((lock buildSliceD prog false σ24 35 2 2 [(0, t58), (1, t61)] fun t62 σ25 =>
 ((lock loadD prog σ25 9 t56 fun t57 =>
 ((env 68 [(.pv (.str [97, 115, 115, 105, 103, 110])), t57, t62] σ25 (fun t63 σ26 =>
 ((lock storeD prog σ26 39 t6_j9 t63 fun σ27 =>
 (lock loadD prog σ27 39 t6_j9 fun r0 =>
 (retV (r0) σ27 K))) ∧ True)) (panV X)) ∧ True)) ∧ True)) ∧ True))) (panV X)) ∧ True))) ∧ ((env 70 [p0_j9, (.pv (.int .i64 1)), printing2_j9] σ13 (fun t61 σ14 =>
 ((lock loadD prog σ14 9 t56 fun t57 =>
 ((lock loadD prog σ14 39 left7_j9 fun t58 =>
 ((lock buildSliceD prog false σ14 35 2 2 [(0, t58), (1, t61)] fun t62 σ21 =>
 ((env 68 [(.pv (.str [97, 115, 115, 105, 103, 110])), t57, t62] σ21 (fun t63 σ22 =>
 ((lock storeD prog σ22 39 t6_j9 t63 fun σ23 =>
 (lock loadD prog σ23 39 t6_j9 fun r0 =>
 (retV (r0) σ23 K))) ∧ True)) (panV X)) ∧ True)) ∧ True)) ∧ True)) ∧ ((lock loadD prog σ14 39 left7_j9 fun t58 =>
 ((lock loadD prog σ14 9 t56 fun t57 =>
 ((lock buildSliceD prog false σ14 35 2 2 [(0, t58), (1, t61)] fun t62 σ18 =>
 ((env 68 [(.pv (.str [97, 115, 115, 105, 103, 110])), t57, t62] σ18 (fun t63 σ19 =>
 ((lock storeD prog σ19 39 t6_j9 t63 fun σ20 =>
 (lock loadD prog σ20 39 t6_j9 fun r0 =>
 (retV (r0) σ20 K))) ∧ True)) (panV X)) ∧ True)) ∧ True)) ∧ ((lock buildSliceD prog false σ14 35 2 2 [(0, t58), (1, t61)] fun t62 σ15 =>
 ((lock loadD prog σ15 9 t56 fun t57 =>
 ((env 68 [(.pv (.str [97, 115, 115, 105, 103, 110])), t57, t62] σ15 (fun t63 σ16 =>
 ((lock storeD prog σ16 39 t6_j9 t63 fun σ17 =>
 (lock loadD prog σ17 39 t6_j9 fun r0 =>
 (retV (r0) σ17 K))) ∧ True)) (panV X)) ∧ True)) ∧ True)) ∧ True))) ∧ True))) (panV X)) ∧ True))))) (panV X))) (panV X)))
 (lock binD prog .eql 3 k9_j9 (.pv (.int .i64 2)) fun t65 =>
 (condD t65
 (env 71 [p0_j9] σ (fun t67 σ43 =>
 (env 70 [p0_j9, (.pv (.int .i64 1)), printing2_j9] σ43 (fun t70 σ44 =>
 (lock allocD prog σ44 39 fun t11 σ45 =>
 (lock storeD prog σ45 39 t11 t70 fun σ46 =>
 (env 61 [(.pv (.str [58]))] σ46 (fun t72 σ47 =>
 (env 97 [p0_j9, t72] σ47 (fun t73 σ48 =>
 (env 71 [p0_j9] σ48 (fun t75 σ49 =>
 ((lock loadD prog σ49 39 left7_j9 fun t76 =>
 ((lock loadD prog σ49 39 t11 fun t77 =>
 ((env 70 [p0_j9, (.pv (.int .i64 1)), printing2_j9] σ49 (fun t80 σ69 =>
 ((lock buildSliceD prog false σ69 35 3 3 [(0, t76), (1, t77), (2, t80)] fun t81 σ70 =>
 ((env 68 [(.pv (.str [99, 111, 110, 100])), (.pv (.str [])), t81] σ70 (fun t82 σ71 =>
 ((lock storeD prog σ71 39 t6_j9 t82 fun σ72 =>
 (lock loadD prog σ72 39 t6_j9 fun r0 =>
 (retV (r0) σ72 K))) ∧ True)) (panV X)) ∧ True)) ∧ True)) (panV X)) ∧ True)) ∧ ((env 70 [p0_j9, (.pv (.int .i64 1)), printing2_j9] σ49 (fun t80 σ65 =>
 ((lock loadD prog σ65 39 t11 fun t77 =>
 ((lock buildSliceD prog false σ65 35 3 3 [(0, t76), (1, t77), (2, t80)] fun t81 σ66 =>
 ((env 68 [(.pv (.str [99, 111, 110, 100])), (.pv (.str [])), t81] σ66 (fun t82 σ67 =>
 ((lock storeD prog σ67 39 t6_j9 t82 fun σ68 =>
 (lock loadD prog σ68 39 t6_j9 fun r0 =>
 (retV (r0) σ68 K))) ∧ True)) (panV X)) ∧ True)) ∧ True)) ∧ True)) (panV X)) ∧ True))) ∧ ((lock loadD prog σ49 39 t11 fun t77 =>
 ((lock loadD prog σ49 39 left7_j9 fun t76 =>
 ((env 70 [p0_j9, (.pv (.int .i64 1)), printing2_j9] σ49 (fun t80 σ61 =>
 ((lock buildSliceD prog false σ61 35 3 3 [(0, t76), (1, t77), (2, t80)] fun t81 σ62 =>
 ((env 68 [(.pv (.str [99, 111, 110, 100])), (.pv (.str [])), t81] σ62 (fun t82 σ63 =>
 ((lock storeD prog σ63 39 t6_j9 t82 fun σ64 =>
 (lock loadD prog σ64 39 t6_j9 fun r0 =>
 (retV (r0) σ64 K))) ∧ True)) (panV X)) ∧ True)) ∧ True)) (panV X)) ∧ True)) ∧ ((env 70 [p0_j9, (.pv (.int .i64 1)), printing2_j9] σ49 (fun t80 σ57 =>
 ((lock loadD prog σ57 39 left7_j9 fun t76 =>
 ((lock buildSliceD prog false σ57 35 3 3 [(0, t76), (1, t77), (2, t80)] fun t81 σ58 =>
 ((env 68 [(.pv (.str [99, 111, 110, 100])), (.pv (.str [])), t81] σ58 (fun t82 σ59 =>
 ((lock storeD prog σ59 39 t6_j9 t82 fun σ60 =>
 (lock loadD prog σ60 39 t6_j9 fun r0 =>
 (retV (r0) σ60 K))) ∧ True)) (panV X)) ∧ True)) ∧ True)) ∧ True)) (panV X)) ∧ True))) ∧ ((env 70 [p0_j9, (.pv (.int .i64 1)), printing2_j9] σ49 (fun t80 σ50 =>
 ((lock loadD prog σ50 39 left7_j9 fun t76 =>
 ((lock loadD prog σ50 39 t11 fun t77 =>
 ((lock buildSliceD prog false σ50 35 3 3 [(0, t76), (1, t77), (2, t80)] fun t81 σ54 =>
 ((env 68 [(.pv (.str [99, 111, 110, 100])), (.pv (.str [])), t81] σ54 (fun t82 σ55 =>
 ((lock storeD prog σ55 39 t6_j9 t82 fun σ56 =>
 (lock loadD prog σ56 39 t6_j9 fun r0 =>
 (retV (r0) σ56 K))) ∧ True)) (panV X)) ∧ True)) ∧ True)) ∧ True)) ∧ ((lock loadD prog σ50 39 t11 fun t77 =>
 ((lock loadD prog σ50 39 left7_j9 fun t76 =>
 ((lock buildSliceD prog false σ50 35 3 3 [(0, t76), (1, t77), (2, t80)] fun t81 σ51 =>
 ((env 68 [(.pv (.str [99, 111, 110, 100])), (.pv (.str [])), t81] σ51 (fun t82 σ52 =>
 ((lock storeD prog σ52 39 t6_j9 t82 fun σ53 =>
 (lock loadD prog σ53 39 t6_j9 fun r0 =>
 (retV (r0) σ53 K))) ∧ True)) (panV X)) ∧ True)) ∧ True)) ∧ True)) ∧ True))) (panV X)) ∧ True)))) (panV X))) (panV X))) (panV X))))) (panV X))) (panV X))
 (lock binD prog .eql 3 k9_j9 (.pv (.int .i64 5)) fun t84 =>
 (condD t84
 ((lock buildSliceD prog false σ 27 1 1 [(0, (.pv (.str [110, 97, 109, 101])))] fun t86 σ87 =>
 ((env 99 [p0_j9, t86] σ87 (fun t87 σ96 =>
 ((lock loadD prog σ96 39 left7_j9 fun t88 =>
 ((lock buildSliceD prog false σ96 35 1 1 [(0, t88)] fun t89 σ97 =>
 ((env 68 [(.pv (.str [105, 110])), t87, t89] σ97 (fun t90 σ98 =>
 ((lock storeD prog σ98 39 left7_j9 t90 fun σ99 =>
 (J70_26 env I3 m3 (p0_j9) (least1_j9) (printing2_j9) (t6_j9) (left7_j9) (k9_j9) σ99 K X)) ∧ True)) (panV X)) ∧ True)) ∧ True)) ∧ True)) (panV X)) ∧ ((lock loadD prog σ87 39 left7_j9 fun t88 =>
 ((env 99 [p0_j9, t86] σ87 (fun t87 σ92 =>
 ((lock buildSliceD prog false σ92 35 1 1 [(0, t88)] fun t89 σ93 =>
 ((env 68 [(.pv (.str [105, 110])), t87, t89] σ93 (fun t90 σ94 =>
 ((lock storeD prog σ94 39 left7_j9 t90 fun σ95 =>
 (J70_26 env I3 m3 (p0_j9) (least1_j9) (printing2_j9) (t6_j9) (left7_j9) (k9_j9) σ95 K X)) ∧ True)) (panV X)) ∧ True)) ∧ True)) (panV X)) ∧ ((lock buildSliceD prog false σ87 35 1 1 [(0, t88)] fun t89 σ88 =>
 ((env 99 [p0_j9, t86] σ88 (fun t87 σ89 =>
 ((env 68 [(.pv (.str [105, 110])), t87, t89] σ89 (fun t90 σ90 =>
 ((lock storeD prog σ90 39 left7_j9 t90 fun σ91 =>
 (J70_26 env I3 m3 (p0_j9) (least1_j9) (printing2_j9) (t6_j9) (left7_j9) (k9_j9) σ91 K X)) ∧ True)) (panV X)) ∧ True)) (panV X)) ∧ True)) ∧ True))) ∧ True))) ∧ ((lock loadD prog σ 39 left7_j9 fun t88 =>
 ((lock buildSliceD prog false σ 27 1 1 [(0, (.pv (.str [110, 97, 109, 101])))] fun t86 σ78 =>
 ((env 99 [p0_j9, t86] σ78 (fun t87 σ83 =>
 ((lock buildSliceD prog false σ83 35 1 1 [(0, t88)] fun t89 σ84 =>
 ((env 68 [(.pv (.str [105, 110])), t87, t89] σ84 (fun t90 σ85 =>
 ((lock storeD prog σ85 39 left7_j9 t90 fun σ86 =>
 (J70_26 env I3 m3 (p0_j9) (least1_j9) (printing2_j9) (t6_j9) (left7_j9) (k9_j9) σ86 K X)) ∧ True)) (panV X)) ∧ True)) ∧ True)) (panV X)) ∧ ((lock buildSliceD prog false σ78 35 1 1 [(0, t88)] fun t89 σ79 =>
 ((env 99 [p0_j9, t86] σ79 (fun t87 σ80 =>
 ((env 68 [(.pv (.str [105, 110])), t87, t89] σ80 (fun t90 σ81 =>
 ((lock storeD prog σ81 39 left7_j9 t90 fun σ82 =>
 (J70_26 env I3 m3 (p0_j9) (least1_j9) (printing2_j9) (t6_j9) (left7_j9) (k9_j9) σ82 K X)) ∧ True)) (panV X)) ∧ True)) (panV X)) ∧ True)) ∧ True))) ∧ ((lock buildSliceD prog false σ 35 1 1 [(0, t88)] fun t89 σ73 =>
 ((lock buildSliceD prog false σ73 27 1 1 [(0, (.pv (.str [110, 97, 109, 101])))] fun t86 σ74 =>
 ((env 99 [p0_j9, t86] σ74 (fun t87 σ75 =>
 ((env 68 [(.pv (.str [105, 110])), t87, t89] σ75 (fun t90 σ76 =>
 ((lock storeD prog σ76 39 left7_j9 t90 fun σ77 =>
 (J70_26 env I3 m3 (p0_j9) (least1_j9) (printing2_j9) (t6_j9) (left7_j9) (k9_j9) σ77 K X)) ∧ True)) (panV X)) ∧ True)) (panV X)) ∧ True)) ∧ True)) ∧ True))) ∧ True))
 (lock binD prog .eql 3 k9_j9 (.pv (.int .i64 8)) fun t92 =>
 (condD t92
 ((lock loadD prog σ 39 left7_j9 fun t93 =>
 ((env 70 [p0_j9, (.pv (.int .i64 9)), printing2_j9] σ (fun t96 σ104 =>
 ((lock buildSliceD prog false σ104 35 2 2 [(0, t93), (1, t96)] fun t97 σ105 =>
 ((env 68 [(.pv (.str [98, 105, 110])), (.pv (.str [99, 97, 116])), t97] σ105 (fun t98 σ106 =>
 ((lock storeD prog σ106 39 left7_j9 t98 fun σ107 =>
 (J70_26 env I3 m3 (p0_j9) (least1_j9) (printing2_j9) (t6_j9) (left7_j9) (k9_j9) σ107 K X)) ∧ True)) (panV X)) ∧ True)) ∧ True)) (panV X)) ∧ True)) ∧ ((env 70 [p0_j9, (.pv (.int .i64 9)), printing2_j9] σ (fun t96 σ100 =>
 ((lock loadD prog σ100 39 left7_j9 fun t93 =>
 ((lock buildSliceD prog false σ100 35 2 2 [(0, t93), (1, t96)] fun t97 σ101 =>
 ((env 68 [(.pv (.str [98, 105, 110])), (.pv (.str [99, 97, 116])), t97] σ101 (fun t98 σ102 =>
 ((lock storeD prog σ102 39 left7_j9 t98 fun σ103 =>
 (J70_26 env I3 m3 (p0_j9) (least1_j9) (printing2_j9) (t6_j9) (left7_j9) (k9_j9) σ103 K X)) ∧ True)) (panV X)) ∧ True)) ∧ True)) ∧ True)) (panV X)) ∧ True))
 (lock binD prog .leq 3 k9_j9 (.pv (.int .i64 4)) fun t38 =>
 (condD t38
 (env 71 [p0_j9] σ (fun t40 σ108 =>
 (J70_12 env I3 m3 (p0_j9) (least1_j9) (printing2_j9) (t6_j9) (left7_j9) (k9_j9) (t10_j9) σ108 K X)) (panV X))
 (J70_12 env I3 m3 (p0_j9) (least1_j9) (printing2_j9) (t6_j9) (left7_j9) (k9_j9) (t10_j9) σ K X)))))))))))
theorem J70_9_eq (env : Env) (I3 : Nat → List AV → AS → Prop) (m3 : Nat) (p0_j9 least1_j9 printing2_j9 t6_j9 left7_j9 k9_j9 t10_j9 : AV) (σ : AS) (K : AV → AS → Prop) (X : PV → AS → Prop) : J70_9 env I3 m3 p0_j9 least1_j9 printing2_j9 t6_j9 left7_j9 k9_j9 t10_j9 σ K X = wpD prog env an70 (subC (bodyC f70) [1, 1, 1, 0, 0, 0, 1, 1, 1, 1]) (contQ prog env an70 (bodyC f70) [1, 1, 1, 0, 0, 0, 1, 1, 1, 1] [(I3, m3)] (rootQ prog f70 K X)) [(0, p0_j9), (1, least1_j9), (2, printing2_j9), (6, t6_j9), (7, left7_j9), (9, k9_j9), (10, t10_j9)] σ := by
  unfold J70_9
  kernel_rfl
def J70_6 (env : Env) (I3 : Nat → List AV → AS → Prop) (m3 : Nat) (p0_j6 least1_j6 printing2_j6 t6_j6 left7_j6 k9_j6 : AV) (σ : AS) (K : AV → AS → Prop) (X : PV → AS → Prop) : Prop :=
 (env 60 [p0_j6, (.pv (.int .i64 0))] σ (fun t31 σ8 =>
 (lock allocD prog σ8 52 fun t10 σ9 =>
 (lock storeD prog σ9 52 t10 t31 fun σ10 =>
 (lock binD prog .neq 3 k9_j6 (.pv (.int .i64 8)) fun t33 =>
 (condD t33
 (env 62 [p0_j6, (.pv (.int .i64 1))] σ10 (fun t35 σ11 =>
 (J70_9 env I3 m3 (p0_j6) (least1_j6) (printing2_j6) (t6_j6) (left7_j6) (k9_j6) (t10) σ11 K X)) (panV X))
 (J70_9 env I3 m3 (p0_j6) (least1_j6) (printing2_j6) (t6_j6) (left7_j6) (k9_j6) (t10) σ10 K X)))))) (panV X))
theorem J70_6_eq (env : Env) (I3 : Nat → List AV → AS → Prop) (m3 : Nat) (p0_j6 least1_j6 printing2_j6 t6_j6 left7_j6 k9_j6 : AV) (σ : AS) (K : AV → AS → Prop) (X : PV → AS → Prop) : J70_6 env I3 m3 p0_j6 least1_j6 printing2_j6 t6_j6 left7_j6 k9_j6 σ K X = wpD prog env an70 (subC (bodyC f70) [1, 1, 1, 0, 0, 0, 1, 1]) (contQ prog env an70 (bodyC f70) [1, 1, 1, 0, 0, 0, 1, 1] [(I3, m3)] (rootQ prog f70 K X)) [(0, p0_j6), (1, least1_j6), (2, printing2_j6), (6, t6_j6), (7, left7_j6), (9, k9_j6)] σ := by
  unfold J70_6
  kernel_rfl
def L70_3 (env : Env) (I3 : Nat → List AV → AS → Prop) (m3 : Nat) (p0_l3 least1_l3 printing2_l3 t6_l3 left7_l3 bound8_l3 : AV) (σ : AS) (K : AV → AS → Prop) (X : PV → AS → Prop) : Prop :=
 (env 101 [p0_l3, printing2_l3] σ (fun t16 σ6 =>
 (lock binD prog .lss 3 t16 least1_l3 fun t19 =>
 (guardD t19 false
 (lock binD prog .gtr 3 t16 bound8_l3 fun t23 =>
 (guardD t23 false
 (lock binD prog .eql 3 t16 (.pv (.int .i64 0)) fun t27 =>
 (condD t27
 (lock loadD prog σ6 39 left7_l3 fun t29 =>
 (lock storeD prog σ6 39 t6_l3 t29 fun σ7 =>
 (lock loadD prog σ7 39 t6_l3 fun r0 =>
 (retV (r0) σ7 K))))
 (J70_6 env I3 m3 (p0_l3) (least1_l3) (printing2_l3) (t6_l3) (left7_l3) (t16) σ6 K X)))
 (lock loadD prog σ6 39 left7_l3 fun t29 =>
 (lock storeD prog σ6 39 t6_l3 t29 fun σ138 =>
 (lock loadD prog σ138 39 t6_l3 fun r0 =>
 (retV (r0) σ138 K))))))
 (lock loadD prog σ6 39 left7_l3 fun t29 =>
 (lock storeD prog σ6 39 t6_l3 t29 fun σ139 =>
 (lock loadD prog σ139 39 t6_l3 fun r0 =>
 (retV (r0) σ139 K))))))) (panV X))
theorem L70_3_eq (env : Env) (I3 : Nat → List AV → AS → Prop) (m3 : Nat) (p0_l3 least1_l3 printing2_l3 t6_l3 left7_l3 bound8_l3 : AV) (σ : AS) (K : AV → AS → Prop) (X : PV → AS → Prop) : L70_3 env I3 m3 p0_l3 least1_l3 printing2_l3 t6_l3 left7_l3 bound8_l3 σ K X = wpD prog env an70 (subC (bodyC f70) [1, 1, 1, 0, 0]) (contQ prog env an70 (bodyC f70) [1, 1, 1, 0, 0] [(I3, m3)] (rootQ prog f70 K X)) [(0, p0_l3), (1, least1_l3), (2, printing2_l3), (6, t6_l3), (7, left7_l3), (8, bound8_l3)] σ := by
  unfold L70_3
  kernel_rfl
theorem lp70_3 {α : Type} {env : Env}  {p0_l3 least1_l3 printing2_l3 t6_l3 left7_l3 : AV} {σ : AS} {K : AV → AS → Prop} {X : PV → AS → Prop} (μ : α → AS → Nat) (I : α → AS → Prop) (ebound8_l3 : α → AV) (a0 : α) (h0 : I a0 σ)
 (h : ∀ a σ, I a σ → L70_3 env  (Inv (fun a => [p0_l3, least1_l3, printing2_l3, t6_l3, left7_l3, ebound8_l3 a]) μ I) (μ a σ) p0_l3 least1_l3 printing2_l3 t6_l3 left7_l3 (ebound8_l3 a) σ K X) :
 ∃ I3 : Nat → List AV → AS → Prop, (∃ m, I3 m [p0_l3, least1_l3, printing2_l3, t6_l3, left7_l3, ebound8_l3 a0] σ) ∧ ∀ (m : Nat) (x0 x1 x2 x3 x4 x5 : AV), ∀ σ, I3 m [x0, x1, x2, x3, x4, x5] σ →
 L70_3 env  I3 m x0 x1 x2 x3 x4 x5 σ K X := by
  refine ⟨Inv (fun a => [p0_l3, least1_l3, printing2_l3, t6_l3, left7_l3, ebound8_l3 a]) μ I, ⟨_, a0, rfl, rfl, h0⟩, ?_⟩
  rintro m x0 x1 x2 x3 x4 x5 σ' ⟨a, hv, rfl, hI⟩
  simp only [List.cons.injEq, and_true] at hv
  obtain ⟨rfl, rfl, rfl, rfl, rfl, rfl⟩ := hv
  exact h a σ' hI
def S70 (env : Env) (p0_a least1_a printing2_a : AV) (σ : AS) (K : AV → AS → Prop) (X : PV → AS → Prop) : Prop :=
 (lock allocD prog σ 39 fun t6 σ1 =>
 (env 100 [p0_a] σ1 (fun t13 σ2 =>
 (lock allocD prog σ2 39 fun t7 σ3 =>
 (lock storeD prog σ3 39 t7 t13 fun σ4 =>
 (∃ I3 : Nat → List AV → AS → Prop, (∃ m, I3 m [p0_a, least1_a, printing2_a, t6, t7, (.pv (.int .i64 10))] σ4) ∧ ∀ (m3 : Nat) (p0_l3 least1_l3 printing2_l3 t6_l3 left7_l3 bound8_l3 : AV), ∀ σ5, I3 m3 [p0_l3, least1_l3, printing2_l3, t6_l3, left7_l3, bound8_l3] σ5 →
 (L70_3 env I3 m3 p0_l3 least1_l3 printing2_l3 t6_l3 left7_l3 bound8_l3 σ5 K X))))) (panV X)))
theorem S70_eq (env : Env) (p0_a least1_a printing2_a : AV) (σ : AS) (K : AV → AS → Prop) (X : PV → AS → Prop) : S70 env p0_a least1_a printing2_a σ K X = bodyD prog env an70 f70 [p0_a, least1_a, printing2_a] σ K X := by
  unfold S70
  simp only [L70_3_eq]
  kernel_rfl
theorem S70_ok : (match f70.body with | some c => okCode an70 prog f70.ntmps c | none => false) = true := by kernel_rfl
/-! ### (*tedder/syntax.parser).unary (function 100) -/
def an100 : An := { mu := [], cut := [], loop := [(2, [0, 2, 5, 6, 7])] }
def L100_2 (env : Env) (I2 : Nat → List AV → AS → Prop) (m2 : Nat) (p0_l2 t2_l2 t5_l2 t6_l2 t7_l2 : AV) (σ : AS) (K : AV → AS → Prop) (X : PV → AS → Prop) : Prop :=
 (lock binD prog .lss 3 t7_l2 t6_l2 fun t8 =>
 (condD t8
 (lock indexAddrD prog 27 t5_l2 t7_l2 fun t9 =>
 (lock loadD prog σ 9 t9 fun t10 =>
 (env 61 [t10] σ (fun t13 σ4 =>
 (env 66 [p0_l2, t13] σ4 (fun t14 σ5 =>
 (condD t14
 (env 100 [p0_l2] σ5 (fun t17 σ6 =>
 (lock buildSliceD prog false σ6 35 1 1 [(0, t17)] fun t18 σ7 =>
 (env 68 [(.pv (.str [117, 110, 97, 114, 121])), t10, t18] σ7 (fun t19 σ8 =>
 (lock storeD prog σ8 39 t2_l2 t19 fun σ9 =>
 (lock loadD prog σ9 39 t2_l2 fun r0 =>
 (retV (r0) σ9 K)))) (panV X)))) (panV X))
 (lock binD prog .add 3 t7_l2 (.pv (.int .i64 1)) fun t20 =>
 (∃ m', m' < m2 ∧ I2 m' [p0_l2, t2_l2, t5_l2, t6_l2, t20] σ5)))) (panV X))) (panV X))))
 (env 123 [p0_l2] σ (fun t22 σ10 =>
 (lock storeD prog σ10 39 t2_l2 t22 fun σ11 =>
 (lock loadD prog σ11 39 t2_l2 fun r0 =>
 (retV (r0) σ11 K)))) (panV X))))
theorem L100_2_eq (env : Env) (I2 : Nat → List AV → AS → Prop) (m2 : Nat) (p0_l2 t2_l2 t5_l2 t6_l2 t7_l2 : AV) (σ : AS) (K : AV → AS → Prop) (X : PV → AS → Prop) : L100_2 env I2 m2 p0_l2 t2_l2 t5_l2 t6_l2 t7_l2 σ K X = wpD prog env an100 (subC (bodyC f100) [1, 0, 1, 0, 0]) (contQ prog env an100 (bodyC f100) [1, 0, 1, 0, 0] [(I2, m2)] (rootQ prog f100 K X)) [(0, p0_l2), (2, t2_l2), (5, t5_l2), (6, t6_l2), (7, t7_l2)] σ := by
  unfold L100_2
  kernel_rfl
theorem lp100_2 {α : Type} {env : Env}  {p0_l2 t2_l2 t5_l2 t6_l2 : AV} {σ : AS} {K : AV → AS → Prop} {X : PV → AS → Prop} (μ : α → AS → Nat) (I : α → AS → Prop) (et7_l2 : α → AV) (a0 : α) (h0 : I a0 σ)
 (h : ∀ a σ, I a σ → L100_2 env  (Inv (fun a => [p0_l2, t2_l2, t5_l2, t6_l2, et7_l2 a]) μ I) (μ a σ) p0_l2 t2_l2 t5_l2 t6_l2 (et7_l2 a) σ K X) :
 ∃ I2 : Nat → List AV → AS → Prop, (∃ m, I2 m [p0_l2, t2_l2, t5_l2, t6_l2, et7_l2 a0] σ) ∧ ∀ (m : Nat) (x0 x1 x2 x3 x4 : AV), ∀ σ, I2 m [x0, x1, x2, x3, x4] σ →
 L100_2 env  I2 m x0 x1 x2 x3 x4 σ K X := by
  refine ⟨Inv (fun a => [p0_l2, t2_l2, t5_l2, t6_l2, et7_l2 a]) μ I, ⟨_, a0, rfl, rfl, h0⟩, ?_⟩
  rintro m x0 x1 x2 x3 x4 σ' ⟨a, hv, rfl, hI⟩
  simp only [List.cons.injEq, and_true] at hv
  obtain ⟨rfl, rfl, rfl, rfl, rfl⟩ := hv
  exact h a σ' hI
def S100 (env : Env) (p0_a : AV) (σ : AS) (K : AV → AS → Prop) (X : PV → AS → Prop) : Prop :=
 (lock allocD prog σ 39 fun t2 σ1 =>
 (lock buildSliceD prog false σ1 27 3 3 [(0, (.pv (.str [33]))), (1, (.pv (.str [43]))), (2, (.pv (.str [45])))] fun t5 σ2 =>
 (lock lenD prog 27 t5 fun t6 =>
 (∃ I2 : Nat → List AV → AS → Prop, (∃ m, I2 m [p0_a, t2, t5, t6, (.pv (.int .i64 0))] σ2) ∧ ∀ (m2 : Nat) (p0_l2 t2_l2 t5_l2 t6_l2 t7_l2 : AV), ∀ σ3, I2 m2 [p0_l2, t2_l2, t5_l2, t6_l2, t7_l2] σ3 →
 (L100_2 env I2 m2 p0_l2 t2_l2 t5_l2 t6_l2 t7_l2 σ3 K X)))))
theorem S100_eq (env : Env) (p0_a : AV) (σ : AS) (K : AV → AS → Prop) (X : PV → AS → Prop) : S100 env p0_a σ K X = bodyD prog env an100 f100 [p0_a] σ K X := by
  unfold S100
  simp only [L100_2_eq]
  kernel_rfl
theorem S100_ok : (match f100.body with | some c => okCode an100 prog f100.ntmps c | none => false) = true := by kernel_rfl
/-! ### (*tedder/syntax.parser).power (function 123) -/
def an123 : An := { mu := [], cut := [], loop := [], any := [3] }
def S123 (env : Env) (p0_a : AV) (σ : AS) (K : AV → AS → Prop) (X : PV → AS → Prop) : Prop :=
 (lock allocD prog σ 39 fun t2 σ1 =>
 (env 135 [p0_a] σ1 (fun t5 σ2 =>
 (lock allocD prog σ2 39 fun t3 σ3 =>
 (lock storeD prog σ3 39 t3 t5 fun σ4 =>
 (env 61 [(.pv (.str [94]))] σ4 (fun t7 σ5 =>
 (env 66 [p0_a, t7] σ5 (fun t8 σ6 =>
 (condD t8
 ((lock loadD prog σ6 39 t3 fun t9 =>
 ((env 136 [p0_a] σ6 (fun t11 σ11 =>
 ((lock buildSliceD prog false σ11 35 2 2 [(0, t9), (1, t11)] fun t12 σ12 =>
 ((env 68 [(.pv (.str [98, 105, 110])), (.pv (.str [94])), t12] σ12 (fun t13 σ13 =>
 ((lock storeD prog σ13 39 t2 t13 fun σ14 =>
 (lock loadD prog σ14 39 t2 fun r0 =>
 (retV (r0) σ14 K))) ∧ True)) (panV X)) ∧ True)) ∧ True)) (panV X)) ∧ True)) ∧ ((env 136 [p0_a] σ6 (fun t11 σ7 =>
 ((lock loadD prog σ7 39 t3 fun t9 =>
 ((lock buildSliceD prog false σ7 35 2 2 [(0, t9), (1, t11)] fun t12 σ8 =>
 ((env 68 [(.pv (.str [98, 105, 110])), (.pv (.str [94])), t12] σ8 (fun t13 σ9 =>
 ((lock storeD prog σ9 39 t2 t13 fun σ10 =>
 (lock loadD prog σ10 39 t2 fun r0 =>
 (retV (r0) σ10 K))) ∧ True)) (panV X)) ∧ True)) ∧ True)) ∧ True)) (panV X)) ∧ True))
 (lock loadD prog σ6 39 t3 fun t14 =>
 (lock storeD prog σ6 39 t2 t14 fun σ15 =>
 (lock loadD prog σ15 39 t2 fun r0 =>
 (retV (r0) σ15 K)))))) (panV X))) (panV X))))) (panV X)))
theorem S123_eq (env : Env) (p0_a : AV) (σ : AS) (K : AV → AS → Prop) (X : PV → AS → Prop) : S123 env p0_a σ K X = bodyD prog env an123 f123 [p0_a] σ K X := by
  unfold S123
  kernel_rfl
theorem S123_ok : (match f123.body with | some c => okCode an123 prog f123.ntmps c | none => false) = true := by kernel_rfl
/-! ### (*tedder/syntax.parser).exponent (function 136) -/
def an136 : An := { mu := [], cut := [], loop := [(2, [0, 2, 5, 6, 7])] }
def L136_2 (env : Env) (I2 : Nat → List AV → AS → Prop) (m2 : Nat) (p0_l2 t2_l2 t5_l2 t6_l2 t7_l2 : AV) (σ : AS) (K : AV → AS → Prop) (X : PV → AS → Prop) : Prop :=
 (lock binD prog .lss 3 t7_l2 t6_l2 fun t8 =>
 (condD t8
 (lock indexAddrD prog 27 t5_l2 t7_l2 fun t9 =>
 (lock loadD prog σ 9 t9 fun t10 =>
 (env 61 [t10] σ (fun t13 σ4 =>
 (env 66 [p0_l2, t13] σ4 (fun t14 σ5 =>
 (condD t14
 (env 136 [p0_l2] σ5 (fun t17 σ6 =>
 (lock buildSliceD prog false σ6 35 1 1 [(0, t17)] fun t18 σ7 =>
 (env 68 [(.pv (.str [117, 110, 97, 114, 121])), t10, t18] σ7 (fun t19 σ8 =>
 (lock storeD prog σ8 39 t2_l2 t19 fun σ9 =>
 (lock loadD prog σ9 39 t2_l2 fun r0 =>
 (retV (r0) σ9 K)))) (panV X)))) (panV X))
 (lock binD prog .add 3 t7_l2 (.pv (.int .i64 1)) fun t20 =>
 (∃ m', m' < m2 ∧ I2 m' [p0_l2, t2_l2, t5_l2, t6_l2, t20] σ5)))) (panV X))) (panV X))))
 (env 123 [p0_l2] σ (fun t22 σ10 =>
 (lock storeD prog σ10 39 t2_l2 t22 fun σ11 =>
 (lock loadD prog σ11 39 t2_l2 fun r0 =>
 (retV (r0) σ11 K)))) (panV X))))
theorem L136_2_eq (env : Env) (I2 : Nat → List AV → AS → Prop) (m2 : Nat) (p0_l2 t2_l2 t5_l2 t6_l2 t7_l2 : AV) (σ : AS) (K : AV → AS → Prop) (X : PV → AS → Prop) : L136_2 env I2 m2 p0_l2 t2_l2 t5_l2 t6_l2 t7_l2 σ K X = wpD prog env an136 (subC (bodyC f136) [1, 0, 1, 0, 0]) (contQ prog env an136 (bodyC f136) [1, 0, 1, 0, 0] [(I2, m2)] (rootQ prog f136 K X)) [(0, p0_l2), (2, t2_l2), (5, t5_l2), (6, t6_l2), (7, t7_l2)] σ := by
  unfold L136_2
  kernel_rfl
theorem lp136_2 {α : Type} {env : Env}  {p0_l2 t2_l2 t5_l2 t6_l2 : AV} {σ : AS} {K : AV → AS → Prop} {X : PV → AS → Prop} (μ : α → AS → Nat) (I : α → AS → Prop) (et7_l2 : α → AV) (a0 : α) (h0 : I a0 σ)
 (h : ∀ a σ, I a σ → L136_2 env  (Inv (fun a => [p0_l2, t2_l2, t5_l2, t6_l2, et7_l2 a]) μ I) (μ a σ) p0_l2 t2_l2 t5_l2 t6_l2 (et7_l2 a) σ K X) :
 ∃ I2 : Nat → List AV → AS → Prop, (∃ m, I2 m [p0_l2, t2_l2, t5_l2, t6_l2, et7_l2 a0] σ) ∧ ∀ (m : Nat) (x0 x1 x2 x3 x4 : AV), ∀ σ, I2 m [x0, x1, x2, x3, x4] σ →
 L136_2 env  I2 m x0 x1 x2 x3 x4 σ K X := by
  refine ⟨Inv (fun a => [p0_l2, t2_l2, t5_l2, t6_l2, et7_l2 a]) μ I, ⟨_, a0, rfl, rfl, h0⟩, ?_⟩
  rintro m x0 x1 x2 x3 x4 σ' ⟨a, hv, rfl, hI⟩
  simp only [List.cons.injEq, and_true] at hv
  obtain ⟨rfl, rfl, rfl, rfl, rfl⟩ := hv
  exact h a σ' hI
def S136 (env : Env) (p0_a : AV) (σ : AS) (K : AV → AS → Prop) (X : PV → AS → Prop) : Prop :=
 (lock allocD prog σ 39 fun t2 σ1 =>
 (lock buildSliceD prog false σ1 27 2 2 [(0, (.pv (.str [43]))), (1, (.pv (.str [45])))] fun t5 σ2 =>
 (lock lenD prog 27 t5 fun t6 =>
 (∃ I2 : Nat → List AV → AS → Prop, (∃ m, I2 m [p0_a, t2, t5, t6, (.pv (.int .i64 0))] σ2) ∧ ∀ (m2 : Nat) (p0_l2 t2_l2 t5_l2 t6_l2 t7_l2 : AV), ∀ σ3, I2 m2 [p0_l2, t2_l2, t5_l2, t6_l2, t7_l2] σ3 →
 (L136_2 env I2 m2 p0_l2 t2_l2 t5_l2 t6_l2 t7_l2 σ3 K X)))))
theorem S136_eq (env : Env) (p0_a : AV) (σ : AS) (K : AV → AS → Prop) (X : PV → AS → Prop) : S136 env p0_a σ K X = bodyD prog env an136 f136 [p0_a] σ K X := by
  unfold S136
  simp only [L136_2_eq]
  kernel_rfl
theorem S136_ok : (match f136.body with | some c => okCode an136 prog f136.ntmps c | none => false) = true := by kernel_rfl
/-! ### (*tedder/syntax.parser).ahead (function 139) -/
def an139 : An := { mu := [], cut := [], loop := [] }
def S139 (env : Env) (p0_a : AV) (σ : AS) (K : AV → AS → Prop) (X : PV → AS → Prop) : Prop :=
 (lock allocD prog σ 39 fun t2 σ1 =>
 (env 141 [p0_a] σ1 (fun t9 σ2 =>
 (lock extractD t9 0 fun t10 =>
 (lock extractD t9 1 fun t11 =>
 (unD .not t11 fun t13 =>
 (condD t13
 (lock buildD prog 39 [] fun t14 =>
 (lock storeD prog σ2 39 t2 t14 fun σ3 =>
 (lock loadD prog σ3 39 t2 fun r0 =>
 (retV (.tuple [r0, (.pv (.bool false))]) σ3 K))))
 (env 140 [p0_a] σ2 (fun t16 σ4 =>
 (lock allocD prog σ4 39 fun t6 σ5 =>
 (lock storeD prog σ5 39 t6 t16 fun σ6 =>
 (lock loadD prog σ6 39 t6 fun t17 =>
 (env 102 [t17] σ6 (fun t18 σ7 =>
 (env 31 [t18] σ7 (fun t19 σ8 =>
 (lock loadD prog σ8 39 t6 fun t21 =>
 (lock buildSliceD prog false σ8 35 1 1 [(0, t21)] fun t22 σ9 =>
 (env 68 [(.pv (.str [112, 114, 101])), t10, t22] σ9 (fun t23 σ10 =>
 (lock storeD prog σ10 39 t2 t23 fun σ11 =>
 (lock loadD prog σ11 39 t2 fun r0 =>
 (retV (.tuple [r0, (.pv (.bool true))]) σ11 K)))) (panV X))))) (panV X))) (panV X)))))) (panV X))))))) (panV X)))
theorem S139_eq (env : Env) (p0_a : AV) (σ : AS) (K : AV → AS → Prop) (X : PV → AS → Prop) : S139 env p0_a σ K X = bodyD prog env an139 f139 [p0_a] σ K X := by
  unfold S139
  kernel_rfl
theorem S139_ok : (match f139.body with | some c => okCode an139 prog f139.ntmps c | none => false) = true := by kernel_rfl
/-! ### (*tedder/syntax.parser).step (function 135) -/
def an135 : An := { mu := [], cut := [], loop := [] }
def S135 (env : Env) (p0_a : AV) (σ : AS) (K : AV → AS → Prop) (X : PV → AS → Prop) : Prop :=
 (lock allocD prog σ 39 fun t2 σ1 =>
 (env 139 [p0_a] σ1 (fun t10 σ2 =>
 (lock extractD t10 0 fun t11 =>
 (lock extractD t10 1 fun t12 =>
 (lock allocD prog σ2 39 fun t3 σ3 =>
 (lock storeD prog σ3 39 t3 t11 fun σ4 =>
 (condD t12
 (lock loadD prog σ4 39 t3 fun t14 =>
 (lock storeD prog σ4 39 t2 t14 fun σ5 =>
 (lock loadD prog σ5 39 t2 fun r0 =>
 (retV (r0) σ5 K))))
 (env 140 [p0_a] σ4 (fun t16 σ6 =>
 (lock allocD prog σ6 39 fun t5 σ7 =>
 (lock storeD prog σ7 39 t5 t16 fun σ8 =>
 (lock loadD prog σ8 39 t5 fun t17 =>
 (env 102 [t17] σ8 (fun t18 σ9 =>
 (condD t18
 (env 141 [p0_a] σ9 (fun t21 σ10 =>
 (lock extractD t21 0 fun t22 =>
 (lock extractD t21 1 fun t23 =>
 (condD t23
 (lock loadD prog σ10 39 t5 fun t26 =>
 (lock buildSliceD prog false σ10 35 1 1 [(0, t26)] fun t27 σ11 =>
 (env 68 [(.pv (.str [112, 111, 115, 116])), t22, t27] σ11 (fun t28 σ12 =>
 (lock storeD prog σ12 39 t2 t28 fun σ13 =>
 (lock loadD prog σ13 39 t2 fun r0 =>
 (retV (r0) σ13 K)))) (panV X))))
 (lock loadD prog σ10 39 t5 fun t29 =>
 (lock storeD prog σ10 39 t2 t29 fun σ14 =>
 (lock loadD prog σ14 39 t2 fun r0 =>
 (retV (r0) σ14 K)))))))) (panV X))
 (lock loadD prog σ9 39 t5 fun t29 =>
 (lock storeD prog σ9 39 t2 t29 fun σ15 =>
 (lock loadD prog σ15 39 t2 fun r0 =>
 (retV (r0) σ15 K)))))) (panV X)))))) (panV X)))))))) (panV X)))
theorem S135_eq (env : Env) (p0_a : AV) (σ : AS) (K : AV → AS → Prop) (X : PV → AS → Prop) : S135 env p0_a σ K X = bodyD prog env an135 f135 [p0_a] σ K X := by
  unfold S135
  kernel_rfl
theorem S135_ok : (match f135.body with | some c => okCode an135 prog f135.ntmps c | none => false) = true := by kernel_rfl
/-! ### (*tedder/syntax.parser).list (function 138) -/
def an138 : An := { mu := [], cut := [], loop := [(2, [0, 1, 5])] }
def L138_2 (env : Env) (I2 : Nat → List AV → AS → Prop) (m2 : Nat) (p0_l2 printing1_l2 l5_l2 : AV) (σ : AS) (K : AV → AS → Prop) (X : PV → AS → Prop) : Prop :=
 (env 61 [(.pv (.str [44]))] σ (fun t11 σ4 =>
 (env 66 [p0_l2, t11] σ4 (fun t12 σ5 =>
 (condD t12
 (env 71 [p0_l2] σ5 (fun t14 σ6 =>
 (env 70 [p0_l2, (.pv (.int .i64 1)), printing1_l2] σ6 (fun t18 σ7 =>
 (lock buildSliceD prog false σ7 35 1 1 [(0, t18)] fun t19 σ8 =>
 (lock appendD prog false σ8 35 l5_l2 t19 fun t20 σ9 =>
 (∃ m', m' < m2 ∧ I2 m' [p0_l2, printing1_l2, t20] σ9)))) (panV X))) (panV X))
 (retV (l5_l2) σ5 K))) (panV X))) (panV X))
theorem L138_2_eq (env : Env) (I2 : Nat → List AV → AS → Prop) (m2 : Nat) (p0_l2 printing1_l2 l5_l2 : AV) (σ : AS) (K : AV → AS → Prop) (X : PV → AS → Prop) : L138_2 env I2 m2 p0_l2 printing1_l2 l5_l2 σ K X = wpD prog env an138 (subC (bodyC f138) [1, 1, 0, 0, 0]) (contQ prog env an138 (bodyC f138) [1, 1, 0, 0, 0] [(I2, m2)] (rootQ prog f138 K X)) [(0, p0_l2), (1, printing1_l2), (5, l5_l2)] σ := by
  unfold L138_2
  kernel_rfl
theorem lp138_2 {α : Type} {env : Env}  {p0_l2 printing1_l2 : AV} {σ : AS} {K : AV → AS → Prop} {X : PV → AS → Prop} (μ : α → AS → Nat) (I : α → AS → Prop) (el5_l2 : α → AV) (a0 : α) (h0 : I a0 σ)
 (h : ∀ a σ, I a σ → L138_2 env  (Inv (fun a => [p0_l2, printing1_l2, el5_l2 a]) μ I) (μ a σ) p0_l2 printing1_l2 (el5_l2 a) σ K X) :
 ∃ I2 : Nat → List AV → AS → Prop, (∃ m, I2 m [p0_l2, printing1_l2, el5_l2 a0] σ) ∧ ∀ (m : Nat) (x0 x1 x2 : AV), ∀ σ, I2 m [x0, x1, x2] σ →
 L138_2 env  I2 m x0 x1 x2 σ K X := by
  refine ⟨Inv (fun a => [p0_l2, printing1_l2, el5_l2 a]) μ I, ⟨_, a0, rfl, rfl, h0⟩, ?_⟩
  rintro m x0 x1 x2 σ' ⟨a, hv, rfl, hI⟩
  simp only [List.cons.injEq, and_true] at hv
  obtain ⟨rfl, rfl, rfl⟩ := hv
  exact h a σ' hI
def S138 (env : Env) (p0_a printing1_a : AV) (σ : AS) (K : AV → AS → Prop) (X : PV → AS → Prop) : Prop :=
 (env 70 [p0_a, (.pv (.int .i64 1)), printing1_a] σ (fun t8 σ1 =>
 (lock buildSliceD prog false σ1 35 1 1 [(0, t8)] fun t9 σ2 =>
 (∃ I2 : Nat → List AV → AS → Prop, (∃ m, I2 m [p0_a, printing1_a, t9] σ2) ∧ ∀ (m2 : Nat) (p0_l2 printing1_l2 l5_l2 : AV), ∀ σ3, I2 m2 [p0_l2, printing1_l2, l5_l2] σ3 →
 (L138_2 env I2 m2 p0_l2 printing1_l2 l5_l2 σ3 K X)))) (panV X))
theorem S138_eq (env : Env) (p0_a printing1_a : AV) (σ : AS) (K : AV → AS → Prop) (X : PV → AS → Prop) : S138 env p0_a printing1_a σ K X = bodyD prog env an138 f138 [p0_a, printing1_a] σ K X := by
  unfold S138
  simp only [L138_2_eq]
  kernel_rfl
theorem S138_ok : (match f138.body with | some c => okCode an138 prog f138.ntmps c | none => false) = true := by kernel_rfl
/-! ### (*tedder/syntax.parser).args (function 142) -/
def an142 : An := { mu := [], cut := [], loop := [] }
def S142 (env : Env) (p0_a : AV) (σ : AS) (K : AV → AS → Prop) (X : PV → AS → Prop) : Prop :=
 (env 61 [(.pv (.str [41]))] σ (fun t5 σ1 =>
 (env 66 [p0_a, t5] σ1 (fun t6 σ2 =>
 (condD t6
 (retV ((.nilS)) σ2 K)
 (env 138 [p0_a, (.pv (.bool false))] σ2 (fun t8 σ3 =>
 (env 61 [(.pv (.str [41]))] σ3 (fun t10 σ4 =>
 (env 97 [p0_a, t10] σ4 (fun t11 σ5 =>
 (retV (t8) σ5 K)) (panV X))) (panV X))) (panV X)))) (panV X))) (panV X))
theorem S142_eq (env : Env) (p0_a : AV) (σ : AS) (K : AV → AS → Prop) (X : PV → AS → Prop) : S142 env p0_a σ K X = bodyD prog env an142 f142 [p0_a] σ K X := by
  unfold S142
  kernel_rfl
theorem S142_ok : (match f142.body with | some c => okCode an142 prog f142.ntmps c | none => false) = true := by kernel_rfl
/-! ### (*tedder/syntax.parser).subscripts (function 134) -/
def an134 : An := { mu := [], cut := [], loop := [] }
def S134 (env : Env) (p0_a : AV) (σ : AS) (K : AV → AS → Prop) (X : PV → AS → Prop) : Prop :=
 (env 138 [p0_a, (.pv (.bool false))] σ (fun t5 σ1 =>
 (env 61 [(.pv (.str [93]))] σ1 (fun t7 σ2 =>
 (env 97 [p0_a, t7] σ2 (fun t8 σ3 =>
 (retV (t5) σ3 K)) (panV X))) (panV X))) (panV X))
theorem S134_eq (env : Env) (p0_a : AV) (σ : AS) (K : AV → AS → Prop) (X : PV → AS → Prop) : S134 env p0_a σ K X = bodyD prog env an134 f134 [p0_a] σ K X := by
  unfold S134
  kernel_rfl
theorem S134_ok : (match f134.body with | some c => okCode an134 prog f134.ntmps c | none => false) = true := by kernel_rfl
/-! ### (*tedder/syntax.parser).operand (function 140) -/
def an140 : An := { mu := [], cut := [(8, [0, 2, 3, 16, 17])], loop := [], any := [11, 15, 18] }
def J140_8 (env : Env)  (p0_j8 t2_j8 t3_j8 t16_j8 t17_j8 : AV) (σ : AS) (K : AV → AS → Prop) (X : PV → AS → Prop) : Prop :=
 (condD t17_j8
 (lock fieldAddrD prog 52 t3_j8 0 fun t21 =>
 (lock loadD prog σ 9 t21 fun t22 =>
 (lock fieldAddrD prog 52 t3_j8 1 fun t23 =>
 (lock loadD prog σ 9 t23 fun t24 =>
 (env 68 [t22, t24, (.nilS)] σ (fun t25 σ7 =>
 (lock storeD prog σ7 39 t2_j8 t25 fun σ8 =>
 (lock loadD prog σ8 39 t2_j8 fun r0 =>
 (retV (r0) σ8 K)))) (panV X))))))
 (lock binD prog .eql 9 t16_j8 (.pv (.str [110, 97, 109, 101])) fun t27 =>
 (condD t27
 (env 61 [(.pv (.str [91]))] σ (fun t29 σ9 =>
 (env 66 [p0_j8, t29] σ9 (fun t30 σ10 =>
 (condD t30
 (lock fieldAddrD prog 52 t3_j8 1 fun t31 =>
 ((lock loadD prog σ10 9 t31 fun t32 =>
 ((env 134 [p0_j8] σ10 (fun t34 σ14 =>
 ((env 68 [(.pv (.str [101, 108, 101, 109])), t32, t34] σ14 (fun t35 σ15 =>
 ((lock storeD prog σ15 39 t2_j8 t35 fun σ16 =>
 (lock loadD prog σ16 39 t2_j8 fun r0 =>
 (retV (r0) σ16 K))) ∧ True)) (panV X)) ∧ True)) (panV X)) ∧ True)) ∧ ((env 134 [p0_j8] σ10 (fun t34 σ11 =>
 ((lock loadD prog σ11 9 t31 fun t32 =>
 ((env 68 [(.pv (.str [101, 108, 101, 109])), t32, t34] σ11 (fun t35 σ12 =>
 ((lock storeD prog σ12 39 t2_j8 t35 fun σ13 =>
 (lock loadD prog σ13 39 t2_j8 fun r0 =>
 (retV (r0) σ13 K))) ∧ True)) (panV X)) ∧ True)) ∧ True)) (panV X)) ∧ True)))
 (lock fieldAddrD prog 52 t3_j8 1 fun t36 =>
 (lock loadD prog σ10 9 t36 fun t37 =>
 (env 68 [(.pv (.str [118, 97, 114])), t37, (.nilS)] σ10 (fun t38 σ17 =>
 (lock storeD prog σ17 39 t2_j8 t38 fun σ18 =>
 (lock loadD prog σ18 39 t2_j8 fun r0 =>
 (retV (r0) σ18 K)))) (panV X)))))) (panV X))) (panV X))
 (lock binD prog .eql 9 t16_j8 (.pv (.str [102, 117, 110, 99])) fun t40 =>
 (condD t40
 (env 62 [p0_j8, (.pv (.int .i64 1))] σ (fun t42 σ19 =>
 (lock fieldAddrD prog 52 t3_j8 1 fun t43 =>
 ((lock loadD prog σ19 9 t43 fun t44 =>
 ((env 142 [p0_j8] σ19 (fun t46 σ23 =>
 ((env 68 [(.pv (.str [99, 97, 108, 108])), t44, t46] σ23 (fun t47 σ24 =>
 ((lock storeD prog σ24 39 t2_j8 t47 fun σ25 =>
 (lock loadD prog σ25 39 t2_j8 fun r0 =>
 (retV (r0) σ25 K))) ∧ True)) (panV X)) ∧ True)) (panV X)) ∧ True)) ∧ ((env 142 [p0_j8] σ19 (fun t46 σ20 =>
 ((lock loadD prog σ20 9 t43 fun t44 =>
 ((env 68 [(.pv (.str [99, 97, 108, 108])), t44, t46] σ20 (fun t47 σ21 =>
 ((lock storeD prog σ21 39 t2_j8 t47 fun σ22 =>
 (lock loadD prog σ22 39 t2_j8 fun r0 =>
 (retV (r0) σ22 K))) ∧ True)) (panV X)) ∧ True)) ∧ True)) (panV X)) ∧ True)))) (panV X))
 (lock binD prog .eql 9 t16_j8 (.pv (.str [98, 117, 105, 108, 116])) fun t49 =>
 (condD t49
 (env 61 [(.pv (.str [40]))] σ (fun t51 σ26 =>
 (env 66 [p0_j8, t51] σ26 (fun t52 σ27 =>
 (condD t52
 (lock fieldAddrD prog 52 t3_j8 1 fun t53 =>
 ((lock loadD prog σ27 9 t53 fun t54 =>
 ((env 142 [p0_j8] σ27 (fun t56 σ31 =>
 ((env 68 [(.pv (.str [98, 117, 105, 108, 116])), t54, t56] σ31 (fun t57 σ32 =>
 ((lock storeD prog σ32 39 t2_j8 t57 fun σ33 =>
 (lock loadD prog σ33 39 t2_j8 fun r0 =>
 (retV (r0) σ33 K))) ∧ True)) (panV X)) ∧ True)) (panV X)) ∧ True)) ∧ ((env 142 [p0_j8] σ27 (fun t56 σ28 =>
 ((lock loadD prog σ28 9 t53 fun t54 =>
 ((env 68 [(.pv (.str [98, 117, 105, 108, 116])), t54, t56] σ28 (fun t57 σ29 =>
 ((lock storeD prog σ29 39 t2_j8 t57 fun σ30 =>
 (lock loadD prog σ30 39 t2_j8 fun r0 =>
 (retV (r0) σ30 K))) ∧ True)) (panV X)) ∧ True)) ∧ True)) (panV X)) ∧ True)))
 (lock fieldAddrD prog 52 t3_j8 1 fun t58 =>
 (lock loadD prog σ27 9 t58 fun t59 =>
 (lock binD prog .eql 9 t59 (.pv (.str [108, 101, 110, 103, 116, 104])) fun t60 =>
 (env 31 [t60] σ27 (fun t61 σ34 =>
 (lock fieldAddrD prog 52 t3_j8 1 fun t62 =>
 (lock loadD prog σ34 9 t62 fun t63 =>
 (env 68 [(.pv (.str [98, 117, 105, 108, 116])), t63, (.nilS)] σ34 (fun t64 σ35 =>
 (lock storeD prog σ35 39 t2_j8 t64 fun σ36 =>
 (lock loadD prog σ36 39 t2_j8 fun r0 =>
 (retV (r0) σ36 K)))) (panV X))))) (panV X))))))) (panV X))) (panV X))
 (lock loadD prog σ 52 t3_j8 fun t65 =>
 (env 61 [(.pv (.str [40]))] σ (fun t67 σ37 =>
 (lock binD prog .eql 52 t65 t67 fun t68 =>
 (condD t68
 (env 138 [p0_j8, (.pv (.bool false))] σ37 (fun t70 σ38 =>
 (env 61 [(.pv (.str [41]))] σ38 (fun t72 σ39 =>
 (env 97 [p0_j8, t72] σ39 (fun t73 σ40 =>
 (lock lenD prog 35 t70 fun t76 =>
 (lock binD prog .eql 3 t76 (.pv (.int .i64 1)) fun t77 =>
 (condD t77
 (env 68 [(.pv (.str [103, 114, 111, 117, 112])), (.pv (.str [])), t70] σ40 (fun t79 σ41 =>
 (lock storeD prog σ41 39 t2_j8 t79 fun σ42 =>
 (lock loadD prog σ42 39 t2_j8 fun r0 =>
 (retV (r0) σ42 K)))) (panV X))
 (env 67 [(.pv (.str [105, 110]))] σ40 (fun t82 σ43 =>
 (env 66 [p0_j8, t82] σ43 (fun t83 σ44 =>
 (condD t83
 (lock buildSliceD prog false σ44 27 1 1 [(0, (.pv (.str [110, 97, 109, 101])))] fun t85 σ45 =>
 (env 99 [p0_j8, t85] σ45 (fun t86 σ46 =>
 (env 68 [(.pv (.str [105, 110])), t86, t70] σ46 (fun t88 σ47 =>
 (lock storeD prog σ47 39 t2_j8 t88 fun σ48 =>
 (lock loadD prog σ48 39 t2_j8 fun r0 =>
 (retV (r0) σ48 K)))) (panV X))) (panV X)))
 (env 68 [(.pv (.str [108, 105, 115, 116])), (.pv (.str [])), t70] σ44 (fun t90 σ49 =>
 (lock storeD prog σ49 39 t2_j8 t90 fun σ50 =>
 (lock loadD prog σ50 39 t2_j8 fun r0 =>
 (retV (r0) σ50 K)))) (panV X)))) (panV X))) (panV X)))))) (panV X))) (panV X))) (panV X))
 (env 61 [(.pv (.str [36]))] σ37 (fun t92 σ51 =>
 (lock binD prog .eql 52 t65 t92 fun t93 =>
 (condD t93
 (env 139 [p0_j8] σ51 (fun t96 σ52 =>
 (lock extractD t96 0 fun t97 =>
 (lock extractD t96 1 fun t98 =>
 (lock allocD prog σ52 39 fun t5 σ53 =>
 (lock storeD prog σ53 39 t5 t97 fun σ54 =>
 (condD t98
 (lock loadD prog σ54 39 t5 fun t100 =>
 (lock buildSliceD prog false σ54 35 1 1 [(0, t100)] fun t101 σ55 =>
 (env 68 [(.pv (.str [102, 105, 101, 108, 100])), (.pv (.str [])), t101] σ55 (fun t102 σ56 =>
 (lock storeD prog σ56 39 t2_j8 t102 fun σ57 =>
 (lock loadD prog σ57 39 t2_j8 fun r0 =>
 (retV (r0) σ57 K)))) (panV X))))
 (env 140 [p0_j8] σ54 (fun t104 σ58 =>
 (lock buildSliceD prog false σ58 35 1 1 [(0, t104)] fun t105 σ59 =>
 (env 68 [(.pv (.str [102, 105, 101, 108, 100])), (.pv (.str [])), t105] σ59 (fun t106 σ60 =>
 (lock storeD prog σ60 39 t2_j8 t106 fun σ61 =>
 (lock loadD prog σ61 39 t2_j8 fun r0 =>
 (retV (r0) σ61 K)))) (panV X)))) (panV X)))))))) (panV X))
 (lock buildD prog 54 [] fun t107 =>
 (lock ifaceD prog 54 t107 fun t108 =>
 (lock panicD σ51 t108 (panV X))))))) (panV X))))) (panV X))))))))))
theorem J140_8_eq (env : Env)  (p0_j8 t2_j8 t3_j8 t16_j8 t17_j8 : AV) (σ : AS) (K : AV → AS → Prop) (X : PV → AS → Prop) : J140_8 env  p0_j8 t2_j8 t3_j8 t16_j8 t17_j8 σ K X = wpD prog env an140 (subC (bodyC f140) [1, 1, 1, 1, 0, 1, 0, 1]) (contQ prog env an140 (bodyC f140) [1, 1, 1, 1, 0, 1, 0, 1] [] (rootQ prog f140 K X)) [(0, p0_j8), (2, t2_j8), (3, t3_j8), (16, t16_j8), (17, t17_j8)] σ := by
  unfold J140_8
  kernel_rfl
def S140 (env : Env) (p0_a : AV) (σ : AS) (K : AV → AS → Prop) (X : PV → AS → Prop) : Prop :=
 (lock allocD prog σ 39 fun t2 σ1 =>
 (env 60 [p0_a, (.pv (.int .i64 0))] σ1 (fun t8 σ2 =>
 (lock allocD prog σ2 52 fun t3 σ3 =>
 (lock storeD prog σ3 52 t3 t8 fun σ4 =>
 (lock loadD prog σ4 52 t3 fun t9 =>
 (lock loadD prog σ4 52 (.glob 0) fun t10 =>
 (lock binD prog .neq 52 t9 t10 fun t11 =>
 (env 31 [t11] σ4 (fun t12 σ5 =>
 (env 62 [p0_a, (.pv (.int .i64 1))] σ5 (fun t14 σ6 =>
 (lock fieldAddrD prog 52 t3 0 fun t15 =>
 (lock loadD prog σ6 9 t15 fun t16 =>
 (lock binD prog .eql 9 t16 (.pv (.str [110, 117, 109])) fun t18 =>
 (condD t18
 (J140_8 env  (p0_a) (t2) (t3) (t16) (t18) σ6 K X)
 (lock binD prog .eql 9 t16 (.pv (.str [115, 116, 114])) fun t19 =>
 (condD t19
 (J140_8 env  (p0_a) (t2) (t3) (t16) (t19) σ6 K X)
 (lock binD prog .eql 9 t16 (.pv (.str [101, 114, 101])) fun t20 =>
 (J140_8 env  (p0_a) (t2) (t3) (t16) (t20) σ6 K X))))))))) (panV X))) (panV X)))))))) (panV X)))
theorem S140_eq (env : Env) (p0_a : AV) (σ : AS) (K : AV → AS → Prop) (X : PV → AS → Prop) : S140 env p0_a σ K X = bodyD prog env an140 f140 [p0_a] σ K X := by
  unfold S140
  kernel_rfl
theorem S140_ok : (match f140.body with | some c => okCode an140 prog f140.ntmps c | none => false) = true := by kernel_rfl
end Go.AD
