/- Bodies in the calculus' own words. Printed by gen.py, a program of this claim's own. -/
import Derived.Test.YtjgjmpophpifgaaDoorTy
import Derived.Test.YtjgjmpophpifgaaDoorAd21
set_option linter.unusedVariables false
set_option maxRecDepth 100000
namespace Go.AD
open Go.Proofs.Tryd
/-! ### tedder/syntax.Parse (function 18) -/
def an18 : An := { mu := [51], cut := [(9, [2, 3, 5, 6, 7])], loop := [(6, [2, 3, 5])], any := [9] }
noncomputable def cPa18 : Code := subC (bodyC f18) [0]
noncomputable def cPb18 : Code := subC (bodyC f18) [1, 1]
def resP18 (r2 r3 : AV) (K : AV → AS → Prop) : AS → Prop := fun σ => lock loadD prog σ 35 r2 fun x2 => lock loadD prog σ 4 r3 fun x3 => retV (.tuple [x2, x3]) σ K
def panP18 (T : TrD) (c2 c3 r2 r3 : AV) (K : AV → AS → Prop) : PV → AS → Prop := fun p σ => T [c2, c3] σ (some p) (resP18 r2 r3 K)
def J18_9 (env : Env) (T : TrD) (c2 c3 : AV) (I6 : Nat → List AV → AS → Prop) (m6 : Nat) (out2_j9 ok3_j9 p5_j9 n6_j9 open7_j9 : AV) (σ : AS) (K : AV → AS → Prop) (X : PV → AS → Prop) : Prop :=
 ((lock loadD prog σ 35 out2_j9 fun t47 =>
 (lock lenD prog 35 t47 fun t49 =>
 ((lock loadD prog σ 39 n6_j9 fun t48 =>
 ((lock buildSliceD prog false σ 35 1 1 [(0, (.agg [.pv (.str []), .pv (.str []), .nilS]))] fun t50 σ83 =>
 ((lock appendD prog true σ83 35 t47 t50 fun t51 σ84 =>
 (lock indexAddrD prog 35 t51 t49 fun t52 =>
 ((lock storeD prog σ84 39 t52 t48 fun σ91 =>
 ((lock storeD prog σ91 35 out2_j9 t51 fun σ92 =>
 (env 32 [p5_j9] σ92 (fun t54 σ93 =>
 (guardD t54 false
 (unD .not open7_j9 fun t57 =>
 (guardD t57 false
 (lock nilD p5_j9 fun t61 =>
 (lock fieldAddrD prog 59 t61 0 fun t62 =>
 (lock loadD prog σ93 47 t62 fun t63 =>
 (lock lenD prog 47 t63 fun t64 =>
 (lock binD prog .eql 3 t64 (.pv (.int .i64 0)) fun t65 =>
 (env 31 [t65] σ93 (fun t67 σ94 =>
 (∃ m', m' < m6 ∧ I6 m' [out2_j9, ok3_j9, p5_j9] σ94)) (panP18 T c2 c3 (out2_j9) (ok3_j9) K)))))))
 (env 31 [(.pv (.bool true))] σ93 (fun t67 σ95 =>
 (∃ m', m' < m6 ∧ I6 m' [out2_j9, ok3_j9, p5_j9] σ95)) (panP18 T c2 c3 (out2_j9) (ok3_j9) K))))
 (env 31 [(.pv (.bool true))] σ93 (fun t67 σ96 =>
 (∃ m', m' < m6 ∧ I6 m' [out2_j9, ok3_j9, p5_j9] σ96)) (panP18 T c2 c3 (out2_j9) (ok3_j9) K)))) (panP18 T c2 c3 (out2_j9) (ok3_j9) K))) ∧ True)) ∧ ((lock storeD prog σ84 35 out2_j9 t51 fun σ85 =>
 ((lock storeD prog σ85 39 t52 t48 fun σ86 =>
 (env 32 [p5_j9] σ86 (fun t54 σ87 =>
 (guardD t54 false
 (unD .not open7_j9 fun t57 =>
 (guardD t57 false
 (lock nilD p5_j9 fun t61 =>
 (lock fieldAddrD prog 59 t61 0 fun t62 =>
 (lock loadD prog σ87 47 t62 fun t63 =>
 (lock lenD prog 47 t63 fun t64 =>
 (lock binD prog .eql 3 t64 (.pv (.int .i64 0)) fun t65 =>
 (env 31 [t65] σ87 (fun t67 σ88 =>
 (∃ m', m' < m6 ∧ I6 m' [out2_j9, ok3_j9, p5_j9] σ88)) (panP18 T c2 c3 (out2_j9) (ok3_j9) K)))))))
 (env 31 [(.pv (.bool true))] σ87 (fun t67 σ89 =>
 (∃ m', m' < m6 ∧ I6 m' [out2_j9, ok3_j9, p5_j9] σ89)) (panP18 T c2 c3 (out2_j9) (ok3_j9) K))))
 (env 31 [(.pv (.bool true))] σ87 (fun t67 σ90 =>
 (∃ m', m' < m6 ∧ I6 m' [out2_j9, ok3_j9, p5_j9] σ90)) (panP18 T c2 c3 (out2_j9) (ok3_j9) K)))) (panP18 T c2 c3 (out2_j9) (ok3_j9) K))) ∧ True)) ∧ True)))) ∧ True)) ∧ True)) ∧ ((lock buildSliceD prog false σ 35 1 1 [(0, (.agg [.pv (.str []), .pv (.str []), .nilS]))] fun t50 σ69 =>
 ((lock loadD prog σ69 39 n6_j9 fun t48 =>
 ((lock appendD prog true σ69 35 t47 t50 fun t51 σ70 =>
 (lock indexAddrD prog 35 t51 t49 fun t52 =>
 ((lock storeD prog σ70 39 t52 t48 fun σ77 =>
 ((lock storeD prog σ77 35 out2_j9 t51 fun σ78 =>
 (env 32 [p5_j9] σ78 (fun t54 σ79 =>
 (guardD t54 false
 (unD .not open7_j9 fun t57 =>
 (guardD t57 false
 (lock nilD p5_j9 fun t61 =>
 (lock fieldAddrD prog 59 t61 0 fun t62 =>
 (lock loadD prog σ79 47 t62 fun t63 =>
 (lock lenD prog 47 t63 fun t64 =>
 (lock binD prog .eql 3 t64 (.pv (.int .i64 0)) fun t65 =>
 (env 31 [t65] σ79 (fun t67 σ80 =>
 (∃ m', m' < m6 ∧ I6 m' [out2_j9, ok3_j9, p5_j9] σ80)) (panP18 T c2 c3 (out2_j9) (ok3_j9) K)))))))
 (env 31 [(.pv (.bool true))] σ79 (fun t67 σ81 =>
 (∃ m', m' < m6 ∧ I6 m' [out2_j9, ok3_j9, p5_j9] σ81)) (panP18 T c2 c3 (out2_j9) (ok3_j9) K))))
 (env 31 [(.pv (.bool true))] σ79 (fun t67 σ82 =>
 (∃ m', m' < m6 ∧ I6 m' [out2_j9, ok3_j9, p5_j9] σ82)) (panP18 T c2 c3 (out2_j9) (ok3_j9) K)))) (panP18 T c2 c3 (out2_j9) (ok3_j9) K))) ∧ True)) ∧ ((lock storeD prog σ70 35 out2_j9 t51 fun σ71 =>
 ((lock storeD prog σ71 39 t52 t48 fun σ72 =>
 (env 32 [p5_j9] σ72 (fun t54 σ73 =>
 (guardD t54 false
 (unD .not open7_j9 fun t57 =>
 (guardD t57 false
 (lock nilD p5_j9 fun t61 =>
 (lock fieldAddrD prog 59 t61 0 fun t62 =>
 (lock loadD prog σ73 47 t62 fun t63 =>
 (lock lenD prog 47 t63 fun t64 =>
 (lock binD prog .eql 3 t64 (.pv (.int .i64 0)) fun t65 =>
 (env 31 [t65] σ73 (fun t67 σ74 =>
 (∃ m', m' < m6 ∧ I6 m' [out2_j9, ok3_j9, p5_j9] σ74)) (panP18 T c2 c3 (out2_j9) (ok3_j9) K)))))))
 (env 31 [(.pv (.bool true))] σ73 (fun t67 σ75 =>
 (∃ m', m' < m6 ∧ I6 m' [out2_j9, ok3_j9, p5_j9] σ75)) (panP18 T c2 c3 (out2_j9) (ok3_j9) K))))
 (env 31 [(.pv (.bool true))] σ73 (fun t67 σ76 =>
 (∃ m', m' < m6 ∧ I6 m' [out2_j9, ok3_j9, p5_j9] σ76)) (panP18 T c2 c3 (out2_j9) (ok3_j9) K)))) (panP18 T c2 c3 (out2_j9) (ok3_j9) K))) ∧ True)) ∧ True)))) ∧ True)) ∧ True)) ∧ True)))) ∧ ((lock loadD prog σ 39 n6_j9 fun t48 =>
 ((lock loadD prog σ 35 out2_j9 fun t47 =>
 (lock lenD prog 35 t47 fun t49 =>
 ((lock buildSliceD prog false σ 35 1 1 [(0, (.agg [.pv (.str []), .pv (.str []), .nilS]))] fun t50 σ55 =>
 ((lock appendD prog true σ55 35 t47 t50 fun t51 σ56 =>
 (lock indexAddrD prog 35 t51 t49 fun t52 =>
 ((lock storeD prog σ56 39 t52 t48 fun σ63 =>
 ((lock storeD prog σ63 35 out2_j9 t51 fun σ64 =>
 (env 32 [p5_j9] σ64 (fun t54 σ65 =>
 (guardD t54 false
 (unD .not open7_j9 fun t57 =>
 (guardD t57 false
 (lock nilD p5_j9 fun t61 =>
 (lock fieldAddrD prog 59 t61 0 fun t62 =>
 (lock loadD prog σ65 47 t62 fun t63 =>
 (lock lenD prog 47 t63 fun t64 =>
 (lock binD prog .eql 3 t64 (.pv (.int .i64 0)) fun t65 =>
 (env 31 [t65] σ65 (fun t67 σ66 =>
 (∃ m', m' < m6 ∧ I6 m' [out2_j9, ok3_j9, p5_j9] σ66)) (panP18 T c2 c3 (out2_j9) (ok3_j9) K)))))))
 (env 31 [(.pv (.bool true))] σ65 (fun t67 σ67 =>
 (∃ m', m' < m6 ∧ I6 m' [out2_j9, ok3_j9, p5_j9] σ67)) (panP18 T c2 c3 (out2_j9) (ok3_j9) K))))
 (env 31 [(.pv (.bool true))] σ65 (fun t67 σ68 =>
 (∃ m', m' < m6 ∧ I6 m' [out2_j9, ok3_j9, p5_j9] σ68)) (panP18 T c2 c3 (out2_j9) (ok3_j9) K)))) (panP18 T c2 c3 (out2_j9) (ok3_j9) K))) ∧ True)) ∧ ((lock storeD prog σ56 35 out2_j9 t51 fun σ57 =>
 ((lock storeD prog σ57 39 t52 t48 fun σ58 =>
 (env 32 [p5_j9] σ58 (fun t54 σ59 =>
 (guardD t54 false
 (unD .not open7_j9 fun t57 =>
 (guardD t57 false
 (lock nilD p5_j9 fun t61 =>
 (lock fieldAddrD prog 59 t61 0 fun t62 =>
 (lock loadD prog σ59 47 t62 fun t63 =>
 (lock lenD prog 47 t63 fun t64 =>
 (lock binD prog .eql 3 t64 (.pv (.int .i64 0)) fun t65 =>
 (env 31 [t65] σ59 (fun t67 σ60 =>
 (∃ m', m' < m6 ∧ I6 m' [out2_j9, ok3_j9, p5_j9] σ60)) (panP18 T c2 c3 (out2_j9) (ok3_j9) K)))))))
 (env 31 [(.pv (.bool true))] σ59 (fun t67 σ61 =>
 (∃ m', m' < m6 ∧ I6 m' [out2_j9, ok3_j9, p5_j9] σ61)) (panP18 T c2 c3 (out2_j9) (ok3_j9) K))))
 (env 31 [(.pv (.bool true))] σ59 (fun t67 σ62 =>
 (∃ m', m' < m6 ∧ I6 m' [out2_j9, ok3_j9, p5_j9] σ62)) (panP18 T c2 c3 (out2_j9) (ok3_j9) K)))) (panP18 T c2 c3 (out2_j9) (ok3_j9) K))) ∧ True)) ∧ True)))) ∧ True)) ∧ True))) ∧ ((lock buildSliceD prog false σ 35 1 1 [(0, (.agg [.pv (.str []), .pv (.str []), .nilS]))] fun t50 σ41 =>
 ((lock loadD prog σ41 35 out2_j9 fun t47 =>
 (lock lenD prog 35 t47 fun t49 =>
 ((lock appendD prog true σ41 35 t47 t50 fun t51 σ42 =>
 (lock indexAddrD prog 35 t51 t49 fun t52 =>
 ((lock storeD prog σ42 39 t52 t48 fun σ49 =>
 ((lock storeD prog σ49 35 out2_j9 t51 fun σ50 =>
 (env 32 [p5_j9] σ50 (fun t54 σ51 =>
 (guardD t54 false
 (unD .not open7_j9 fun t57 =>
 (guardD t57 false
 (lock nilD p5_j9 fun t61 =>
 (lock fieldAddrD prog 59 t61 0 fun t62 =>
 (lock loadD prog σ51 47 t62 fun t63 =>
 (lock lenD prog 47 t63 fun t64 =>
 (lock binD prog .eql 3 t64 (.pv (.int .i64 0)) fun t65 =>
 (env 31 [t65] σ51 (fun t67 σ52 =>
 (∃ m', m' < m6 ∧ I6 m' [out2_j9, ok3_j9, p5_j9] σ52)) (panP18 T c2 c3 (out2_j9) (ok3_j9) K)))))))
 (env 31 [(.pv (.bool true))] σ51 (fun t67 σ53 =>
 (∃ m', m' < m6 ∧ I6 m' [out2_j9, ok3_j9, p5_j9] σ53)) (panP18 T c2 c3 (out2_j9) (ok3_j9) K))))
 (env 31 [(.pv (.bool true))] σ51 (fun t67 σ54 =>
 (∃ m', m' < m6 ∧ I6 m' [out2_j9, ok3_j9, p5_j9] σ54)) (panP18 T c2 c3 (out2_j9) (ok3_j9) K)))) (panP18 T c2 c3 (out2_j9) (ok3_j9) K))) ∧ True)) ∧ ((lock storeD prog σ42 35 out2_j9 t51 fun σ43 =>
 ((lock storeD prog σ43 39 t52 t48 fun σ44 =>
 (env 32 [p5_j9] σ44 (fun t54 σ45 =>
 (guardD t54 false
 (unD .not open7_j9 fun t57 =>
 (guardD t57 false
 (lock nilD p5_j9 fun t61 =>
 (lock fieldAddrD prog 59 t61 0 fun t62 =>
 (lock loadD prog σ45 47 t62 fun t63 =>
 (lock lenD prog 47 t63 fun t64 =>
 (lock binD prog .eql 3 t64 (.pv (.int .i64 0)) fun t65 =>
 (env 31 [t65] σ45 (fun t67 σ46 =>
 (∃ m', m' < m6 ∧ I6 m' [out2_j9, ok3_j9, p5_j9] σ46)) (panP18 T c2 c3 (out2_j9) (ok3_j9) K)))))))
 (env 31 [(.pv (.bool true))] σ45 (fun t67 σ47 =>
 (∃ m', m' < m6 ∧ I6 m' [out2_j9, ok3_j9, p5_j9] σ47)) (panP18 T c2 c3 (out2_j9) (ok3_j9) K))))
 (env 31 [(.pv (.bool true))] σ45 (fun t67 σ48 =>
 (∃ m', m' < m6 ∧ I6 m' [out2_j9, ok3_j9, p5_j9] σ48)) (panP18 T c2 c3 (out2_j9) (ok3_j9) K)))) (panP18 T c2 c3 (out2_j9) (ok3_j9) K))) ∧ True)) ∧ True)))) ∧ True))) ∧ True)) ∧ True))) ∧ ((lock buildSliceD prog false σ 35 1 1 [(0, (.agg [.pv (.str []), .pv (.str []), .nilS]))] fun t50 σ14 =>
 ((lock loadD prog σ14 35 out2_j9 fun t47 =>
 (lock lenD prog 35 t47 fun t49 =>
 ((lock loadD prog σ14 39 n6_j9 fun t48 =>
 ((lock appendD prog true σ14 35 t47 t50 fun t51 σ28 =>
 (lock indexAddrD prog 35 t51 t49 fun t52 =>
 ((lock storeD prog σ28 39 t52 t48 fun σ35 =>
 ((lock storeD prog σ35 35 out2_j9 t51 fun σ36 =>
 (env 32 [p5_j9] σ36 (fun t54 σ37 =>
 (guardD t54 false
 (unD .not open7_j9 fun t57 =>
 (guardD t57 false
 (lock nilD p5_j9 fun t61 =>
 (lock fieldAddrD prog 59 t61 0 fun t62 =>
 (lock loadD prog σ37 47 t62 fun t63 =>
 (lock lenD prog 47 t63 fun t64 =>
 (lock binD prog .eql 3 t64 (.pv (.int .i64 0)) fun t65 =>
 (env 31 [t65] σ37 (fun t67 σ38 =>
 (∃ m', m' < m6 ∧ I6 m' [out2_j9, ok3_j9, p5_j9] σ38)) (panP18 T c2 c3 (out2_j9) (ok3_j9) K)))))))
 (env 31 [(.pv (.bool true))] σ37 (fun t67 σ39 =>
 (∃ m', m' < m6 ∧ I6 m' [out2_j9, ok3_j9, p5_j9] σ39)) (panP18 T c2 c3 (out2_j9) (ok3_j9) K))))
 (env 31 [(.pv (.bool true))] σ37 (fun t67 σ40 =>
 (∃ m', m' < m6 ∧ I6 m' [out2_j9, ok3_j9, p5_j9] σ40)) (panP18 T c2 c3 (out2_j9) (ok3_j9) K)))) (panP18 T c2 c3 (out2_j9) (ok3_j9) K))) ∧ True)) ∧ ((lock storeD prog σ28 35 out2_j9 t51 fun σ29 =>
 ((lock storeD prog σ29 39 t52 t48 fun σ30 =>
 (env 32 [p5_j9] σ30 (fun t54 σ31 =>
 (guardD t54 false
 (unD .not open7_j9 fun t57 =>
 (guardD t57 false
 (lock nilD p5_j9 fun t61 =>
 (lock fieldAddrD prog 59 t61 0 fun t62 =>
 (lock loadD prog σ31 47 t62 fun t63 =>
 (lock lenD prog 47 t63 fun t64 =>
 (lock binD prog .eql 3 t64 (.pv (.int .i64 0)) fun t65 =>
 (env 31 [t65] σ31 (fun t67 σ32 =>
 (∃ m', m' < m6 ∧ I6 m' [out2_j9, ok3_j9, p5_j9] σ32)) (panP18 T c2 c3 (out2_j9) (ok3_j9) K)))))))
 (env 31 [(.pv (.bool true))] σ31 (fun t67 σ33 =>
 (∃ m', m' < m6 ∧ I6 m' [out2_j9, ok3_j9, p5_j9] σ33)) (panP18 T c2 c3 (out2_j9) (ok3_j9) K))))
 (env 31 [(.pv (.bool true))] σ31 (fun t67 σ34 =>
 (∃ m', m' < m6 ∧ I6 m' [out2_j9, ok3_j9, p5_j9] σ34)) (panP18 T c2 c3 (out2_j9) (ok3_j9) K)))) (panP18 T c2 c3 (out2_j9) (ok3_j9) K))) ∧ True)) ∧ True)))) ∧ True)) ∧ True))) ∧ ((lock loadD prog σ14 39 n6_j9 fun t48 =>
 ((lock loadD prog σ14 35 out2_j9 fun t47 =>
 (lock lenD prog 35 t47 fun t49 =>
 ((lock appendD prog true σ14 35 t47 t50 fun t51 σ15 =>
 (lock indexAddrD prog 35 t51 t49 fun t52 =>
 ((lock storeD prog σ15 39 t52 t48 fun σ22 =>
 ((lock storeD prog σ22 35 out2_j9 t51 fun σ23 =>
 (env 32 [p5_j9] σ23 (fun t54 σ24 =>
 (guardD t54 false
 (unD .not open7_j9 fun t57 =>
 (guardD t57 false
 (lock nilD p5_j9 fun t61 =>
 (lock fieldAddrD prog 59 t61 0 fun t62 =>
 (lock loadD prog σ24 47 t62 fun t63 =>
 (lock lenD prog 47 t63 fun t64 =>
 (lock binD prog .eql 3 t64 (.pv (.int .i64 0)) fun t65 =>
 (env 31 [t65] σ24 (fun t67 σ25 =>
 (∃ m', m' < m6 ∧ I6 m' [out2_j9, ok3_j9, p5_j9] σ25)) (panP18 T c2 c3 (out2_j9) (ok3_j9) K)))))))
 (env 31 [(.pv (.bool true))] σ24 (fun t67 σ26 =>
 (∃ m', m' < m6 ∧ I6 m' [out2_j9, ok3_j9, p5_j9] σ26)) (panP18 T c2 c3 (out2_j9) (ok3_j9) K))))
 (env 31 [(.pv (.bool true))] σ24 (fun t67 σ27 =>
 (∃ m', m' < m6 ∧ I6 m' [out2_j9, ok3_j9, p5_j9] σ27)) (panP18 T c2 c3 (out2_j9) (ok3_j9) K)))) (panP18 T c2 c3 (out2_j9) (ok3_j9) K))) ∧ True)) ∧ ((lock storeD prog σ15 35 out2_j9 t51 fun σ16 =>
 ((lock storeD prog σ16 39 t52 t48 fun σ17 =>
 (env 32 [p5_j9] σ17 (fun t54 σ18 =>
 (guardD t54 false
 (unD .not open7_j9 fun t57 =>
 (guardD t57 false
 (lock nilD p5_j9 fun t61 =>
 (lock fieldAddrD prog 59 t61 0 fun t62 =>
 (lock loadD prog σ18 47 t62 fun t63 =>
 (lock lenD prog 47 t63 fun t64 =>
 (lock binD prog .eql 3 t64 (.pv (.int .i64 0)) fun t65 =>
 (env 31 [t65] σ18 (fun t67 σ19 =>
 (∃ m', m' < m6 ∧ I6 m' [out2_j9, ok3_j9, p5_j9] σ19)) (panP18 T c2 c3 (out2_j9) (ok3_j9) K)))))))
 (env 31 [(.pv (.bool true))] σ18 (fun t67 σ20 =>
 (∃ m', m' < m6 ∧ I6 m' [out2_j9, ok3_j9, p5_j9] σ20)) (panP18 T c2 c3 (out2_j9) (ok3_j9) K))))
 (env 31 [(.pv (.bool true))] σ18 (fun t67 σ21 =>
 (∃ m', m' < m6 ∧ I6 m' [out2_j9, ok3_j9, p5_j9] σ21)) (panP18 T c2 c3 (out2_j9) (ok3_j9) K)))) (panP18 T c2 c3 (out2_j9) (ok3_j9) K))) ∧ True)) ∧ True)))) ∧ True))) ∧ True)) ∧ True))) ∧ True)))
theorem J18_9_eq (env : Env) (T : TrD) (c2 c3 : AV) (I6 : Nat → List AV → AS → Prop) (m6 : Nat) (out2_j9 ok3_j9 p5_j9 n6_j9 open7_j9 : AV) (σ : AS) (K : AV → AS → Prop) (X : PV → AS → Prop) : J18_9 env T c2 c3 I6 m6 out2_j9 ok3_j9 p5_j9 n6_j9 open7_j9 σ K X = wpD prog env an18 (subC cPb18 [1, 1, 1, 1, 0, 0, 0, 1, 0, 1, 1]) (contQ prog env an18 cPb18 [1, 1, 1, 1, 0, 0, 0, 1, 0, 1, 1] [(I6, m6)] (doorQ prog f18 T [c2, c3] K)) [(2, out2_j9), (3, ok3_j9), (5, p5_j9), (6, n6_j9), (7, open7_j9)] σ := by
  unfold J18_9
  kernel_rfl
def L18_6 (env : Env) (T : TrD) (c2 c3 : AV) (I6 : Nat → List AV → AS → Prop) (m6 : Nat) (out2_l6 ok3_l6 p5_l6 : AV) (σ : AS) (K : AV → AS → Prop) (X : PV → AS → Prop) : Prop :=
 (lock nilD p5_l6 fun t22 =>
 (lock fieldAddrD prog 59 t22 0 fun t23 =>
 (lock loadD prog σ 47 t23 fun t24 =>
 (lock lenD prog 47 t24 fun t25 =>
 (lock binD prog .gtr 3 t25 (.pv (.int .i64 0)) fun t26 =>
 (condD t26
 (env 33 [p5_l6] σ (fun t29 σ9 =>
 (lock extractD t29 0 fun t30 =>
 (lock extractD t29 1 fun t31 =>
 (lock allocD prog σ9 39 fun t6 σ10 =>
 (lock storeD prog σ10 39 t6 t30 fun σ11 =>
 (lock loadD prog σ11 39 t6 fun t32 =>
 (lock fieldAddrD prog 39 t6 0 fun t33 =>
 (lock loadD prog σ11 9 t33 fun t34 =>
 (lock binD prog .eql 9 t34 (.pv (.str [114, 117, 108, 101])) fun t35 =>
 (guardD t35 false
 (lock fieldAddrD prog 39 t6 0 fun t37 =>
 (lock loadD prog σ11 9 t37 fun t38 =>
 (lock binD prog .eql 9 t38 (.pv (.str [114, 97, 110, 103, 101])) fun t39 =>
 (lock fieldAddrD prog 39 t6 0 fun t41 =>
 (lock loadD prog σ11 9 t41 fun t42 =>
 (lock binD prog .eql 9 t42 (.pv (.str [102, 117, 110, 99])) fun t43 =>
 (lock buildD prog 64 [(0, t39), (1, t43)] fun t44 =>
 (env 34 [t32, (.pv (.int .i64 1)), t44] σ11 (fun t45 σ12 =>
 (env 31 [t45] σ12 (fun t46 σ13 =>
 (J18_9 env T c2 c3 I6 m6 (out2_l6) (ok3_l6) (p5_l6) (t6) (t31) σ13 K X)) (panP18 T c2 c3 (out2_l6) (ok3_l6) K))) (panP18 T c2 c3 (out2_l6) (ok3_l6) K)))))))))
 (lock fieldAddrD prog 39 t6 0 fun t41 =>
 (lock loadD prog σ11 9 t41 fun t42 =>
 (lock binD prog .eql 9 t42 (.pv (.str [102, 117, 110, 99])) fun t43 =>
 (lock buildD prog 64 [(0, (.pv (.bool true))), (1, t43)] fun t44 =>
 (env 34 [t32, (.pv (.int .i64 1)), t44] σ11 (fun t45 σ97 =>
 (env 31 [t45] σ97 (fun t46 σ98 =>
 (J18_9 env T c2 c3 I6 m6 (out2_l6) (ok3_l6) (p5_l6) (t6) (t31) σ98 K X)) (panP18 T c2 c3 (out2_l6) (ok3_l6) K))) (panP18 T c2 c3 (out2_l6) (ok3_l6) K)))))))))))))))) (panP18 T c2 c3 (out2_l6) (ok3_l6) K))
 (lock loadD prog σ 35 out2_l6 fun t68 =>
 (lock storeD prog σ 35 out2_l6 t68 fun σ99 =>
 (lock storeD prog σ99 4 ok3_l6 (.pv (.bool true)) fun σ100 =>
 (T [c2, c3] σ100 none (resP18 (out2_l6) (ok3_l6) K)))))))))))
theorem L18_6_eq (env : Env) (T : TrD) (c2 c3 : AV) (I6 : Nat → List AV → AS → Prop) (m6 : Nat) (out2_l6 ok3_l6 p5_l6 : AV) (σ : AS) (K : AV → AS → Prop) (X : PV → AS → Prop) : L18_6 env T c2 c3 I6 m6 out2_l6 ok3_l6 p5_l6 σ K X = wpD prog env an18 (subC cPb18 [1, 1, 1, 1, 0, 0, 0]) (contQ prog env an18 cPb18 [1, 1, 1, 1, 0, 0, 0] [(I6, m6)] (doorQ prog f18 T [c2, c3] K)) [(2, out2_l6), (3, ok3_l6), (5, p5_l6)] σ := by
  unfold L18_6
  kernel_rfl
theorem lp18_6 {α : Type} {env : Env} {T : TrD} {c2 c3 : AV}  {out2_l6 ok3_l6 p5_l6 : AV} {σ : AS} {K : AV → AS → Prop} {X : PV → AS → Prop} (μ : α → AS → Nat) (I : α → AS → Prop) (a0 : α) (h0 : I a0 σ)
 (h : ∀ a σ, I a σ → L18_6 env T c2 c3  (Inv (fun a => [out2_l6, ok3_l6, p5_l6]) μ I) (μ a σ) out2_l6 ok3_l6 p5_l6 σ K X) :
 ∃ I6 : Nat → List AV → AS → Prop, (∃ m, I6 m [out2_l6, ok3_l6, p5_l6] σ) ∧ ∀ (m : Nat) (x0 x1 x2 : AV), ∀ σ, I6 m [x0, x1, x2] σ →
 L18_6 env T c2 c3  I6 m x0 x1 x2 σ K X := by
  refine ⟨Inv (fun a => [out2_l6, ok3_l6, p5_l6]) μ I, ⟨_, a0, rfl, rfl, h0⟩, ?_⟩
  rintro m x0 x1 x2 σ' ⟨a, hv, rfl, hI⟩
  simp only [List.cons.injEq, and_true] at hv
  obtain ⟨rfl, rfl, rfl⟩ := hv
  exact h a σ' hI
def S18 (env : Env) (T : TrD) (s0_a : AV) (σ : AS) (K : AV → AS → Prop) (X : PV → AS → Prop) : Prop :=
 (lock allocD prog σ 35 fun t2 σ1 =>
 (lock allocD prog σ1 4 fun t3 σ2 =>
 (env 27 [s0_a] σ2 (fun t11 σ3 =>
 (lock extractD t11 0 fun t12 =>
 (lock extractD t11 1 fun t13 =>
 (lock storeD prog σ3 4 t3 t13 fun σ4 =>
 (lock loadD prog σ4 4 t3 fun t14 =>
 (env 31 [t14] σ4 (fun t15 σ5 =>
 (lock buildD prog 59 [(0, t12)] fun t17 =>
 (lock boxD σ5 t17 fun t18 σ6 =>
 (env 32 [t18] σ6 (fun t20 σ7 =>
 (∃ I6 : Nat → List AV → AS → Prop, (∃ m, I6 m [t2, t3, t18] σ7) ∧ ∀ (m6 : Nat) (out2_l6 ok3_l6 p5_l6 : AV), ∀ σ8, I6 m6 [out2_l6, ok3_l6, p5_l6] σ8 →
 (L18_6 env T (t2) (t3) I6 m6 out2_l6 ok3_l6 p5_l6 σ8 K X))) (panP18 T (t2) (t3) (t2) (t3) K))))) (panP18 T (t2) (t3) (t2) (t3) K))))))) (panP18 T (t2) (t3) (t2) (t3) K))))
theorem S18_eq (env : Env) (T : TrD) (s0_a : AV) (σ : AS) (K : AV → AS → Prop) (X : PV → AS → Prop) : S18 env T s0_a σ K X = wpD prog env an18 cPa18 (midQ prog env an18 f18 T cPb18 8 [.tmp 2, .tmp 3] K) (frOf 0 [s0_a]) σ := by
  unfold S18
  simp only [L18_6_eq]
  kernel_rfl
theorem S18_ok : okCode an18 prog f18.ntmps cPa18 = true ∧ okCode an18 prog f18.ntmps cPb18 = true := ⟨by kernel_rfl, by kernel_rfl⟩
end Go.AD
