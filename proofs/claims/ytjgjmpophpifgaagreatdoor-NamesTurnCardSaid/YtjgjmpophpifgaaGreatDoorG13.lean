import Derived.Test.YtjgjmpophpifgaaGreatDoorM7
import Derived.Test.YtjgjmpophpifgaaGreatDoorM16
set_option linter.unusedVariables false
set_option maxRecDepth 100000
namespace Go.AD
open Go.Proofs.Tryz
def an12:An:={ mu:=[51],cut:=[(9,[2,3,5,6,7])],loop:=[(6,[2,3,5])],any:=[9] }
noncomputable def cPa12:Code:=subC (bodyC f12) [0]
noncomputable def cPb12:Code:=subC (bodyC f12) [1,1]
def resP12 (r2 r3:AV) (K:AV->AS->Prop):AS->Prop:=fun s=>lock loadD prog s 23 r2 fun x2=>lock loadD prog s 4 r3 fun x3=>retV (.tuple [x2,x3]) s K
def panP12 (T:TrD) (c2 c3 r2 r3:AV) (K:AV->AS->Prop):PV->AS->Prop:=fun p s=>T [c2,c3] s (some p) (resP12 r2 r3 K)
def J12_9 (env:Env) (T:TrD) (c2 c3:AV) (I6:Nat->List AV->AS->Prop) (m6:Nat) (out2_j9 ok3_j9 p5_j9 n6_j9 open7_j9:AV) (s:AS) (K:AV->AS->Prop) (X:PV->AS->Prop):Prop :=
 ((lock loadD prog s 23 out2_j9 fun t47 =>
 (lock lenD prog 23 t47 fun t49 =>
 ((lock loadD prog s 50 n6_j9 fun t48 =>
 ((lock buildSliceD prog false s 23 1 1 [(0,(.agg [.pv (.str []),.pv (.str []),.nilS]))] fun t50 s83 =>
 ((lock appendD prog true s83 23 t47 t50 fun t51 s84 =>
 (lock indexAddrD prog 23 t51 t49 fun t52 =>
 ((lock storeD prog s84 50 t52 t48 fun s91 =>
 ((lock storeD prog s91 23 out2_j9 t51 fun s92 =>
 (env 36 [p5_j9] s92 (fun t54 s93 =>
 (guardD t54 false
 (unD .not open7_j9 fun t57 =>
 (guardD t57 false
 (lock nilD p5_j9 fun t61 =>
 (lock fieldAddrD prog 85 t61 0 fun t62 =>
 (lock loadD prog s93 42 t62 fun t63 =>
 (lock lenD prog 42 t63 fun t64 =>
 (lock binD prog .eql 3 t64 (.pv (.int .i64 0)) fun t65 =>
 (env 35 [t65] s93 (fun t67 s94 =>
 (∃ m',m' < m6/\I6 m' [out2_j9,ok3_j9,p5_j9] s94)) (panP12 T c2 c3 (out2_j9) (ok3_j9) K)))))))
 (env 35 [(.pv (.bool true))] s93 (fun t67 s95 =>
 (∃ m',m' < m6/\I6 m' [out2_j9,ok3_j9,p5_j9] s95)) (panP12 T c2 c3 (out2_j9) (ok3_j9) K))))
 (env 35 [(.pv (.bool true))] s93 (fun t67 s96 =>
 (∃ m',m' < m6/\I6 m' [out2_j9,ok3_j9,p5_j9] s96)) (panP12 T c2 c3 (out2_j9) (ok3_j9) K)))) (panP12 T c2 c3 (out2_j9) (ok3_j9) K)))/\True))/\((lock storeD prog s84 23 out2_j9 t51 fun s85 =>
 ((lock storeD prog s85 50 t52 t48 fun s86 =>
 (env 36 [p5_j9] s86 (fun t54 s87 =>
 (guardD t54 false
 (unD .not open7_j9 fun t57 =>
 (guardD t57 false
 (lock nilD p5_j9 fun t61 =>
 (lock fieldAddrD prog 85 t61 0 fun t62 =>
 (lock loadD prog s87 42 t62 fun t63 =>
 (lock lenD prog 42 t63 fun t64 =>
 (lock binD prog .eql 3 t64 (.pv (.int .i64 0)) fun t65 =>
 (env 35 [t65] s87 (fun t67 s88 =>
 (∃ m',m' < m6/\I6 m' [out2_j9,ok3_j9,p5_j9] s88)) (panP12 T c2 c3 (out2_j9) (ok3_j9) K)))))))
 (env 35 [(.pv (.bool true))] s87 (fun t67 s89 =>
 (∃ m',m' < m6/\I6 m' [out2_j9,ok3_j9,p5_j9] s89)) (panP12 T c2 c3 (out2_j9) (ok3_j9) K))))
 (env 35 [(.pv (.bool true))] s87 (fun t67 s90 =>
 (∃ m',m' < m6/\I6 m' [out2_j9,ok3_j9,p5_j9] s90)) (panP12 T c2 c3 (out2_j9) (ok3_j9) K)))) (panP12 T c2 c3 (out2_j9) (ok3_j9) K)))/\True))/\True))))/\True))/\True))/\((lock buildSliceD prog false s 23 1 1 [(0,(.agg [.pv (.str []),.pv (.str []),.nilS]))] fun t50 s69 =>
 ((lock loadD prog s69 50 n6_j9 fun t48 =>
 ((lock appendD prog true s69 23 t47 t50 fun t51 s70 =>
 (lock indexAddrD prog 23 t51 t49 fun t52 =>
 ((lock storeD prog s70 50 t52 t48 fun s77 =>
 ((lock storeD prog s77 23 out2_j9 t51 fun s78 =>
 (env 36 [p5_j9] s78 (fun t54 s79 =>
 (guardD t54 false
 (unD .not open7_j9 fun t57 =>
 (guardD t57 false
 (lock nilD p5_j9 fun t61 =>
 (lock fieldAddrD prog 85 t61 0 fun t62 =>
 (lock loadD prog s79 42 t62 fun t63 =>
 (lock lenD prog 42 t63 fun t64 =>
 (lock binD prog .eql 3 t64 (.pv (.int .i64 0)) fun t65 =>
 (env 35 [t65] s79 (fun t67 s80 =>
 (∃ m',m' < m6/\I6 m' [out2_j9,ok3_j9,p5_j9] s80)) (panP12 T c2 c3 (out2_j9) (ok3_j9) K)))))))
 (env 35 [(.pv (.bool true))] s79 (fun t67 s81 =>
 (∃ m',m' < m6/\I6 m' [out2_j9,ok3_j9,p5_j9] s81)) (panP12 T c2 c3 (out2_j9) (ok3_j9) K))))
 (env 35 [(.pv (.bool true))] s79 (fun t67 s82 =>
 (∃ m',m' < m6/\I6 m' [out2_j9,ok3_j9,p5_j9] s82)) (panP12 T c2 c3 (out2_j9) (ok3_j9) K)))) (panP12 T c2 c3 (out2_j9) (ok3_j9) K)))/\True))/\((lock storeD prog s70 23 out2_j9 t51 fun s71 =>
 ((lock storeD prog s71 50 t52 t48 fun s72 =>
 (env 36 [p5_j9] s72 (fun t54 s73 =>
 (guardD t54 false
 (unD .not open7_j9 fun t57 =>
 (guardD t57 false
 (lock nilD p5_j9 fun t61 =>
 (lock fieldAddrD prog 85 t61 0 fun t62 =>
 (lock loadD prog s73 42 t62 fun t63 =>
 (lock lenD prog 42 t63 fun t64 =>
 (lock binD prog .eql 3 t64 (.pv (.int .i64 0)) fun t65 =>
 (env 35 [t65] s73 (fun t67 s74 =>
 (∃ m',m' < m6/\I6 m' [out2_j9,ok3_j9,p5_j9] s74)) (panP12 T c2 c3 (out2_j9) (ok3_j9) K)))))))
 (env 35 [(.pv (.bool true))] s73 (fun t67 s75 =>
 (∃ m',m' < m6/\I6 m' [out2_j9,ok3_j9,p5_j9] s75)) (panP12 T c2 c3 (out2_j9) (ok3_j9) K))))
 (env 35 [(.pv (.bool true))] s73 (fun t67 s76 =>
 (∃ m',m' < m6/\I6 m' [out2_j9,ok3_j9,p5_j9] s76)) (panP12 T c2 c3 (out2_j9) (ok3_j9) K)))) (panP12 T c2 c3 (out2_j9) (ok3_j9) K)))/\True))/\True))))/\True))/\True))/\True))))/\((lock loadD prog s 50 n6_j9 fun t48 =>
 ((lock loadD prog s 23 out2_j9 fun t47 =>
 (lock lenD prog 23 t47 fun t49 =>
 ((lock buildSliceD prog false s 23 1 1 [(0,(.agg [.pv (.str []),.pv (.str []),.nilS]))] fun t50 s55 =>
 ((lock appendD prog true s55 23 t47 t50 fun t51 s56 =>
 (lock indexAddrD prog 23 t51 t49 fun t52 =>
 ((lock storeD prog s56 50 t52 t48 fun s63 =>
 ((lock storeD prog s63 23 out2_j9 t51 fun s64 =>
 (env 36 [p5_j9] s64 (fun t54 s65 =>
 (guardD t54 false
 (unD .not open7_j9 fun t57 =>
 (guardD t57 false
 (lock nilD p5_j9 fun t61 =>
 (lock fieldAddrD prog 85 t61 0 fun t62 =>
 (lock loadD prog s65 42 t62 fun t63 =>
 (lock lenD prog 42 t63 fun t64 =>
 (lock binD prog .eql 3 t64 (.pv (.int .i64 0)) fun t65 =>
 (env 35 [t65] s65 (fun t67 s66 =>
 (∃ m',m' < m6/\I6 m' [out2_j9,ok3_j9,p5_j9] s66)) (panP12 T c2 c3 (out2_j9) (ok3_j9) K)))))))
 (env 35 [(.pv (.bool true))] s65 (fun t67 s67 =>
 (∃ m',m' < m6/\I6 m' [out2_j9,ok3_j9,p5_j9] s67)) (panP12 T c2 c3 (out2_j9) (ok3_j9) K))))
 (env 35 [(.pv (.bool true))] s65 (fun t67 s68 =>
 (∃ m',m' < m6/\I6 m' [out2_j9,ok3_j9,p5_j9] s68)) (panP12 T c2 c3 (out2_j9) (ok3_j9) K)))) (panP12 T c2 c3 (out2_j9) (ok3_j9) K)))/\True))/\((lock storeD prog s56 23 out2_j9 t51 fun s57 =>
 ((lock storeD prog s57 50 t52 t48 fun s58 =>
 (env 36 [p5_j9] s58 (fun t54 s59 =>
 (guardD t54 false
 (unD .not open7_j9 fun t57 =>
 (guardD t57 false
 (lock nilD p5_j9 fun t61 =>
 (lock fieldAddrD prog 85 t61 0 fun t62 =>
 (lock loadD prog s59 42 t62 fun t63 =>
 (lock lenD prog 42 t63 fun t64 =>
 (lock binD prog .eql 3 t64 (.pv (.int .i64 0)) fun t65 =>
 (env 35 [t65] s59 (fun t67 s60 =>
 (∃ m',m' < m6/\I6 m' [out2_j9,ok3_j9,p5_j9] s60)) (panP12 T c2 c3 (out2_j9) (ok3_j9) K)))))))
 (env 35 [(.pv (.bool true))] s59 (fun t67 s61 =>
 (∃ m',m' < m6/\I6 m' [out2_j9,ok3_j9,p5_j9] s61)) (panP12 T c2 c3 (out2_j9) (ok3_j9) K))))
 (env 35 [(.pv (.bool true))] s59 (fun t67 s62 =>
 (∃ m',m' < m6/\I6 m' [out2_j9,ok3_j9,p5_j9] s62)) (panP12 T c2 c3 (out2_j9) (ok3_j9) K)))) (panP12 T c2 c3 (out2_j9) (ok3_j9) K)))/\True))/\True))))/\True))/\True)))/\((lock buildSliceD prog false s 23 1 1 [(0,(.agg [.pv (.str []),.pv (.str []),.nilS]))] fun t50 s41 =>
 ((lock loadD prog s41 23 out2_j9 fun t47 =>
 (lock lenD prog 23 t47 fun t49 =>
 ((lock appendD prog true s41 23 t47 t50 fun t51 s42 =>
 (lock indexAddrD prog 23 t51 t49 fun t52 =>
 ((lock storeD prog s42 50 t52 t48 fun s49 =>
 ((lock storeD prog s49 23 out2_j9 t51 fun s50 =>
 (env 36 [p5_j9] s50 (fun t54 s51 =>
 (guardD t54 false
 (unD .not open7_j9 fun t57 =>
 (guardD t57 false
 (lock nilD p5_j9 fun t61 =>
 (lock fieldAddrD prog 85 t61 0 fun t62 =>
 (lock loadD prog s51 42 t62 fun t63 =>
 (lock lenD prog 42 t63 fun t64 =>
 (lock binD prog .eql 3 t64 (.pv (.int .i64 0)) fun t65 =>
 (env 35 [t65] s51 (fun t67 s52 =>
 (∃ m',m' < m6/\I6 m' [out2_j9,ok3_j9,p5_j9] s52)) (panP12 T c2 c3 (out2_j9) (ok3_j9) K)))))))
 (env 35 [(.pv (.bool true))] s51 (fun t67 s53 =>
 (∃ m',m' < m6/\I6 m' [out2_j9,ok3_j9,p5_j9] s53)) (panP12 T c2 c3 (out2_j9) (ok3_j9) K))))
 (env 35 [(.pv (.bool true))] s51 (fun t67 s54 =>
 (∃ m',m' < m6/\I6 m' [out2_j9,ok3_j9,p5_j9] s54)) (panP12 T c2 c3 (out2_j9) (ok3_j9) K)))) (panP12 T c2 c3 (out2_j9) (ok3_j9) K)))/\True))/\((lock storeD prog s42 23 out2_j9 t51 fun s43 =>
 ((lock storeD prog s43 50 t52 t48 fun s44 =>
 (env 36 [p5_j9] s44 (fun t54 s45 =>
 (guardD t54 false
 (unD .not open7_j9 fun t57 =>
 (guardD t57 false
 (lock nilD p5_j9 fun t61 =>
 (lock fieldAddrD prog 85 t61 0 fun t62 =>
 (lock loadD prog s45 42 t62 fun t63 =>
 (lock lenD prog 42 t63 fun t64 =>
 (lock binD prog .eql 3 t64 (.pv (.int .i64 0)) fun t65 =>
 (env 35 [t65] s45 (fun t67 s46 =>
 (∃ m',m' < m6/\I6 m' [out2_j9,ok3_j9,p5_j9] s46)) (panP12 T c2 c3 (out2_j9) (ok3_j9) K)))))))
 (env 35 [(.pv (.bool true))] s45 (fun t67 s47 =>
 (∃ m',m' < m6/\I6 m' [out2_j9,ok3_j9,p5_j9] s47)) (panP12 T c2 c3 (out2_j9) (ok3_j9) K))))
 (env 35 [(.pv (.bool true))] s45 (fun t67 s48 =>
 (∃ m',m' < m6/\I6 m' [out2_j9,ok3_j9,p5_j9] s48)) (panP12 T c2 c3 (out2_j9) (ok3_j9) K)))) (panP12 T c2 c3 (out2_j9) (ok3_j9) K)))/\True))/\True))))/\True)))/\True))/\True)))/\((lock buildSliceD prog false s 23 1 1 [(0,(.agg [.pv (.str []),.pv (.str []),.nilS]))] fun t50 s14 =>
 ((lock loadD prog s14 23 out2_j9 fun t47 =>
 (lock lenD prog 23 t47 fun t49 =>
 ((lock loadD prog s14 50 n6_j9 fun t48 =>
 ((lock appendD prog true s14 23 t47 t50 fun t51 s28 =>
 (lock indexAddrD prog 23 t51 t49 fun t52 =>
 ((lock storeD prog s28 50 t52 t48 fun s35 =>
 ((lock storeD prog s35 23 out2_j9 t51 fun s36 =>
 (env 36 [p5_j9] s36 (fun t54 s37 =>
 (guardD t54 false
 (unD .not open7_j9 fun t57 =>
 (guardD t57 false
 (lock nilD p5_j9 fun t61 =>
 (lock fieldAddrD prog 85 t61 0 fun t62 =>
 (lock loadD prog s37 42 t62 fun t63 =>
 (lock lenD prog 42 t63 fun t64 =>
 (lock binD prog .eql 3 t64 (.pv (.int .i64 0)) fun t65 =>
 (env 35 [t65] s37 (fun t67 s38 =>
 (∃ m',m' < m6/\I6 m' [out2_j9,ok3_j9,p5_j9] s38)) (panP12 T c2 c3 (out2_j9) (ok3_j9) K)))))))
 (env 35 [(.pv (.bool true))] s37 (fun t67 s39 =>
 (∃ m',m' < m6/\I6 m' [out2_j9,ok3_j9,p5_j9] s39)) (panP12 T c2 c3 (out2_j9) (ok3_j9) K))))
 (env 35 [(.pv (.bool true))] s37 (fun t67 s40 =>
 (∃ m',m' < m6/\I6 m' [out2_j9,ok3_j9,p5_j9] s40)) (panP12 T c2 c3 (out2_j9) (ok3_j9) K)))) (panP12 T c2 c3 (out2_j9) (ok3_j9) K)))/\True))/\((lock storeD prog s28 23 out2_j9 t51 fun s29 =>
 ((lock storeD prog s29 50 t52 t48 fun s30 =>
 (env 36 [p5_j9] s30 (fun t54 s31 =>
 (guardD t54 false
 (unD .not open7_j9 fun t57 =>
 (guardD t57 false
 (lock nilD p5_j9 fun t61 =>
 (lock fieldAddrD prog 85 t61 0 fun t62 =>
 (lock loadD prog s31 42 t62 fun t63 =>
 (lock lenD prog 42 t63 fun t64 =>
 (lock binD prog .eql 3 t64 (.pv (.int .i64 0)) fun t65 =>
 (env 35 [t65] s31 (fun t67 s32 =>
 (∃ m',m' < m6/\I6 m' [out2_j9,ok3_j9,p5_j9] s32)) (panP12 T c2 c3 (out2_j9) (ok3_j9) K)))))))
 (env 35 [(.pv (.bool true))] s31 (fun t67 s33 =>
 (∃ m',m' < m6/\I6 m' [out2_j9,ok3_j9,p5_j9] s33)) (panP12 T c2 c3 (out2_j9) (ok3_j9) K))))
 (env 35 [(.pv (.bool true))] s31 (fun t67 s34 =>
 (∃ m',m' < m6/\I6 m' [out2_j9,ok3_j9,p5_j9] s34)) (panP12 T c2 c3 (out2_j9) (ok3_j9) K)))) (panP12 T c2 c3 (out2_j9) (ok3_j9) K)))/\True))/\True))))/\True))/\True)))/\((lock loadD prog s14 50 n6_j9 fun t48 =>
 ((lock loadD prog s14 23 out2_j9 fun t47 =>
 (lock lenD prog 23 t47 fun t49 =>
 ((lock appendD prog true s14 23 t47 t50 fun t51 s15 =>
 (lock indexAddrD prog 23 t51 t49 fun t52 =>
 ((lock storeD prog s15 50 t52 t48 fun s22 =>
 ((lock storeD prog s22 23 out2_j9 t51 fun s23 =>
 (env 36 [p5_j9] s23 (fun t54 s24 =>
 (guardD t54 false
 (unD .not open7_j9 fun t57 =>
 (guardD t57 false
 (lock nilD p5_j9 fun t61 =>
 (lock fieldAddrD prog 85 t61 0 fun t62 =>
 (lock loadD prog s24 42 t62 fun t63 =>
 (lock lenD prog 42 t63 fun t64 =>
 (lock binD prog .eql 3 t64 (.pv (.int .i64 0)) fun t65 =>
 (env 35 [t65] s24 (fun t67 s25 =>
 (∃ m',m' < m6/\I6 m' [out2_j9,ok3_j9,p5_j9] s25)) (panP12 T c2 c3 (out2_j9) (ok3_j9) K)))))))
 (env 35 [(.pv (.bool true))] s24 (fun t67 s26 =>
 (∃ m',m' < m6/\I6 m' [out2_j9,ok3_j9,p5_j9] s26)) (panP12 T c2 c3 (out2_j9) (ok3_j9) K))))
 (env 35 [(.pv (.bool true))] s24 (fun t67 s27 =>
 (∃ m',m' < m6/\I6 m' [out2_j9,ok3_j9,p5_j9] s27)) (panP12 T c2 c3 (out2_j9) (ok3_j9) K)))) (panP12 T c2 c3 (out2_j9) (ok3_j9) K)))/\True))/\((lock storeD prog s15 23 out2_j9 t51 fun s16 =>
 ((lock storeD prog s16 50 t52 t48 fun s17 =>
 (env 36 [p5_j9] s17 (fun t54 s18 =>
 (guardD t54 false
 (unD .not open7_j9 fun t57 =>
 (guardD t57 false
 (lock nilD p5_j9 fun t61 =>
 (lock fieldAddrD prog 85 t61 0 fun t62 =>
 (lock loadD prog s18 42 t62 fun t63 =>
 (lock lenD prog 42 t63 fun t64 =>
 (lock binD prog .eql 3 t64 (.pv (.int .i64 0)) fun t65 =>
 (env 35 [t65] s18 (fun t67 s19 =>
 (∃ m',m' < m6/\I6 m' [out2_j9,ok3_j9,p5_j9] s19)) (panP12 T c2 c3 (out2_j9) (ok3_j9) K)))))))
 (env 35 [(.pv (.bool true))] s18 (fun t67 s20 =>
 (∃ m',m' < m6/\I6 m' [out2_j9,ok3_j9,p5_j9] s20)) (panP12 T c2 c3 (out2_j9) (ok3_j9) K))))
 (env 35 [(.pv (.bool true))] s18 (fun t67 s21 =>
 (∃ m',m' < m6/\I6 m' [out2_j9,ok3_j9,p5_j9] s21)) (panP12 T c2 c3 (out2_j9) (ok3_j9) K)))) (panP12 T c2 c3 (out2_j9) (ok3_j9) K)))/\True))/\True))))/\True)))/\True))/\True)))/\True)))
def L12_6 (env:Env) (T:TrD) (c2 c3:AV) (I6:Nat->List AV->AS->Prop) (m6:Nat) (out2_l6 ok3_l6 p5_l6:AV) (s:AS) (K:AV->AS->Prop) (X:PV->AS->Prop):Prop :=
 (lock nilD p5_l6 fun t22 =>
 (lock fieldAddrD prog 85 t22 0 fun t23 =>
 (lock loadD prog s 42 t23 fun t24 =>
 (lock lenD prog 42 t24 fun t25 =>
 (lock binD prog .gtr 3 t25 (.pv (.int .i64 0)) fun t26 =>
 (condD t26
 (env 37 [p5_l6] s (fun t29 s9 =>
 (lock extractD t29 0 fun t30 =>
 (lock extractD t29 1 fun t31 =>
 (lock allocD prog s9 50 fun t6 s10 =>
 (lock storeD prog s10 50 t6 t30 fun s11 =>
 (lock loadD prog s11 50 t6 fun t32 =>
 (lock fieldAddrD prog 50 t6 0 fun t33 =>
 (lock loadD prog s11 9 t33 fun t34 =>
 (lock binD prog .eql 9 t34 (.pv (.str [114,117,108,101])) fun t35 =>
 (guardD t35 false
 (lock fieldAddrD prog 50 t6 0 fun t37 =>
 (lock loadD prog s11 9 t37 fun t38 =>
 (lock binD prog .eql 9 t38 (.pv (.str [114,97,110,103,101])) fun t39 =>
 (lock fieldAddrD prog 50 t6 0 fun t41 =>
 (lock loadD prog s11 9 t41 fun t42 =>
 (lock binD prog .eql 9 t42 (.pv (.str [102,117,110,99])) fun t43 =>
 (lock buildD prog 89 [(0,t39),(1,t43)] fun t44 =>
 (env 38 [t32,(.pv (.int .i64 1)),t44] s11 (fun t45 s12 =>
 (env 35 [t45] s12 (fun t46 s13 =>
 (J12_9 env T c2 c3 I6 m6 (out2_l6) (ok3_l6) (p5_l6) (t6) (t31) s13 K X)) (panP12 T c2 c3 (out2_l6) (ok3_l6) K))) (panP12 T c2 c3 (out2_l6) (ok3_l6) K)))))))))
 (lock fieldAddrD prog 50 t6 0 fun t41 =>
 (lock loadD prog s11 9 t41 fun t42 =>
 (lock binD prog .eql 9 t42 (.pv (.str [102,117,110,99])) fun t43 =>
 (lock buildD prog 89 [(0,(.pv (.bool true))),(1,t43)] fun t44 =>
 (env 38 [t32,(.pv (.int .i64 1)),t44] s11 (fun t45 s97 =>
 (env 35 [t45] s97 (fun t46 s98 =>
 (J12_9 env T c2 c3 I6 m6 (out2_l6) (ok3_l6) (p5_l6) (t6) (t31) s98 K X)) (panP12 T c2 c3 (out2_l6) (ok3_l6) K))) (panP12 T c2 c3 (out2_l6) (ok3_l6) K)))))))))))))))) (panP12 T c2 c3 (out2_l6) (ok3_l6) K))
 (lock loadD prog s 23 out2_l6 fun t68 =>
 (lock storeD prog s 23 out2_l6 t68 fun s99 =>
 (lock storeD prog s99 4 ok3_l6 (.pv (.bool true)) fun s100 =>
 (T [c2,c3] s100 none (resP12 (out2_l6) (ok3_l6) K)))))))))))
theorem L12_6_eq (env:Env) (T:TrD) (c2 c3:AV) (I6:Nat->List AV->AS->Prop) (m6:Nat) (out2_l6 ok3_l6 p5_l6:AV) (s:AS) (K:AV->AS->Prop) (X:PV->AS->Prop):L12_6 env T c2 c3 I6 m6 out2_l6 ok3_l6 p5_l6 s K X=wpD prog env an12 (subC cPb12 [1,1,1,1,0,0,0]) (contQ prog env an12 cPb12 [1,1,1,1,0,0,0] [(I6,m6)] (doorQ prog f12 T [c2,c3] K)) [(2,out2_l6),(3,ok3_l6),(5,p5_l6)] s:=by
  unfold L12_6
  kernel_rfl
theorem lp12_6 {α:Type} {env:Env} {T:TrD} {c2 c3:AV}  {out2_l6 ok3_l6 p5_l6:AV} {s:AS} {K:AV->AS->Prop} {X:PV->AS->Prop} (μ:α->AS->Nat) (I:α->AS->Prop) (a0:α) (h0:I a0 s)
 (h:∀ a s,I a s->L12_6 env T c2 c3  (Inv (fun a=>[out2_l6,ok3_l6,p5_l6]) μ I) (μ a s) out2_l6 ok3_l6 p5_l6 s K X) :
 ∃ I6:Nat->List AV->AS->Prop,(∃ m,I6 m [out2_l6,ok3_l6,p5_l6] s)/\∀ (m:Nat) (x0 x1 x2:AV),∀ s,I6 m [x0,x1,x2] s ->
 L12_6 env T c2 c3  I6 m x0 x1 x2 s K X:=by
  refine ⟨Inv (fun a=>[out2_l6,ok3_l6,p5_l6]) μ I,⟨_,a0,rfl,rfl,h0⟩,?_⟩
  rintro m x0 x1 x2 s' ⟨a,hv,rfl,hI⟩
  simp only [List.cons.injEq,and_true] at hv
  obtain ⟨rfl,rfl,rfl⟩:=hv
  exact h a s' hI
def S12 (env:Env) (T:TrD) (s0_a:AV) (s:AS) (K:AV->AS->Prop) (X:PV->AS->Prop):Prop :=
 (lock allocD prog s 23 fun t2 s1 =>
 (lock allocD prog s1 4 fun t3 s2 =>
 (env 34 [s0_a] s2 (fun t11 s3 =>
 (lock extractD t11 0 fun t12 =>
 (lock extractD t11 1 fun t13 =>
 (lock storeD prog s3 4 t3 t13 fun s4 =>
 (lock loadD prog s4 4 t3 fun t14 =>
 (env 35 [t14] s4 (fun t15 s5 =>
 (lock buildD prog 85 [(0,t12)] fun t17 =>
 (lock boxD s5 t17 fun t18 s6 =>
 (env 36 [t18] s6 (fun t20 s7 =>
 (∃ I6:Nat->List AV->AS->Prop,(∃ m,I6 m [t2,t3,t18] s7)/\∀ (m6:Nat) (out2_l6 ok3_l6 p5_l6:AV),∀ s8,I6 m6 [out2_l6,ok3_l6,p5_l6] s8 ->
 (L12_6 env T (t2) (t3) I6 m6 out2_l6 ok3_l6 p5_l6 s8 K X))) (panP12 T (t2) (t3) (t2) (t3) K))))) (panP12 T (t2) (t3) (t2) (t3) K))))))) (panP12 T (t2) (t3) (t2) (t3) K))))
theorem S12_eq (env:Env) (T:TrD) (s0_a:AV) (s:AS) (K:AV->AS->Prop) (X:PV->AS->Prop):S12 env T s0_a s K X=wpD prog env an12 cPa12 (midQ prog env an12 f12 T cPb12 8 [.tmp 2,.tmp 3] K) (frOf 0 [s0_a]) s:=by
  unfold S12
  simp only [L12_6_eq]
  kernel_rfl
theorem S12_ok:okCode an12 prog f12.ntmps cPa12=true/\okCode an12 prog f12.ntmps cPb12=true:=⟨by kernel_rfl,by kernel_rfl⟩
end Go.AD
