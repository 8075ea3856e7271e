import Derived.Test.YtjgjmpophpifgaaGreatDoorM7
set_option linter.unusedVariables false
set_option maxRecDepth 100000
namespace Go.AD
open Go.Proofs.Tryz
def an84:An:={ mu:=[],cut:=[(6,[0,1,2,6,7,9]),(9,[0,1,2,6,7,9,10]),(12,[0,1,2,6,7,9,10]),(26,[0,1,2,6,7,9])],loop:=[(3,[0,1,2,6,7,8])],any:=[12,15,21,23,25] }
def J84_26 (env:Env) (I3:Nat->List AV->AS->Prop) (m3:Nat) (p0_j26 least1_j26 printing2_j26 t6_j26 left7_j26 k9_j26:AV) (s:AS) (K:AV->AS->Prop) (X:PV->AS->Prop):Prop :=
 (lock binD prog .eql 3 k9_j26 (.pv (.int .i64 7)) fun t101 =>
 (condD t101
 (∃ m',m' < m3/\I3 m' [p0_j26,least1_j26,printing2_j26,t6_j26,left7_j26,(.pv (.int .i64 6))] s)
 (∃ m',m' < m3/\I3 m' [p0_j26,least1_j26,printing2_j26,t6_j26,left7_j26,k9_j26] s)))
def J84_12 (env:Env) (I3:Nat->List AV->AS->Prop) (m3:Nat) (p0_j12 least1_j12 printing2_j12 t6_j12 left7_j12 k9_j12 t10_j12:AV) (s:AS) (K:AV->AS->Prop) (X:PV->AS->Prop):Prop :=
 (lock fieldAddrD prog 53 t10_j12 1 fun t41 =>
 (lock binD prog .add 3 k9_j12 (.pv (.int .i64 1)) fun t46 =>
 ((lock loadD prog s 9 t41 fun t42 =>
 ((lock loadD prog s 50 left7_j12 fun t43 =>
 ((env 84 [p0_j12,t46,printing2_j12] s (fun t48 s134 =>
 ((lock buildSliceD prog false s134 23 2 2 [(0,t43),(1,t48)] fun t49 s135 =>
 ((env 82 [(.pv (.str [98,105,110])),t42,t49] s135 (fun t50 s136 =>
 ((lock storeD prog s136 50 left7_j12 t50 fun s137 =>
 (J84_26 env I3 m3 (p0_j12) (least1_j12) (printing2_j12) (t6_j12) (left7_j12) (k9_j12) s137 K X))/\True)) (panV X))/\True))/\True)) (panV X))/\True))/\((env 84 [p0_j12,t46,printing2_j12] s (fun t48 s130 =>
 ((lock loadD prog s130 50 left7_j12 fun t43 =>
 ((lock buildSliceD prog false s130 23 2 2 [(0,t43),(1,t48)] fun t49 s131 =>
 ((env 82 [(.pv (.str [98,105,110])),t42,t49] s131 (fun t50 s132 =>
 ((lock storeD prog s132 50 left7_j12 t50 fun s133 =>
 (J84_26 env I3 m3 (p0_j12) (least1_j12) (printing2_j12) (t6_j12) (left7_j12) (k9_j12) s133 K X))/\True)) (panV X))/\True))/\True))/\True)) (panV X))/\True)))/\((lock loadD prog s 50 left7_j12 fun t43 =>
 ((lock loadD prog s 9 t41 fun t42 =>
 ((env 84 [p0_j12,t46,printing2_j12] s (fun t48 s126 =>
 ((lock buildSliceD prog false s126 23 2 2 [(0,t43),(1,t48)] fun t49 s127 =>
 ((env 82 [(.pv (.str [98,105,110])),t42,t49] s127 (fun t50 s128 =>
 ((lock storeD prog s128 50 left7_j12 t50 fun s129 =>
 (J84_26 env I3 m3 (p0_j12) (least1_j12) (printing2_j12) (t6_j12) (left7_j12) (k9_j12) s129 K X))/\True)) (panV X))/\True))/\True)) (panV X))/\True))/\((env 84 [p0_j12,t46,printing2_j12] s (fun t48 s119 =>
 ((lock loadD prog s119 9 t41 fun t42 =>
 ((lock buildSliceD prog false s119 23 2 2 [(0,t43),(1,t48)] fun t49 s123 =>
 ((env 82 [(.pv (.str [98,105,110])),t42,t49] s123 (fun t50 s124 =>
 ((lock storeD prog s124 50 left7_j12 t50 fun s125 =>
 (J84_26 env I3 m3 (p0_j12) (least1_j12) (printing2_j12) (t6_j12) (left7_j12) (k9_j12) s125 K X))/\True)) (panV X))/\True))/\True))/\((lock buildSliceD prog false s119 23 2 2 [(0,t43),(1,t48)] fun t49 s120 =>
 ((lock loadD prog s120 9 t41 fun t42 =>
 ((env 82 [(.pv (.str [98,105,110])),t42,t49] s120 (fun t50 s121 =>
 ((lock storeD prog s121 50 left7_j12 t50 fun s122 =>
 (J84_26 env I3 m3 (p0_j12) (least1_j12) (printing2_j12) (t6_j12) (left7_j12) (k9_j12) s122 K X))/\True)) (panV X))/\True))/\True))/\True))) (panV X))/\True)))/\((env 84 [p0_j12,t46,printing2_j12] s (fun t48 s109 =>
 ((lock loadD prog s109 9 t41 fun t42 =>
 ((lock loadD prog s109 50 left7_j12 fun t43 =>
 ((lock buildSliceD prog false s109 23 2 2 [(0,t43),(1,t48)] fun t49 s116 =>
 ((env 82 [(.pv (.str [98,105,110])),t42,t49] s116 (fun t50 s117 =>
 ((lock storeD prog s117 50 left7_j12 t50 fun s118 =>
 (J84_26 env I3 m3 (p0_j12) (least1_j12) (printing2_j12) (t6_j12) (left7_j12) (k9_j12) s118 K X))/\True)) (panV X))/\True))/\True))/\True))/\((lock loadD prog s109 50 left7_j12 fun t43 =>
 ((lock loadD prog s109 9 t41 fun t42 =>
 ((lock buildSliceD prog false s109 23 2 2 [(0,t43),(1,t48)] fun t49 s113 =>
 ((env 82 [(.pv (.str [98,105,110])),t42,t49] s113 (fun t50 s114 =>
 ((lock storeD prog s114 50 left7_j12 t50 fun s115 =>
 (J84_26 env I3 m3 (p0_j12) (least1_j12) (printing2_j12) (t6_j12) (left7_j12) (k9_j12) s115 K X))/\True)) (panV X))/\True))/\True))/\((lock buildSliceD prog false s109 23 2 2 [(0,t43),(1,t48)] fun t49 s110 =>
 ((lock loadD prog s110 9 t41 fun t42 =>
 ((env 82 [(.pv (.str [98,105,110])),t42,t49] s110 (fun t50 s111 =>
 ((lock storeD prog s111 50 left7_j12 t50 fun s112 =>
 (J84_26 env I3 m3 (p0_j12) (least1_j12) (printing2_j12) (t6_j12) (left7_j12) (k9_j12) s112 K X))/\True)) (panV X))/\True))/\True))/\True)))/\True))) (panV X))/\True)))))
def J84_9 (env:Env) (I3:Nat->List AV->AS->Prop) (m3:Nat) (p0_j9 least1_j9 printing2_j9 t6_j9 left7_j9 k9_j9 t10_j9:AV) (s:AS) (K:AV->AS->Prop) (X:PV->AS->Prop):Prop :=
 (lock binD prog .eql 3 k9_j9 (.pv (.int .i64 1)) fun t52 =>
 (condD t52
 (lock loadD prog s 50 left7_j9 fun t53 =>
 (env 131 [t53] s (fun t54 s12 =>
 (env 35 [t54] s12 (fun t55 s13 =>
 (lock fieldAddrD prog 53 t10_j9 1 fun t56 =>
 ((lock loadD prog s13 9 t56 fun t57 =>
 ((lock loadD prog s13 50 left7_j9 fun t58 =>
 ((env 84 [p0_j9,(.pv (.int .i64 1)),printing2_j9] s13 (fun t61 s39 =>
 ((lock buildSliceD prog false s39 23 2 2 [(0,t58),(1,t61)] fun t62 s40 =>
 ((env 82 [(.pv (.str [97,115,115,105,103,110])),t57,t62] s40 (fun t63 s41 =>
 ((lock storeD prog s41 50 t6_j9 t63 fun s42 =>
 (lock loadD prog s42 50 t6_j9 fun r0 =>
 (retV (r0) s42 K)))/\True)) (panV X))/\True))/\True)) (panV X))/\True))/\((env 84 [p0_j9,(.pv (.int .i64 1)),printing2_j9] s13 (fun t61 s35 =>
 ((lock loadD prog s35 50 left7_j9 fun t58 =>
 ((lock buildSliceD prog false s35 23 2 2 [(0,t58),(1,t61)] fun t62 s36 =>
 ((env 82 [(.pv (.str [97,115,115,105,103,110])),t57,t62] s36 (fun t63 s37 =>
 ((lock storeD prog s37 50 t6_j9 t63 fun s38 =>
 (lock loadD prog s38 50 t6_j9 fun r0 =>
 (retV (r0) s38 K)))/\True)) (panV X))/\True))/\True))/\True)) (panV X))/\True)))/\((lock loadD prog s13 50 left7_j9 fun t58 =>
 ((lock loadD prog s13 9 t56 fun t57 =>
 ((env 84 [p0_j9,(.pv (.int .i64 1)),printing2_j9] s13 (fun t61 s31 =>
 ((lock buildSliceD prog false s31 23 2 2 [(0,t58),(1,t61)] fun t62 s32 =>
 ((env 82 [(.pv (.str [97,115,115,105,103,110])),t57,t62] s32 (fun t63 s33 =>
 ((lock storeD prog s33 50 t6_j9 t63 fun s34 =>
 (lock loadD prog s34 50 t6_j9 fun r0 =>
 (retV (r0) s34 K)))/\True)) (panV X))/\True))/\True)) (panV X))/\True))/\((env 84 [p0_j9,(.pv (.int .i64 1)),printing2_j9] s13 (fun t61 s24 =>
 ((lock loadD prog s24 9 t56 fun t57 =>
 ((lock buildSliceD prog false s24 23 2 2 [(0,t58),(1,t61)] fun t62 s28 =>
 ((env 82 [(.pv (.str [97,115,115,105,103,110])),t57,t62] s28 (fun t63 s29 =>
 ((lock storeD prog s29 50 t6_j9 t63 fun s30 =>
 (lock loadD prog s30 50 t6_j9 fun r0 =>
 (retV (r0) s30 K)))/\True)) (panV X))/\True))/\True))/\((lock buildSliceD prog false s24 23 2 2 [(0,t58),(1,t61)] fun t62 s25 =>
 ((lock loadD prog s25 9 t56 fun t57 =>
 ((env 82 [(.pv (.str [97,115,115,105,103,110])),t57,t62] s25 (fun t63 s26 =>
 ((lock storeD prog s26 50 t6_j9 t63 fun s27 =>
 (lock loadD prog s27 50 t6_j9 fun r0 =>
 (retV (r0) s27 K)))/\True)) (panV X))/\True))/\True))/\True))) (panV X))/\True)))/\((env 84 [p0_j9,(.pv (.int .i64 1)),printing2_j9] s13 (fun t61 s14 =>
 ((lock loadD prog s14 9 t56 fun t57 =>
 ((lock loadD prog s14 50 left7_j9 fun t58 =>
 ((lock buildSliceD prog false s14 23 2 2 [(0,t58),(1,t61)] fun t62 s21 =>
 ((env 82 [(.pv (.str [97,115,115,105,103,110])),t57,t62] s21 (fun t63 s22 =>
 ((lock storeD prog s22 50 t6_j9 t63 fun s23 =>
 (lock loadD prog s23 50 t6_j9 fun r0 =>
 (retV (r0) s23 K)))/\True)) (panV X))/\True))/\True))/\True))/\((lock loadD prog s14 50 left7_j9 fun t58 =>
 ((lock loadD prog s14 9 t56 fun t57 =>
 ((lock buildSliceD prog false s14 23 2 2 [(0,t58),(1,t61)] fun t62 s18 =>
 ((env 82 [(.pv (.str [97,115,115,105,103,110])),t57,t62] s18 (fun t63 s19 =>
 ((lock storeD prog s19 50 t6_j9 t63 fun s20 =>
 (lock loadD prog s20 50 t6_j9 fun r0 =>
 (retV (r0) s20 K)))/\True)) (panV X))/\True))/\True))/\((lock buildSliceD prog false s14 23 2 2 [(0,t58),(1,t61)] fun t62 s15 =>
 ((lock loadD prog s15 9 t56 fun t57 =>
 ((env 82 [(.pv (.str [97,115,115,105,103,110])),t57,t62] s15 (fun t63 s16 =>
 ((lock storeD prog s16 50 t6_j9 t63 fun s17 =>
 (lock loadD prog s17 50 t6_j9 fun r0 =>
 (retV (r0) s17 K)))/\True)) (panV X))/\True))/\True))/\True)))/\True))) (panV X))/\True))))) (panV X))) (panV X)))
 (lock binD prog .eql 3 k9_j9 (.pv (.int .i64 2)) fun t65 =>
 (condD t65
 (env 85 [p0_j9] s (fun t67 s43 =>
 (env 84 [p0_j9,(.pv (.int .i64 1)),printing2_j9] s43 (fun t70 s44 =>
 (lock allocD prog s44 50 fun t11 s45 =>
 (lock storeD prog s45 50 t11 t70 fun s46 =>
 (env 75 [(.pv (.str [58]))] s46 (fun t72 s47 =>
 (env 126 [p0_j9,t72] s47 (fun t73 s48 =>
 (env 85 [p0_j9] s48 (fun t75 s49 =>
 ((lock loadD prog s49 50 left7_j9 fun t76 =>
 ((lock loadD prog s49 50 t11 fun t77 =>
 ((env 84 [p0_j9,(.pv (.int .i64 1)),printing2_j9] s49 (fun t80 s69 =>
 ((lock buildSliceD prog false s69 23 3 3 [(0,t76),(1,t77),(2,t80)] fun t81 s70 =>
 ((env 82 [(.pv (.str [99,111,110,100])),(.pv (.str [])),t81] s70 (fun t82 s71 =>
 ((lock storeD prog s71 50 t6_j9 t82 fun s72 =>
 (lock loadD prog s72 50 t6_j9 fun r0 =>
 (retV (r0) s72 K)))/\True)) (panV X))/\True))/\True)) (panV X))/\True))/\((env 84 [p0_j9,(.pv (.int .i64 1)),printing2_j9] s49 (fun t80 s65 =>
 ((lock loadD prog s65 50 t11 fun t77 =>
 ((lock buildSliceD prog false s65 23 3 3 [(0,t76),(1,t77),(2,t80)] fun t81 s66 =>
 ((env 82 [(.pv (.str [99,111,110,100])),(.pv (.str [])),t81] s66 (fun t82 s67 =>
 ((lock storeD prog s67 50 t6_j9 t82 fun s68 =>
 (lock loadD prog s68 50 t6_j9 fun r0 =>
 (retV (r0) s68 K)))/\True)) (panV X))/\True))/\True))/\True)) (panV X))/\True)))/\((lock loadD prog s49 50 t11 fun t77 =>
 ((lock loadD prog s49 50 left7_j9 fun t76 =>
 ((env 84 [p0_j9,(.pv (.int .i64 1)),printing2_j9] s49 (fun t80 s61 =>
 ((lock buildSliceD prog false s61 23 3 3 [(0,t76),(1,t77),(2,t80)] fun t81 s62 =>
 ((env 82 [(.pv (.str [99,111,110,100])),(.pv (.str [])),t81] s62 (fun t82 s63 =>
 ((lock storeD prog s63 50 t6_j9 t82 fun s64 =>
 (lock loadD prog s64 50 t6_j9 fun r0 =>
 (retV (r0) s64 K)))/\True)) (panV X))/\True))/\True)) (panV X))/\True))/\((env 84 [p0_j9,(.pv (.int .i64 1)),printing2_j9] s49 (fun t80 s57 =>
 ((lock loadD prog s57 50 left7_j9 fun t76 =>
 ((lock buildSliceD prog false s57 23 3 3 [(0,t76),(1,t77),(2,t80)] fun t81 s58 =>
 ((env 82 [(.pv (.str [99,111,110,100])),(.pv (.str [])),t81] s58 (fun t82 s59 =>
 ((lock storeD prog s59 50 t6_j9 t82 fun s60 =>
 (lock loadD prog s60 50 t6_j9 fun r0 =>
 (retV (r0) s60 K)))/\True)) (panV X))/\True))/\True))/\True)) (panV X))/\True)))/\((env 84 [p0_j9,(.pv (.int .i64 1)),printing2_j9] s49 (fun t80 s50 =>
 ((lock loadD prog s50 50 left7_j9 fun t76 =>
 ((lock loadD prog s50 50 t11 fun t77 =>
 ((lock buildSliceD prog false s50 23 3 3 [(0,t76),(1,t77),(2,t80)] fun t81 s54 =>
 ((env 82 [(.pv (.str [99,111,110,100])),(.pv (.str [])),t81] s54 (fun t82 s55 =>
 ((lock storeD prog s55 50 t6_j9 t82 fun s56 =>
 (lock loadD prog s56 50 t6_j9 fun r0 =>
 (retV (r0) s56 K)))/\True)) (panV X))/\True))/\True))/\True))/\((lock loadD prog s50 50 t11 fun t77 =>
 ((lock loadD prog s50 50 left7_j9 fun t76 =>
 ((lock buildSliceD prog false s50 23 3 3 [(0,t76),(1,t77),(2,t80)] fun t81 s51 =>
 ((env 82 [(.pv (.str [99,111,110,100])),(.pv (.str [])),t81] s51 (fun t82 s52 =>
 ((lock storeD prog s52 50 t6_j9 t82 fun s53 =>
 (lock loadD prog s53 50 t6_j9 fun r0 =>
 (retV (r0) s53 K)))/\True)) (panV X))/\True))/\True))/\True))/\True))) (panV X))/\True)))) (panV X))) (panV X))) (panV X))))) (panV X))) (panV X))
 (lock binD prog .eql 3 k9_j9 (.pv (.int .i64 5)) fun t84 =>
 (condD t84
 ((lock buildSliceD prog false s 26 1 1 [(0,(.pv (.str [110,97,109,101])))] fun t86 s87 =>
 ((env 128 [p0_j9,t86] s87 (fun t87 s96 =>
 ((lock loadD prog s96 50 left7_j9 fun t88 =>
 ((lock buildSliceD prog false s96 23 1 1 [(0,t88)] fun t89 s97 =>
 ((env 82 [(.pv (.str [105,110])),t87,t89] s97 (fun t90 s98 =>
 ((lock storeD prog s98 50 left7_j9 t90 fun s99 =>
 (J84_26 env I3 m3 (p0_j9) (least1_j9) (printing2_j9) (t6_j9) (left7_j9) (k9_j9) s99 K X))/\True)) (panV X))/\True))/\True))/\True)) (panV X))/\((lock loadD prog s87 50 left7_j9 fun t88 =>
 ((env 128 [p0_j9,t86] s87 (fun t87 s92 =>
 ((lock buildSliceD prog false s92 23 1 1 [(0,t88)] fun t89 s93 =>
 ((env 82 [(.pv (.str [105,110])),t87,t89] s93 (fun t90 s94 =>
 ((lock storeD prog s94 50 left7_j9 t90 fun s95 =>
 (J84_26 env I3 m3 (p0_j9) (least1_j9) (printing2_j9) (t6_j9) (left7_j9) (k9_j9) s95 K X))/\True)) (panV X))/\True))/\True)) (panV X))/\((lock buildSliceD prog false s87 23 1 1 [(0,t88)] fun t89 s88 =>
 ((env 128 [p0_j9,t86] s88 (fun t87 s89 =>
 ((env 82 [(.pv (.str [105,110])),t87,t89] s89 (fun t90 s90 =>
 ((lock storeD prog s90 50 left7_j9 t90 fun s91 =>
 (J84_26 env I3 m3 (p0_j9) (least1_j9) (printing2_j9) (t6_j9) (left7_j9) (k9_j9) s91 K X))/\True)) (panV X))/\True)) (panV X))/\True))/\True)))/\True)))/\((lock loadD prog s 50 left7_j9 fun t88 =>
 ((lock buildSliceD prog false s 26 1 1 [(0,(.pv (.str [110,97,109,101])))] fun t86 s78 =>
 ((env 128 [p0_j9,t86] s78 (fun t87 s83 =>
 ((lock buildSliceD prog false s83 23 1 1 [(0,t88)] fun t89 s84 =>
 ((env 82 [(.pv (.str [105,110])),t87,t89] s84 (fun t90 s85 =>
 ((lock storeD prog s85 50 left7_j9 t90 fun s86 =>
 (J84_26 env I3 m3 (p0_j9) (least1_j9) (printing2_j9) (t6_j9) (left7_j9) (k9_j9) s86 K X))/\True)) (panV X))/\True))/\True)) (panV X))/\((lock buildSliceD prog false s78 23 1 1 [(0,t88)] fun t89 s79 =>
 ((env 128 [p0_j9,t86] s79 (fun t87 s80 =>
 ((env 82 [(.pv (.str [105,110])),t87,t89] s80 (fun t90 s81 =>
 ((lock storeD prog s81 50 left7_j9 t90 fun s82 =>
 (J84_26 env I3 m3 (p0_j9) (least1_j9) (printing2_j9) (t6_j9) (left7_j9) (k9_j9) s82 K X))/\True)) (panV X))/\True)) (panV X))/\True))/\True)))/\((lock buildSliceD prog false s 23 1 1 [(0,t88)] fun t89 s73 =>
 ((lock buildSliceD prog false s73 26 1 1 [(0,(.pv (.str [110,97,109,101])))] fun t86 s74 =>
 ((env 128 [p0_j9,t86] s74 (fun t87 s75 =>
 ((env 82 [(.pv (.str [105,110])),t87,t89] s75 (fun t90 s76 =>
 ((lock storeD prog s76 50 left7_j9 t90 fun s77 =>
 (J84_26 env I3 m3 (p0_j9) (least1_j9) (printing2_j9) (t6_j9) (left7_j9) (k9_j9) s77 K X))/\True)) (panV X))/\True)) (panV X))/\True))/\True))/\True)))/\True))
 (lock binD prog .eql 3 k9_j9 (.pv (.int .i64 8)) fun t92 =>
 (condD t92
 ((lock loadD prog s 50 left7_j9 fun t93 =>
 ((env 84 [p0_j9,(.pv (.int .i64 9)),printing2_j9] s (fun t96 s104 =>
 ((lock buildSliceD prog false s104 23 2 2 [(0,t93),(1,t96)] fun t97 s105 =>
 ((env 82 [(.pv (.str [98,105,110])),(.pv (.str [99,97,116])),t97] s105 (fun t98 s106 =>
 ((lock storeD prog s106 50 left7_j9 t98 fun s107 =>
 (J84_26 env I3 m3 (p0_j9) (least1_j9) (printing2_j9) (t6_j9) (left7_j9) (k9_j9) s107 K X))/\True)) (panV X))/\True))/\True)) (panV X))/\True))/\((env 84 [p0_j9,(.pv (.int .i64 9)),printing2_j9] s (fun t96 s100 =>
 ((lock loadD prog s100 50 left7_j9 fun t93 =>
 ((lock buildSliceD prog false s100 23 2 2 [(0,t93),(1,t96)] fun t97 s101 =>
 ((env 82 [(.pv (.str [98,105,110])),(.pv (.str [99,97,116])),t97] s101 (fun t98 s102 =>
 ((lock storeD prog s102 50 left7_j9 t98 fun s103 =>
 (J84_26 env I3 m3 (p0_j9) (least1_j9) (printing2_j9) (t6_j9) (left7_j9) (k9_j9) s103 K X))/\True)) (panV X))/\True))/\True))/\True)) (panV X))/\True))
 (lock binD prog .leq 3 k9_j9 (.pv (.int .i64 4)) fun t38 =>
 (condD t38
 (env 85 [p0_j9] s (fun t40 s108 =>
 (J84_12 env I3 m3 (p0_j9) (least1_j9) (printing2_j9) (t6_j9) (left7_j9) (k9_j9) (t10_j9) s108 K X)) (panV X))
 (J84_12 env I3 m3 (p0_j9) (least1_j9) (printing2_j9) (t6_j9) (left7_j9) (k9_j9) (t10_j9) s K X)))))))))))
def J84_6 (env:Env) (I3:Nat->List AV->AS->Prop) (m3:Nat) (p0_j6 least1_j6 printing2_j6 t6_j6 left7_j6 k9_j6:AV) (s:AS) (K:AV->AS->Prop) (X:PV->AS->Prop):Prop :=
 (env 74 [p0_j6,(.pv (.int .i64 0))] s (fun t31 s8 =>
 (lock allocD prog s8 53 fun t10 s9 =>
 (lock storeD prog s9 53 t10 t31 fun s10 =>
 (lock binD prog .neq 3 k9_j6 (.pv (.int .i64 8)) fun t33 =>
 (condD t33
 (env 76 [p0_j6,(.pv (.int .i64 1))] s10 (fun t35 s11 =>
 (J84_9 env I3 m3 (p0_j6) (least1_j6) (printing2_j6) (t6_j6) (left7_j6) (k9_j6) (t10) s11 K X)) (panV X))
 (J84_9 env I3 m3 (p0_j6) (least1_j6) (printing2_j6) (t6_j6) (left7_j6) (k9_j6) (t10) s10 K X)))))) (panV X))
def L84_3 (env:Env) (I3:Nat->List AV->AS->Prop) (m3:Nat) (p0_l3 least1_l3 printing2_l3 t6_l3 left7_l3 bound8_l3:AV) (s:AS) (K:AV->AS->Prop) (X:PV->AS->Prop):Prop :=
 (env 130 [p0_l3,printing2_l3] s (fun t16 s6 =>
 (lock binD prog .lss 3 t16 least1_l3 fun t19 =>
 (guardD t19 false
 (lock binD prog .gtr 3 t16 bound8_l3 fun t23 =>
 (guardD t23 false
 (lock binD prog .eql 3 t16 (.pv (.int .i64 0)) fun t27 =>
 (condD t27
 (lock loadD prog s6 50 left7_l3 fun t29 =>
 (lock storeD prog s6 50 t6_l3 t29 fun s7 =>
 (lock loadD prog s7 50 t6_l3 fun r0 =>
 (retV (r0) s7 K))))
 (J84_6 env I3 m3 (p0_l3) (least1_l3) (printing2_l3) (t6_l3) (left7_l3) (t16) s6 K X)))
 (lock loadD prog s6 50 left7_l3 fun t29 =>
 (lock storeD prog s6 50 t6_l3 t29 fun s138 =>
 (lock loadD prog s138 50 t6_l3 fun r0 =>
 (retV (r0) s138 K))))))
 (lock loadD prog s6 50 left7_l3 fun t29 =>
 (lock storeD prog s6 50 t6_l3 t29 fun s139 =>
 (lock loadD prog s139 50 t6_l3 fun r0 =>
 (retV (r0) s139 K))))))) (panV X))
theorem L84_3_eq (env:Env) (I3:Nat->List AV->AS->Prop) (m3:Nat) (p0_l3 least1_l3 printing2_l3 t6_l3 left7_l3 bound8_l3:AV) (s:AS) (K:AV->AS->Prop) (X:PV->AS->Prop):L84_3 env I3 m3 p0_l3 least1_l3 printing2_l3 t6_l3 left7_l3 bound8_l3 s K X=wpD prog env an84 (subC (bodyC f84) [1,1,1,0,0]) (contQ prog env an84 (bodyC f84) [1,1,1,0,0] [(I3,m3)] (rootQ prog f84 K X)) [(0,p0_l3),(1,least1_l3),(2,printing2_l3),(6,t6_l3),(7,left7_l3),(8,bound8_l3)] s:=by
  unfold L84_3
  kernel_rfl
theorem lp84_3 {α:Type} {env:Env}  {p0_l3 least1_l3 printing2_l3 t6_l3 left7_l3:AV} {s:AS} {K:AV->AS->Prop} {X:PV->AS->Prop} (μ:α->AS->Nat) (I:α->AS->Prop) (ebound8_l3:α->AV) (a0:α) (h0:I a0 s)
 (h:∀ a s,I a s->L84_3 env  (Inv (fun a=>[p0_l3,least1_l3,printing2_l3,t6_l3,left7_l3,ebound8_l3 a]) μ I) (μ a s) p0_l3 least1_l3 printing2_l3 t6_l3 left7_l3 (ebound8_l3 a) s K X) :
 ∃ I3:Nat->List AV->AS->Prop,(∃ m,I3 m [p0_l3,least1_l3,printing2_l3,t6_l3,left7_l3,ebound8_l3 a0] s)/\∀ (m:Nat) (x0 x1 x2 x3 x4 x5:AV),∀ s,I3 m [x0,x1,x2,x3,x4,x5] s ->
 L84_3 env  I3 m x0 x1 x2 x3 x4 x5 s K X:=by
  refine ⟨Inv (fun a=>[p0_l3,least1_l3,printing2_l3,t6_l3,left7_l3,ebound8_l3 a]) μ I,⟨_,a0,rfl,rfl,h0⟩,?_⟩
  rintro m x0 x1 x2 x3 x4 x5 s' ⟨a,hv,rfl,hI⟩
  simp only [List.cons.injEq,and_true] at hv
  obtain ⟨rfl,rfl,rfl,rfl,rfl,rfl⟩:=hv
  exact h a s' hI
def S84 (env:Env) (p0_a least1_a printing2_a:AV) (s:AS) (K:AV->AS->Prop) (X:PV->AS->Prop):Prop :=
 (lock allocD prog s 50 fun t6 s1 =>
 (env 129 [p0_a] s1 (fun t13 s2 =>
 (lock allocD prog s2 50 fun t7 s3 =>
 (lock storeD prog s3 50 t7 t13 fun s4 =>
 (∃ I3:Nat->List AV->AS->Prop,(∃ m,I3 m [p0_a,least1_a,printing2_a,t6,t7,(.pv (.int .i64 10))] s4)/\∀ (m3:Nat) (p0_l3 least1_l3 printing2_l3 t6_l3 left7_l3 bound8_l3:AV),∀ s5,I3 m3 [p0_l3,least1_l3,printing2_l3,t6_l3,left7_l3,bound8_l3] s5 ->
 (L84_3 env I3 m3 p0_l3 least1_l3 printing2_l3 t6_l3 left7_l3 bound8_l3 s5 K X))))) (panV X)))
theorem S84_eq (env:Env) (p0_a least1_a printing2_a:AV) (s:AS) (K:AV->AS->Prop) (X:PV->AS->Prop):S84 env p0_a least1_a printing2_a s K X=bodyD prog env an84 f84 [p0_a,least1_a,printing2_a] s K X:=by
  unfold S84
  simp only [L84_3_eq]
  kernel_rfl
theorem S84_ok:(match f84.body with | some c=>okCode an84 prog f84.ntmps c | none=>false)=true:=by kernel_rfl
def an129:An:={ mu:=[],cut:=[],loop:=[(2,[0,2,5,6,7])] }
def L129_2 (env:Env) (I2:Nat->List AV->AS->Prop) (m2:Nat) (p0_l2 t2_l2 t5_l2 t6_l2 t7_l2:AV) (s:AS) (K:AV->AS->Prop) (X:PV->AS->Prop):Prop :=
 (lock binD prog .lss 3 t7_l2 t6_l2 fun t8 =>
 (condD t8
 (lock indexAddrD prog 26 t5_l2 t7_l2 fun t9 =>
 (lock loadD prog s 9 t9 fun t10 =>
 (env 75 [t10] s (fun t13 s4 =>
 (env 80 [p0_l2,t13] s4 (fun t14 s5 =>
 (condD t14
 (env 129 [p0_l2] s5 (fun t17 s6 =>
 (lock buildSliceD prog false s6 23 1 1 [(0,t17)] fun t18 s7 =>
 (env 82 [(.pv (.str [117,110,97,114,121])),t10,t18] s7 (fun t19 s8 =>
 (lock storeD prog s8 50 t2_l2 t19 fun s9 =>
 (lock loadD prog s9 50 t2_l2 fun r0 =>
 (retV (r0) s9 K)))) (panV X)))) (panV X))
 (lock binD prog .add 3 t7_l2 (.pv (.int .i64 1)) fun t20 =>
 (∃ m',m' < m2/\I2 m' [p0_l2,t2_l2,t5_l2,t6_l2,t20] s5)))) (panV X))) (panV X))))
 (env 163 [p0_l2] s (fun t22 s10 =>
 (lock storeD prog s10 50 t2_l2 t22 fun s11 =>
 (lock loadD prog s11 50 t2_l2 fun r0 =>
 (retV (r0) s11 K)))) (panV X))))
theorem L129_2_eq (env:Env) (I2:Nat->List AV->AS->Prop) (m2:Nat) (p0_l2 t2_l2 t5_l2 t6_l2 t7_l2:AV) (s:AS) (K:AV->AS->Prop) (X:PV->AS->Prop):L129_2 env I2 m2 p0_l2 t2_l2 t5_l2 t6_l2 t7_l2 s K X=wpD prog env an129 (subC (bodyC f129) [1,0,1,0,0]) (contQ prog env an129 (bodyC f129) [1,0,1,0,0] [(I2,m2)] (rootQ prog f129 K X)) [(0,p0_l2),(2,t2_l2),(5,t5_l2),(6,t6_l2),(7,t7_l2)] s:=by
  unfold L129_2
  kernel_rfl
theorem lp129_2 {α:Type} {env:Env}  {p0_l2 t2_l2 t5_l2 t6_l2:AV} {s:AS} {K:AV->AS->Prop} {X:PV->AS->Prop} (μ:α->AS->Nat) (I:α->AS->Prop) (et7_l2:α->AV) (a0:α) (h0:I a0 s)
 (h:∀ a s,I a s->L129_2 env  (Inv (fun a=>[p0_l2,t2_l2,t5_l2,t6_l2,et7_l2 a]) μ I) (μ a s) p0_l2 t2_l2 t5_l2 t6_l2 (et7_l2 a) s K X) :
 ∃ I2:Nat->List AV->AS->Prop,(∃ m,I2 m [p0_l2,t2_l2,t5_l2,t6_l2,et7_l2 a0] s)/\∀ (m:Nat) (x0 x1 x2 x3 x4:AV),∀ s,I2 m [x0,x1,x2,x3,x4] s ->
 L129_2 env  I2 m x0 x1 x2 x3 x4 s K X:=by
  refine ⟨Inv (fun a=>[p0_l2,t2_l2,t5_l2,t6_l2,et7_l2 a]) μ I,⟨_,a0,rfl,rfl,h0⟩,?_⟩
  rintro m x0 x1 x2 x3 x4 s' ⟨a,hv,rfl,hI⟩
  simp only [List.cons.injEq,and_true] at hv
  obtain ⟨rfl,rfl,rfl,rfl,rfl⟩:=hv
  exact h a s' hI
def S129 (env:Env) (p0_a:AV) (s:AS) (K:AV->AS->Prop) (X:PV->AS->Prop):Prop :=
 (lock allocD prog s 50 fun t2 s1 =>
 (lock buildSliceD prog false s1 26 3 3 [(0,(.pv (.str [33]))),(1,(.pv (.str [43]))),(2,(.pv (.str [45])))] fun t5 s2 =>
 (lock lenD prog 26 t5 fun t6 =>
 (∃ I2:Nat->List AV->AS->Prop,(∃ m,I2 m [p0_a,t2,t5,t6,(.pv (.int .i64 0))] s2)/\∀ (m2:Nat) (p0_l2 t2_l2 t5_l2 t6_l2 t7_l2:AV),∀ s3,I2 m2 [p0_l2,t2_l2,t5_l2,t6_l2,t7_l2] s3 ->
 (L129_2 env I2 m2 p0_l2 t2_l2 t5_l2 t6_l2 t7_l2 s3 K X)))))
theorem S129_eq (env:Env) (p0_a:AV) (s:AS) (K:AV->AS->Prop) (X:PV->AS->Prop):S129 env p0_a s K X=bodyD prog env an129 f129 [p0_a] s K X:=by
  unfold S129
  simp only [L129_2_eq]
  kernel_rfl
theorem S129_ok:(match f129.body with | some c=>okCode an129 prog f129.ntmps c | none=>false)=true:=by kernel_rfl
def an163:An:={ mu:=[],cut:=[],loop:=[],any:=[3] }
def S163 (env:Env) (p0_a:AV) (s:AS) (K:AV->AS->Prop) (X:PV->AS->Prop):Prop :=
 (lock allocD prog s 50 fun t2 s1 =>
 (env 184 [p0_a] s1 (fun t5 s2 =>
 (lock allocD prog s2 50 fun t3 s3 =>
 (lock storeD prog s3 50 t3 t5 fun s4 =>
 (env 75 [(.pv (.str [94]))] s4 (fun t7 s5 =>
 (env 80 [p0_a,t7] s5 (fun t8 s6 =>
 (condD t8
 ((lock loadD prog s6 50 t3 fun t9 =>
 ((env 185 [p0_a] s6 (fun t11 s11 =>
 ((lock buildSliceD prog false s11 23 2 2 [(0,t9),(1,t11)] fun t12 s12 =>
 ((env 82 [(.pv (.str [98,105,110])),(.pv (.str [94])),t12] s12 (fun t13 s13 =>
 ((lock storeD prog s13 50 t2 t13 fun s14 =>
 (lock loadD prog s14 50 t2 fun r0 =>
 (retV (r0) s14 K)))/\True)) (panV X))/\True))/\True)) (panV X))/\True))/\((env 185 [p0_a] s6 (fun t11 s7 =>
 ((lock loadD prog s7 50 t3 fun t9 =>
 ((lock buildSliceD prog false s7 23 2 2 [(0,t9),(1,t11)] fun t12 s8 =>
 ((env 82 [(.pv (.str [98,105,110])),(.pv (.str [94])),t12] s8 (fun t13 s9 =>
 ((lock storeD prog s9 50 t2 t13 fun s10 =>
 (lock loadD prog s10 50 t2 fun r0 =>
 (retV (r0) s10 K)))/\True)) (panV X))/\True))/\True))/\True)) (panV X))/\True))
 (lock loadD prog s6 50 t3 fun t14 =>
 (lock storeD prog s6 50 t2 t14 fun s15 =>
 (lock loadD prog s15 50 t2 fun r0 =>
 (retV (r0) s15 K)))))) (panV X))) (panV X))))) (panV X)))
theorem S163_eq (env:Env) (p0_a:AV) (s:AS) (K:AV->AS->Prop) (X:PV->AS->Prop):S163 env p0_a s K X=bodyD prog env an163 f163 [p0_a] s K X:=by
  unfold S163
  kernel_rfl
theorem S163_ok:(match f163.body with | some c=>okCode an163 prog f163.ntmps c | none=>false)=true:=by kernel_rfl
def an185:An:={ mu:=[],cut:=[],loop:=[(2,[0,2,5,6,7])] }
def L185_2 (env:Env) (I2:Nat->List AV->AS->Prop) (m2:Nat) (p0_l2 t2_l2 t5_l2 t6_l2 t7_l2:AV) (s:AS) (K:AV->AS->Prop) (X:PV->AS->Prop):Prop :=
 (lock binD prog .lss 3 t7_l2 t6_l2 fun t8 =>
 (condD t8
 (lock indexAddrD prog 26 t5_l2 t7_l2 fun t9 =>
 (lock loadD prog s 9 t9 fun t10 =>
 (env 75 [t10] s (fun t13 s4 =>
 (env 80 [p0_l2,t13] s4 (fun t14 s5 =>
 (condD t14
 (env 185 [p0_l2] s5 (fun t17 s6 =>
 (lock buildSliceD prog false s6 23 1 1 [(0,t17)] fun t18 s7 =>
 (env 82 [(.pv (.str [117,110,97,114,121])),t10,t18] s7 (fun t19 s8 =>
 (lock storeD prog s8 50 t2_l2 t19 fun s9 =>
 (lock loadD prog s9 50 t2_l2 fun r0 =>
 (retV (r0) s9 K)))) (panV X)))) (panV X))
 (lock binD prog .add 3 t7_l2 (.pv (.int .i64 1)) fun t20 =>
 (∃ m',m' < m2/\I2 m' [p0_l2,t2_l2,t5_l2,t6_l2,t20] s5)))) (panV X))) (panV X))))
 (env 163 [p0_l2] s (fun t22 s10 =>
 (lock storeD prog s10 50 t2_l2 t22 fun s11 =>
 (lock loadD prog s11 50 t2_l2 fun r0 =>
 (retV (r0) s11 K)))) (panV X))))
theorem L185_2_eq (env:Env) (I2:Nat->List AV->AS->Prop) (m2:Nat) (p0_l2 t2_l2 t5_l2 t6_l2 t7_l2:AV) (s:AS) (K:AV->AS->Prop) (X:PV->AS->Prop):L185_2 env I2 m2 p0_l2 t2_l2 t5_l2 t6_l2 t7_l2 s K X=wpD prog env an185 (subC (bodyC f185) [1,0,1,0,0]) (contQ prog env an185 (bodyC f185) [1,0,1,0,0] [(I2,m2)] (rootQ prog f185 K X)) [(0,p0_l2),(2,t2_l2),(5,t5_l2),(6,t6_l2),(7,t7_l2)] s:=by
  unfold L185_2
  kernel_rfl
theorem lp185_2 {α:Type} {env:Env}  {p0_l2 t2_l2 t5_l2 t6_l2:AV} {s:AS} {K:AV->AS->Prop} {X:PV->AS->Prop} (μ:α->AS->Nat) (I:α->AS->Prop) (et7_l2:α->AV) (a0:α) (h0:I a0 s)
 (h:∀ a s,I a s->L185_2 env  (Inv (fun a=>[p0_l2,t2_l2,t5_l2,t6_l2,et7_l2 a]) μ I) (μ a s) p0_l2 t2_l2 t5_l2 t6_l2 (et7_l2 a) s K X) :
 ∃ I2:Nat->List AV->AS->Prop,(∃ m,I2 m [p0_l2,t2_l2,t5_l2,t6_l2,et7_l2 a0] s)/\∀ (m:Nat) (x0 x1 x2 x3 x4:AV),∀ s,I2 m [x0,x1,x2,x3,x4] s ->
 L185_2 env  I2 m x0 x1 x2 x3 x4 s K X:=by
  refine ⟨Inv (fun a=>[p0_l2,t2_l2,t5_l2,t6_l2,et7_l2 a]) μ I,⟨_,a0,rfl,rfl,h0⟩,?_⟩
  rintro m x0 x1 x2 x3 x4 s' ⟨a,hv,rfl,hI⟩
  simp only [List.cons.injEq,and_true] at hv
  obtain ⟨rfl,rfl,rfl,rfl,rfl⟩:=hv
  exact h a s' hI
def S185 (env:Env) (p0_a:AV) (s:AS) (K:AV->AS->Prop) (X:PV->AS->Prop):Prop :=
 (lock allocD prog s 50 fun t2 s1 =>
 (lock buildSliceD prog false s1 26 2 2 [(0,(.pv (.str [43]))),(1,(.pv (.str [45])))] fun t5 s2 =>
 (lock lenD prog 26 t5 fun t6 =>
 (∃ I2:Nat->List AV->AS->Prop,(∃ m,I2 m [p0_a,t2,t5,t6,(.pv (.int .i64 0))] s2)/\∀ (m2:Nat) (p0_l2 t2_l2 t5_l2 t6_l2 t7_l2:AV),∀ s3,I2 m2 [p0_l2,t2_l2,t5_l2,t6_l2,t7_l2] s3 ->
 (L185_2 env I2 m2 p0_l2 t2_l2 t5_l2 t6_l2 t7_l2 s3 K X)))))
theorem S185_eq (env:Env) (p0_a:AV) (s:AS) (K:AV->AS->Prop) (X:PV->AS->Prop):S185 env p0_a s K X=bodyD prog env an185 f185 [p0_a] s K X:=by
  unfold S185
  simp only [L185_2_eq]
  kernel_rfl
theorem S185_ok:(match f185.body with | some c=>okCode an185 prog f185.ntmps c | none=>false)=true:=by kernel_rfl
def an194:An:={ mu:=[],cut:=[],loop:=[] }
def S194 (env:Env) (p0_a:AV) (s:AS) (K:AV->AS->Prop) (X:PV->AS->Prop):Prop :=
 (lock allocD prog s 50 fun t2 s1 =>
 (env 196 [p0_a] s1 (fun t9 s2 =>
 (lock extractD t9 0 fun t10 =>
 (lock extractD t9 1 fun t11 =>
 (unD .not t11 fun t13 =>
 (condD t13
 (lock buildD prog 50 [] fun t14 =>
 (lock storeD prog s2 50 t2 t14 fun s3 =>
 (lock loadD prog s3 50 t2 fun r0 =>
 (retV (.tuple [r0,(.pv (.bool false))]) s3 K))))
 (env 195 [p0_a] s2 (fun t16 s4 =>
 (lock allocD prog s4 50 fun t6 s5 =>
 (lock storeD prog s5 50 t6 t16 fun s6 =>
 (lock loadD prog s6 50 t6 fun t17 =>
 (env 131 [t17] s6 (fun t18 s7 =>
 (env 35 [t18] s7 (fun t19 s8 =>
 (lock loadD prog s8 50 t6 fun t21 =>
 (lock buildSliceD prog false s8 23 1 1 [(0,t21)] fun t22 s9 =>
 (env 82 [(.pv (.str [112,114,101])),t10,t22] s9 (fun t23 s10 =>
 (lock storeD prog s10 50 t2 t23 fun s11 =>
 (lock loadD prog s11 50 t2 fun r0 =>
 (retV (.tuple [r0,(.pv (.bool true))]) s11 K)))) (panV X))))) (panV X))) (panV X)))))) (panV X))))))) (panV X)))
theorem S194_eq (env:Env) (p0_a:AV) (s:AS) (K:AV->AS->Prop) (X:PV->AS->Prop):S194 env p0_a s K X=bodyD prog env an194 f194 [p0_a] s K X:=by
  unfold S194
  kernel_rfl
theorem S194_ok:(match f194.body with | some c=>okCode an194 prog f194.ntmps c | none=>false)=true:=by kernel_rfl
def an184:An:={ mu:=[],cut:=[],loop:=[] }
def S184 (env:Env) (p0_a:AV) (s:AS) (K:AV->AS->Prop) (X:PV->AS->Prop):Prop :=
 (lock allocD prog s 50 fun t2 s1 =>
 (env 194 [p0_a] s1 (fun t10 s2 =>
 (lock extractD t10 0 fun t11 =>
 (lock extractD t10 1 fun t12 =>
 (lock allocD prog s2 50 fun t3 s3 =>
 (lock storeD prog s3 50 t3 t11 fun s4 =>
 (condD t12
 (lock loadD prog s4 50 t3 fun t14 =>
 (lock storeD prog s4 50 t2 t14 fun s5 =>
 (lock loadD prog s5 50 t2 fun r0 =>
 (retV (r0) s5 K))))
 (env 195 [p0_a] s4 (fun t16 s6 =>
 (lock allocD prog s6 50 fun t5 s7 =>
 (lock storeD prog s7 50 t5 t16 fun s8 =>
 (lock loadD prog s8 50 t5 fun t17 =>
 (env 131 [t17] s8 (fun t18 s9 =>
 (condD t18
 (env 196 [p0_a] s9 (fun t21 s10 =>
 (lock extractD t21 0 fun t22 =>
 (lock extractD t21 1 fun t23 =>
 (condD t23
 (lock loadD prog s10 50 t5 fun t26 =>
 (lock buildSliceD prog false s10 23 1 1 [(0,t26)] fun t27 s11 =>
 (env 82 [(.pv (.str [112,111,115,116])),t22,t27] s11 (fun t28 s12 =>
 (lock storeD prog s12 50 t2 t28 fun s13 =>
 (lock loadD prog s13 50 t2 fun r0 =>
 (retV (r0) s13 K)))) (panV X))))
 (lock loadD prog s10 50 t5 fun t29 =>
 (lock storeD prog s10 50 t2 t29 fun s14 =>
 (lock loadD prog s14 50 t2 fun r0 =>
 (retV (r0) s14 K)))))))) (panV X))
 (lock loadD prog s9 50 t5 fun t29 =>
 (lock storeD prog s9 50 t2 t29 fun s15 =>
 (lock loadD prog s15 50 t2 fun r0 =>
 (retV (r0) s15 K)))))) (panV X)))))) (panV X)))))))) (panV X)))
theorem S184_eq (env:Env) (p0_a:AV) (s:AS) (K:AV->AS->Prop) (X:PV->AS->Prop):S184 env p0_a s K X=bodyD prog env an184 f184 [p0_a] s K X:=by
  unfold S184
  kernel_rfl
theorem S184_ok:(match f184.body with | some c=>okCode an184 prog f184.ntmps c | none=>false)=true:=by kernel_rfl
def an193:An:={ mu:=[],cut:=[],loop:=[(2,[0,1,5])] }
def L193_2 (env:Env) (I2:Nat->List AV->AS->Prop) (m2:Nat) (p0_l2 printing1_l2 l5_l2:AV) (s:AS) (K:AV->AS->Prop) (X:PV->AS->Prop):Prop :=
 (env 75 [(.pv (.str [44]))] s (fun t11 s4 =>
 (env 80 [p0_l2,t11] s4 (fun t12 s5 =>
 (condD t12
 (env 85 [p0_l2] s5 (fun t14 s6 =>
 (env 84 [p0_l2,(.pv (.int .i64 1)),printing1_l2] s6 (fun t18 s7 =>
 (lock buildSliceD prog false s7 23 1 1 [(0,t18)] fun t19 s8 =>
 (lock appendD prog false s8 23 l5_l2 t19 fun t20 s9 =>
 (∃ m',m' < m2/\I2 m' [p0_l2,printing1_l2,t20] s9)))) (panV X))) (panV X))
 (retV (l5_l2) s5 K))) (panV X))) (panV X))
theorem L193_2_eq (env:Env) (I2:Nat->List AV->AS->Prop) (m2:Nat) (p0_l2 printing1_l2 l5_l2:AV) (s:AS) (K:AV->AS->Prop) (X:PV->AS->Prop):L193_2 env I2 m2 p0_l2 printing1_l2 l5_l2 s K X=wpD prog env an193 (subC (bodyC f193) [1,1,0,0,0]) (contQ prog env an193 (bodyC f193) [1,1,0,0,0] [(I2,m2)] (rootQ prog f193 K X)) [(0,p0_l2),(1,printing1_l2),(5,l5_l2)] s:=by
  unfold L193_2
  kernel_rfl
theorem lp193_2 {α:Type} {env:Env}  {p0_l2 printing1_l2:AV} {s:AS} {K:AV->AS->Prop} {X:PV->AS->Prop} (μ:α->AS->Nat) (I:α->AS->Prop) (el5_l2:α->AV) (a0:α) (h0:I a0 s)
 (h:∀ a s,I a s->L193_2 env  (Inv (fun a=>[p0_l2,printing1_l2,el5_l2 a]) μ I) (μ a s) p0_l2 printing1_l2 (el5_l2 a) s K X) :
 ∃ I2:Nat->List AV->AS->Prop,(∃ m,I2 m [p0_l2,printing1_l2,el5_l2 a0] s)/\∀ (m:Nat) (x0 x1 x2:AV),∀ s,I2 m [x0,x1,x2] s ->
 L193_2 env  I2 m x0 x1 x2 s K X:=by
  refine ⟨Inv (fun a=>[p0_l2,printing1_l2,el5_l2 a]) μ I,⟨_,a0,rfl,rfl,h0⟩,?_⟩
  rintro m x0 x1 x2 s' ⟨a,hv,rfl,hI⟩
  simp only [List.cons.injEq,and_true] at hv
  obtain ⟨rfl,rfl,rfl⟩:=hv
  exact h a s' hI
def S193 (env:Env) (p0_a printing1_a:AV) (s:AS) (K:AV->AS->Prop) (X:PV->AS->Prop):Prop :=
 (env 84 [p0_a,(.pv (.int .i64 1)),printing1_a] s (fun t8 s1 =>
 (lock buildSliceD prog false s1 23 1 1 [(0,t8)] fun t9 s2 =>
 (∃ I2:Nat->List AV->AS->Prop,(∃ m,I2 m [p0_a,printing1_a,t9] s2)/\∀ (m2:Nat) (p0_l2 printing1_l2 l5_l2:AV),∀ s3,I2 m2 [p0_l2,printing1_l2,l5_l2] s3 ->
 (L193_2 env I2 m2 p0_l2 printing1_l2 l5_l2 s3 K X)))) (panV X))
theorem S193_eq (env:Env) (p0_a printing1_a:AV) (s:AS) (K:AV->AS->Prop) (X:PV->AS->Prop):S193 env p0_a printing1_a s K X=bodyD prog env an193 f193 [p0_a,printing1_a] s K X:=by
  unfold S193
  simp only [L193_2_eq]
  kernel_rfl
theorem S193_ok:(match f193.body with | some c=>okCode an193 prog f193.ntmps c | none=>false)=true:=by kernel_rfl
def an199:An:={ mu:=[],cut:=[],loop:=[] }
def S199 (env:Env) (p0_a:AV) (s:AS) (K:AV->AS->Prop) (X:PV->AS->Prop):Prop :=
 (env 75 [(.pv (.str [41]))] s (fun t5 s1 =>
 (env 80 [p0_a,t5] s1 (fun t6 s2 =>
 (condD t6
 (retV ((.nilS)) s2 K)
 (env 193 [p0_a,(.pv (.bool false))] s2 (fun t8 s3 =>
 (env 75 [(.pv (.str [41]))] s3 (fun t10 s4 =>
 (env 126 [p0_a,t10] s4 (fun t11 s5 =>
 (retV (t8) s5 K)) (panV X))) (panV X))) (panV X)))) (panV X))) (panV X))
theorem S199_eq (env:Env) (p0_a:AV) (s:AS) (K:AV->AS->Prop) (X:PV->AS->Prop):S199 env p0_a s K X=bodyD prog env an199 f199 [p0_a] s K X:=by
  unfold S199
  kernel_rfl
theorem S199_ok:(match f199.body with | some c=>okCode an199 prog f199.ntmps c | none=>false)=true:=by kernel_rfl
def an183:An:={ mu:=[],cut:=[],loop:=[] }
def S183 (env:Env) (p0_a:AV) (s:AS) (K:AV->AS->Prop) (X:PV->AS->Prop):Prop :=
 (env 193 [p0_a,(.pv (.bool false))] s (fun t5 s1 =>
 (env 75 [(.pv (.str [93]))] s1 (fun t7 s2 =>
 (env 126 [p0_a,t7] s2 (fun t8 s3 =>
 (retV (t5) s3 K)) (panV X))) (panV X))) (panV X))
theorem S183_eq (env:Env) (p0_a:AV) (s:AS) (K:AV->AS->Prop) (X:PV->AS->Prop):S183 env p0_a s K X=bodyD prog env an183 f183 [p0_a] s K X:=by
  unfold S183
  kernel_rfl
theorem S183_ok:(match f183.body with | some c=>okCode an183 prog f183.ntmps c | none=>false)=true:=by kernel_rfl
def an195:An:={ mu:=[],cut:=[(8,[0,2,3,16,17])],loop:=[],any:=[11,15,18] }
def J195_8 (env:Env)  (p0_j8 t2_j8 t3_j8 t16_j8 t17_j8:AV) (s:AS) (K:AV->AS->Prop) (X:PV->AS->Prop):Prop :=
 (condD t17_j8
 (lock fieldAddrD prog 53 t3_j8 0 fun t21 =>
 (lock loadD prog s 9 t21 fun t22 =>
 (lock fieldAddrD prog 53 t3_j8 1 fun t23 =>
 (lock loadD prog s 9 t23 fun t24 =>
 (env 82 [t22,t24,(.nilS)] s (fun t25 s7 =>
 (lock storeD prog s7 50 t2_j8 t25 fun s8 =>
 (lock loadD prog s8 50 t2_j8 fun r0 =>
 (retV (r0) s8 K)))) (panV X))))))
 (lock binD prog .eql 9 t16_j8 (.pv (.str [110,97,109,101])) fun t27 =>
 (condD t27
 (env 75 [(.pv (.str [91]))] s (fun t29 s9 =>
 (env 80 [p0_j8,t29] s9 (fun t30 s10 =>
 (condD t30
 (lock fieldAddrD prog 53 t3_j8 1 fun t31 =>
 ((lock loadD prog s10 9 t31 fun t32 =>
 ((env 183 [p0_j8] s10 (fun t34 s14 =>
 ((env 82 [(.pv (.str [101,108,101,109])),t32,t34] s14 (fun t35 s15 =>
 ((lock storeD prog s15 50 t2_j8 t35 fun s16 =>
 (lock loadD prog s16 50 t2_j8 fun r0 =>
 (retV (r0) s16 K)))/\True)) (panV X))/\True)) (panV X))/\True))/\((env 183 [p0_j8] s10 (fun t34 s11 =>
 ((lock loadD prog s11 9 t31 fun t32 =>
 ((env 82 [(.pv (.str [101,108,101,109])),t32,t34] s11 (fun t35 s12 =>
 ((lock storeD prog s12 50 t2_j8 t35 fun s13 =>
 (lock loadD prog s13 50 t2_j8 fun r0 =>
 (retV (r0) s13 K)))/\True)) (panV X))/\True))/\True)) (panV X))/\True)))
 (lock fieldAddrD prog 53 t3_j8 1 fun t36 =>
 (lock loadD prog s10 9 t36 fun t37 =>
 (env 82 [(.pv (.str [118,97,114])),t37,(.nilS)] s10 (fun t38 s17 =>
 (lock storeD prog s17 50 t2_j8 t38 fun s18 =>
 (lock loadD prog s18 50 t2_j8 fun r0 =>
 (retV (r0) s18 K)))) (panV X)))))) (panV X))) (panV X))
 (lock binD prog .eql 9 t16_j8 (.pv (.str [102,117,110,99])) fun t40 =>
 (condD t40
 (env 76 [p0_j8,(.pv (.int .i64 1))] s (fun t42 s19 =>
 (lock fieldAddrD prog 53 t3_j8 1 fun t43 =>
 ((lock loadD prog s19 9 t43 fun t44 =>
 ((env 199 [p0_j8] s19 (fun t46 s23 =>
 ((env 82 [(.pv (.str [99,97,108,108])),t44,t46] s23 (fun t47 s24 =>
 ((lock storeD prog s24 50 t2_j8 t47 fun s25 =>
 (lock loadD prog s25 50 t2_j8 fun r0 =>
 (retV (r0) s25 K)))/\True)) (panV X))/\True)) (panV X))/\True))/\((env 199 [p0_j8] s19 (fun t46 s20 =>
 ((lock loadD prog s20 9 t43 fun t44 =>
 ((env 82 [(.pv (.str [99,97,108,108])),t44,t46] s20 (fun t47 s21 =>
 ((lock storeD prog s21 50 t2_j8 t47 fun s22 =>
 (lock loadD prog s22 50 t2_j8 fun r0 =>
 (retV (r0) s22 K)))/\True)) (panV X))/\True))/\True)) (panV X))/\True)))) (panV X))
 (lock binD prog .eql 9 t16_j8 (.pv (.str [98,117,105,108,116])) fun t49 =>
 (condD t49
 (env 75 [(.pv (.str [40]))] s (fun t51 s26 =>
 (env 80 [p0_j8,t51] s26 (fun t52 s27 =>
 (condD t52
 (lock fieldAddrD prog 53 t3_j8 1 fun t53 =>
 ((lock loadD prog s27 9 t53 fun t54 =>
 ((env 199 [p0_j8] s27 (fun t56 s31 =>
 ((env 82 [(.pv (.str [98,117,105,108,116])),t54,t56] s31 (fun t57 s32 =>
 ((lock storeD prog s32 50 t2_j8 t57 fun s33 =>
 (lock loadD prog s33 50 t2_j8 fun r0 =>
 (retV (r0) s33 K)))/\True)) (panV X))/\True)) (panV X))/\True))/\((env 199 [p0_j8] s27 (fun t56 s28 =>
 ((lock loadD prog s28 9 t53 fun t54 =>
 ((env 82 [(.pv (.str [98,117,105,108,116])),t54,t56] s28 (fun t57 s29 =>
 ((lock storeD prog s29 50 t2_j8 t57 fun s30 =>
 (lock loadD prog s30 50 t2_j8 fun r0 =>
 (retV (r0) s30 K)))/\True)) (panV X))/\True))/\True)) (panV X))/\True)))
 (lock fieldAddrD prog 53 t3_j8 1 fun t58 =>
 (lock loadD prog s27 9 t58 fun t59 =>
 (lock binD prog .eql 9 t59 (.pv (.str [108,101,110,103,116,104])) fun t60 =>
 (env 35 [t60] s27 (fun t61 s34 =>
 (lock fieldAddrD prog 53 t3_j8 1 fun t62 =>
 (lock loadD prog s34 9 t62 fun t63 =>
 (env 82 [(.pv (.str [98,117,105,108,116])),t63,(.nilS)] s34 (fun t64 s35 =>
 (lock storeD prog s35 50 t2_j8 t64 fun s36 =>
 (lock loadD prog s36 50 t2_j8 fun r0 =>
 (retV (r0) s36 K)))) (panV X))))) (panV X))))))) (panV X))) (panV X))
 (lock loadD prog s 53 t3_j8 fun t65 =>
 (env 75 [(.pv (.str [40]))] s (fun t67 s37 =>
 (lock binD prog .eql 53 t65 t67 fun t68 =>
 (condD t68
 (env 193 [p0_j8,(.pv (.bool false))] s37 (fun t70 s38 =>
 (env 75 [(.pv (.str [41]))] s38 (fun t72 s39 =>
 (env 126 [p0_j8,t72] s39 (fun t73 s40 =>
 (lock lenD prog 23 t70 fun t76 =>
 (lock binD prog .eql 3 t76 (.pv (.int .i64 1)) fun t77 =>
 (condD t77
 (env 82 [(.pv (.str [103,114,111,117,112])),(.pv (.str [])),t70] s40 (fun t79 s41 =>
 (lock storeD prog s41 50 t2_j8 t79 fun s42 =>
 (lock loadD prog s42 50 t2_j8 fun r0 =>
 (retV (r0) s42 K)))) (panV X))
 (env 81 [(.pv (.str [105,110]))] s40 (fun t82 s43 =>
 (env 80 [p0_j8,t82] s43 (fun t83 s44 =>
 (condD t83
 (lock buildSliceD prog false s44 26 1 1 [(0,(.pv (.str [110,97,109,101])))] fun t85 s45 =>
 (env 128 [p0_j8,t85] s45 (fun t86 s46 =>
 (env 82 [(.pv (.str [105,110])),t86,t70] s46 (fun t88 s47 =>
 (lock storeD prog s47 50 t2_j8 t88 fun s48 =>
 (lock loadD prog s48 50 t2_j8 fun r0 =>
 (retV (r0) s48 K)))) (panV X))) (panV X)))
 (env 82 [(.pv (.str [108,105,115,116])),(.pv (.str [])),t70] s44 (fun t90 s49 =>
 (lock storeD prog s49 50 t2_j8 t90 fun s50 =>
 (lock loadD prog s50 50 t2_j8 fun r0 =>
 (retV (r0) s50 K)))) (panV X)))) (panV X))) (panV X)))))) (panV X))) (panV X))) (panV X))
 (env 75 [(.pv (.str [36]))] s37 (fun t92 s51 =>
 (lock binD prog .eql 53 t65 t92 fun t93 =>
 (condD t93
 (env 194 [p0_j8] s51 (fun t96 s52 =>
 (lock extractD t96 0 fun t97 =>
 (lock extractD t96 1 fun t98 =>
 (lock allocD prog s52 50 fun t5 s53 =>
 (lock storeD prog s53 50 t5 t97 fun s54 =>
 (condD t98
 (lock loadD prog s54 50 t5 fun t100 =>
 (lock buildSliceD prog false s54 23 1 1 [(0,t100)] fun t101 s55 =>
 (env 82 [(.pv (.str [102,105,101,108,100])),(.pv (.str [])),t101] s55 (fun t102 s56 =>
 (lock storeD prog s56 50 t2_j8 t102 fun s57 =>
 (lock loadD prog s57 50 t2_j8 fun r0 =>
 (retV (r0) s57 K)))) (panV X))))
 (env 195 [p0_j8] s54 (fun t104 s58 =>
 (lock buildSliceD prog false s58 23 1 1 [(0,t104)] fun t105 s59 =>
 (env 82 [(.pv (.str [102,105,101,108,100])),(.pv (.str [])),t105] s59 (fun t106 s60 =>
 (lock storeD prog s60 50 t2_j8 t106 fun s61 =>
 (lock loadD prog s61 50 t2_j8 fun r0 =>
 (retV (r0) s61 K)))) (panV X)))) (panV X)))))))) (panV X))
 (lock buildD prog 80 [] fun t107 =>
 (lock ifaceD prog 80 t107 fun t108 =>
 (lock panicD s51 t108 (panV X))))))) (panV X))))) (panV X))))))))))
def S195 (env:Env) (p0_a:AV) (s:AS) (K:AV->AS->Prop) (X:PV->AS->Prop):Prop :=
 (lock allocD prog s 50 fun t2 s1 =>
 (env 74 [p0_a,(.pv (.int .i64 0))] s1 (fun t8 s2 =>
 (lock allocD prog s2 53 fun t3 s3 =>
 (lock storeD prog s3 53 t3 t8 fun s4 =>
 (lock loadD prog s4 53 t3 fun t9 =>
 (lock loadD prog s4 53 (.glob 0) fun t10 =>
 (lock binD prog .neq 53 t9 t10 fun t11 =>
 (env 35 [t11] s4 (fun t12 s5 =>
 (env 76 [p0_a,(.pv (.int .i64 1))] s5 (fun t14 s6 =>
 (lock fieldAddrD prog 53 t3 0 fun t15 =>
 (lock loadD prog s6 9 t15 fun t16 =>
 (lock binD prog .eql 9 t16 (.pv (.str [110,117,109])) fun t18 =>
 (condD t18
 (J195_8 env  (p0_a) (t2) (t3) (t16) (t18) s6 K X)
 (lock binD prog .eql 9 t16 (.pv (.str [115,116,114])) fun t19 =>
 (condD t19
 (J195_8 env  (p0_a) (t2) (t3) (t16) (t19) s6 K X)
 (lock binD prog .eql 9 t16 (.pv (.str [101,114,101])) fun t20 =>
 (J195_8 env  (p0_a) (t2) (t3) (t16) (t20) s6 K X))))))))) (panV X))) (panV X)))))))) (panV X)))
theorem S195_eq (env:Env) (p0_a:AV) (s:AS) (K:AV->AS->Prop) (X:PV->AS->Prop):S195 env p0_a s K X=bodyD prog env an195 f195 [p0_a] s K X:=by
  unfold S195
  kernel_rfl
theorem S195_ok:(match f195.body with | some c=>okCode an195 prog f195.ntmps c | none=>false)=true:=by kernel_rfl
end Go.AD
