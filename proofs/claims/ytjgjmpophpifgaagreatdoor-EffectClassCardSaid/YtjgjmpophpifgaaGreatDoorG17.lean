import Derived.Test.YtjgjmpophpifgaaGreatDoorM7
set_option linter.unusedVariables false
set_option maxRecDepth 100000
namespace Go.AD
open Go.Proofs.Tryz
def an89:An:={ mu:=[],cut:=[(2,[1,2,4]),(4,[1,2,21])],loop:=[],inv:=[4] }
def J89_4 (env:Env)  (n1_j4 t2_j4 t21_j4:AV) (s:AS) (K:AV->AS->Prop) (X:PV->AS->Prop):Prop :=
 (condD t21_j4
 (∃ I5:List Bool->List AV->AS->Prop,I5 [false,false,false,false,false,false,false,false,false,false,false,false,false] [.undef,.undef,.undef,.undef,.undef,.undef,.undef,.undef,.undef,.undef,.undef,.undef] s/\(∀ b0:Bool,∀ b1:Bool,∀ b2:Bool,∀ b3:Bool,∀ b4:Bool,∀ b5:Bool,∀ b6:Bool,∀ b7:Bool,∀ b8:Bool,∀ b9:Bool,∀ b10:Bool,∀ b11:Bool,∀ b12:Bool,∀ t31:AV,∀ t32:AV,∀ t33:AV,∀ t34:AV,∀ t35:AV,∀ t36:AV,∀ t37:AV,∀ t38:AV,∀ t39:AV,∀ t40:AV,∀ t41:AV,∀ t3:AV,(∀ s5,I5 [b0,b1,b2,b3,b4,b5,b6,b7,b8,b9,b10,b11,b12] [t31,t32,t33,t34,t35,t36,t37,t38,t39,t40,t41,t3] s5 ->
 ((b0=false->(True) ->
 (lock fieldAddrD prog 50 n1_j4 2 fun t31 =>
 (I5 [true,b1,b2,b3,b4,b5,b6,b7,b8,b9,b10,b11,b12] [t31,t32,t33,t34,t35,t36,t37,t38,t39,t40,t41,t3] s5))) /\
 (b1=false->((b0=true)/\True) ->
 (lock loadD prog s5 23 t31 fun t32 =>
 (I5 [b0,true,b2,b3,b4,b5,b6,b7,b8,b9,b10,b11,b12] [t31,t32,t33,t34,t35,t36,t37,t38,t39,t40,t41,t3] s5))) /\
 (b2=false->((b1=true)/\True) ->
 (lock indexAddrD prog 23 t32 (.pv (.int .i64 0)) fun t33 =>
 (I5 [b0,b1,true,b3,b4,b5,b6,b7,b8,b9,b10,b11,b12] [t31,t32,t33,t34,t35,t36,t37,t38,t39,t40,t41,t3] s5))) /\
 (b3=false->((b2=true)/\True) ->
 (lock loadD prog s5 50 t33 fun t34 =>
 (I5 [b0,b1,b2,true,b4,b5,b6,b7,b8,b9,b10,b11,b12] [t31,t32,t33,t34,t35,t36,t37,t38,t39,t40,t41,t3] s5))) /\
 (b4=false->(True) ->
 (lock fieldAddrD prog 50 n1_j4 2 fun t35 =>
 (I5 [b0,b1,b2,b3,true,b5,b6,b7,b8,b9,b10,b11,b12] [t31,t32,t33,t34,t35,t36,t37,t38,t39,t40,t41,t3] s5))) /\
 (b5=false->((b4=true)/\True) ->
 (lock loadD prog s5 23 t35 fun t36 =>
 (I5 [b0,b1,b2,b3,b4,true,b6,b7,b8,b9,b10,b11,b12] [t31,t32,t33,t34,t35,t36,t37,t38,t39,t40,t41,t3] s5))) /\
 (b6=false->((b5=true)/\True) ->
 (lock indexAddrD prog 23 t36 (.pv (.int .i64 1)) fun t37 =>
 (I5 [b0,b1,b2,b3,b4,b5,true,b7,b8,b9,b10,b11,b12] [t31,t32,t33,t34,t35,t36,t37,t38,t39,t40,t41,t3] s5))) /\
 (b7=false->((b6=true)/\True) ->
 (lock loadD prog s5 50 t37 fun t38 =>
 (I5 [b0,b1,b2,b3,b4,b5,b6,true,b8,b9,b10,b11,b12] [t31,t32,t33,t34,t35,t36,t37,t38,t39,t40,t41,t3] s5))) /\
 (b8=false->((b3=true)/\(b7=true)/\True) ->
 (env 135 [t34,t38] s5 (fun t39 s6 =>
 (I5 [b0,b1,b2,b3,b4,b5,b6,b7,true,b9,b10,b11,b12] [t31,t32,t33,t34,t35,t36,t37,t38,t39,t40,t41,t3] s6)) (panV X))) /\
 (b9=false->((b8=true)/\True) ->
 (lock extractD t39 0 fun t40 =>
 (I5 [b0,b1,b2,b3,b4,b5,b6,b7,b8,true,b10,b11,b12] [t31,t32,t33,t34,t35,t36,t37,t38,t39,t40,t41,t3] s5))) /\
 (b10=false->((b8=true)/\True) ->
 (lock extractD t39 1 fun t41 =>
 (I5 [b0,b1,b2,b3,b4,b5,b6,b7,b8,b9,true,b11,b12] [t31,t32,t33,t34,t35,t36,t37,t38,t39,t40,t41,t3] s5))) /\
 (b11=false->((b9=true)/\(b8=true)/\(b0=true)/\(b1=true)/\(b2=true)/\(b3=true)/\(b4=true)/\(b5=true)/\(b6=true)/\(b7=true)/\(b8=true)/\(b9=true)/\(b10=true)/\True) ->
 (lock storeD prog s5 131 t2_j4 t40 fun s7 =>
 (I5 [b0,b1,b2,b3,b4,b5,b6,b7,b8,b9,b10,true,b12] [t31,t32,t33,t34,t35,t36,t37,t38,t39,t40,t41,t3] s7))) /\
 (b12=false->((b10=true)/\(b11=true)/\(b0=true)/\(b1=true)/\(b2=true)/\(b3=true)/\(b4=true)/\(b5=true)/\(b6=true)/\(b7=true)/\(b8=true)/\(b9=true)/\(b10=true)/\(b11=true)/\True) ->
 (I5 [b0,b1,b2,b3,b4,b5,b6,b7,b8,b9,b10,b11,true] [t31,t32,t33,t34,t35,t36,t37,t38,t39,t40,t41,t41] s5))/\True)/\((b0 && (b1 && (b2 && (b3 && (b4 && (b5 && (b6 && (b7 && (b8 && (b9 && (b10 && (b11 && (b12 && true)))))))))))))=true ->
 (lock loadD prog s5 131 t2_j4 fun r0 =>
 (retV (.tuple [r0,t3]) s5 K))))))
 (lock buildD prog 131 [] fun t42 =>
 (lock storeD prog s 131 t2_j4 t42 fun s8 =>
 (lock loadD prog s8 131 t2_j4 fun r0 =>
 (retV (.tuple [r0,(.pv (.bool false))]) s8 K)))))
def J89_2 (env:Env)  (n1_j2 t2_j2 t4_j2:AV) (s:AS) (K:AV->AS->Prop) (X:PV->AS->Prop):Prop :=
 (condD t4_j2
 (lock fieldAddrD prog 50 n1_j2 2 fun t14 =>
 (lock loadD prog s 23 t14 fun t15 =>
 (lock indexAddrD prog 23 t15 (.pv (.int .i64 0)) fun t16 =>
 (lock loadD prog s 50 t16 fun t17 =>
 (env 134 [t17] s (fun t18 s3 =>
 (lock extractD t18 0 fun t19 =>
 (lock extractD t18 1 fun t20 =>
 (lock storeD prog s3 131 t2_j2 t19 fun s4 =>
 (lock loadD prog s4 131 t2_j2 fun r0 =>
 (retV (.tuple [r0,t20]) s4 K)))))) (panV X))))))
 (lock fieldAddrD prog 50 n1_j2 0 fun t22 =>
 (lock loadD prog s 9 t22 fun t23 =>
 (lock binD prog .eql 9 t23 (.pv (.str [105,102])) fun t24 =>
 (guardD t24 true
 (lock fieldAddrD prog 50 n1_j2 2 fun t26 =>
 (lock loadD prog s 23 t26 fun t27 =>
 (lock lenD prog 23 t27 fun t28 =>
 (lock binD prog .eql 3 t28 (.pv (.int .i64 2)) fun t29 =>
 (J89_4 env  (n1_j2) (t2_j2) (t29) s K X)))))
 (J89_4 env  (n1_j2) (t2_j2) (.pv (.bool false)) s K X))))))
def S89 (env:Env) (n0_a:AV) (s:AS) (K:AV->AS->Prop) (X:PV->AS->Prop):Prop :=
 (lock boxD s n0_a fun t1 s1 =>
 (lock allocD prog s1 131 fun t2 s2 =>
 (lock fieldAddrD prog 50 t1 0 fun t5 =>
 (lock loadD prog s2 9 t5 fun t6 =>
 (lock binD prog .eql 9 t6 (.pv (.str [101,120,112,114])) fun t7 =>
 (guardD t7 true
 (lock fieldAddrD prog 50 t1 2 fun t9 =>
 (lock loadD prog s2 23 t9 fun t10 =>
 (lock lenD prog 23 t10 fun t11 =>
 (lock binD prog .eql 3 t11 (.pv (.int .i64 1)) fun t12 =>
 (J89_2 env  (t1) (t2) (t12) s2 K X)))))
 (J89_2 env  (t1) (t2) (.pv (.bool false)) s2 K X)))))))
theorem S89_eq (env:Env) (n0_a:AV) (s:AS) (K:AV->AS->Prop) (X:PV->AS->Prop):S89 env n0_a s K X=bodyD prog env an89 f89 [n0_a] s K X:=by
  unfold S89
  kernel_rfl
theorem S89_ok:(match f89.body with | some c=>okCode an89 prog f89.ntmps c | none=>false)=true:=by kernel_rfl
def an134:An:={ mu:=[],cut:=[(3,[1,2]),(5,[1,2,4,5]),(6,[1,2,4,5,47]),(8,[1,2,4,5,55]),(11,[2,4])],loop:=[],inv:=[3,11] }
def J134_11 (env:Env)  (t2_j11 f4_j11:AV) (s:AS) (K:AV->AS->Prop) (X:PV->AS->Prop):Prop :=
 (∃ I9:List Bool->List AV->AS->Prop,I9 [false,false,false,false,false,false] [.undef,.undef,.undef,.undef,.undef] s/\(∀ b0:Bool,∀ b1:Bool,∀ b2:Bool,∀ b3:Bool,∀ b4:Bool,∀ b5:Bool,∀ t79:AV,∀ t80:AV,∀ t81:AV,∀ t82:AV,∀ t3:AV,(∀ s9,I9 [b0,b1,b2,b3,b4,b5] [t79,t80,t81,t82,t3] s9 ->
 ((b0=false->(True) ->
 (lock loadD prog s9 131 f4_j11 fun t79 =>
 (I9 [true,b1,b2,b3,b4,b5] [t79,t80,t81,t82,t3] s9))) /\
 (b1=false->((True)/\True) ->
 (lock fieldAddrD prog 131 f4_j11 0 fun t80 =>
 (I9 [b0,true,b2,b3,b4,b5] [t79,t80,t81,t82,t3] s9))) /\
 (b2=false->((b1=true)/\(True)/\True) ->
 (lock loadD prog s9 9 t80 fun t81 =>
 (I9 [b0,b1,true,b3,b4,b5] [t79,t80,t81,t82,t3] s9))) /\
 (b3=false->((b2=true)/\(True)/\True) ->
 (lock binD prog .neq 9 t81 (.pv (.str [])) fun t82 =>
 (I9 [b0,b1,b2,true,b4,b5] [t79,t80,t81,t82,t3] s9))) /\
 (b4=false->((b0=true)/\(b0=true)/\(True)/\(True)/\(True)/\True) ->
 (lock storeD prog s9 131 t2_j11 t79 fun s10 =>
 (I9 [b0,b1,b2,b3,true,b5] [t79,t80,t81,t82,t3] s10))) /\
 (b5=false->((b3=true)/\(b4=true)/\(b0=true)/\(b1=true)/\(b2=true)/\(b3=true)/\(b4=true)/\True) ->
 (I9 [b0,b1,b2,b3,b4,true] [t79,t80,t81,t82,t82] s9))/\True)/\((b0 && (b1 && (b2 && (b3 && (b4 && (b5 && true))))))=true ->
 (lock loadD prog s9 131 t2_j11 fun r0 =>
 (retV (.tuple [r0,t3]) s9 K))))))
def J134_8 (env:Env)  (n1_j8 t2_j8 f4_j8 adds5_j8 t55_j8:AV) (s:AS) (K:AV->AS->Prop) (X:PV->AS->Prop):Prop :=
 (condD t55_j8
 (lock fieldAddrD prog 131 f4_j8 0 fun t64 =>
 (lock storeD prog s 9 t64 (.pv (.str [108,97,115,116])) fun s12 =>
 (J134_11 env  (t2_j8) (f4_j8) s12 K X)))
 (lock fieldAddrD prog 131 f4_j8 1 fun t66 =>
 (lock fieldAddrD prog 50 t66 0 fun t67 =>
 (lock loadD prog s 9 t67 fun t68 =>
 (lock binD prog .eql 9 t68 (.pv (.str [101,108,101,109])) fun t69 =>
 (guardD t69 true
 (guardD adds5_j8 true
 (lock fieldAddrD prog 50 n1_j8 2 fun t74 =>
 (lock loadD prog s 23 t74 fun t75 =>
 (env 167 [t75] s (fun t76 s13 =>
 (condD t76
 (lock fieldAddrD prog 131 f4_j8 0 fun t78 =>
 (lock storeD prog s13 9 t78 (.pv (.str [115,117,109,115])) fun s14 =>
 (J134_11 env  (t2_j8) (f4_j8) s14 K X)))
 (J134_11 env  (t2_j8) (f4_j8) s13 K X))) (panV X))))
 (J134_11 env  (t2_j8) (f4_j8) s K X))
 (J134_11 env  (t2_j8) (f4_j8) s K X)))))))
def J134_6 (env:Env)  (n1_j6 t2_j6 f4_j6 adds5_j6 t47_j6:AV) (s:AS) (K:AV->AS->Prop) (X:PV->AS->Prop):Prop :=
 (condD t47_j6
 (lock fieldAddrD prog 131 f4_j6 0 fun t54 =>
 (lock storeD prog s 9 t54 (.pv (.str [115,117,109])) fun s8 =>
 (J134_11 env  (t2_j6) (f4_j6) s8 K X)))
 (lock fieldAddrD prog 131 f4_j6 1 fun t56 =>
 (lock loadD prog s 50 t56 fun t57 =>
 (env 166 [t57] s (fun t58 s11 =>
 (guardD t58 true
 (lock fieldAddrD prog 50 n1_j6 1 fun t60 =>
 (lock loadD prog s11 9 t60 fun t61 =>
 (lock binD prog .eql 9 t61 (.pv (.str [61])) fun t62 =>
 (J134_8 env  (n1_j6) (t2_j6) (f4_j6) (adds5_j6) (t62) s11 K X))))
 (J134_8 env  (n1_j6) (t2_j6) (f4_j6) (adds5_j6) (.pv (.bool false)) s11 K X))) (panV X)))))
def J134_5 (env:Env)  (n1_j5 t2_j5 f4_j5 adds5_j5:AV) (s:AS) (K:AV->AS->Prop) (X:PV->AS->Prop):Prop :=
 (lock fieldAddrD prog 131 f4_j5 1 fun t48 =>
 (lock loadD prog s 50 t48 fun t49 =>
 (env 166 [t49] s (fun t50 s7 =>
 (guardD t50 true
 (J134_6 env  (n1_j5) (t2_j5) (f4_j5) (adds5_j5) (adds5_j5) s7 K X)
 (J134_6 env  (n1_j5) (t2_j5) (f4_j5) (adds5_j5) (.pv (.bool false)) s7 K X))) (panV X))))
def J134_3 (env:Env)  (n1_j3 t2_j3:AV) (s:AS) (K:AV->AS->Prop) (X:PV->AS->Prop):Prop :=
 (∃ I4:List Bool->List AV->AS->Prop,I4 [false,false,false,false,false,false,false,false,false,false] [.undef,.undef,.undef,.undef,.undef,.undef,.undef,.undef,.undef] s/\(∀ b0:Bool,∀ b1:Bool,∀ b2:Bool,∀ b3:Bool,∀ b4:Bool,∀ b5:Bool,∀ b6:Bool,∀ b7:Bool,∀ b8:Bool,∀ b9:Bool,∀ t26:AV,∀ t27:AV,∀ t28:AV,∀ t29:AV,∀ t30:AV,∀ t31:AV,∀ t32:AV,∀ t33:AV,∀ t4:AV,(∀ s4,I4 [b0,b1,b2,b3,b4,b5,b6,b7,b8,b9] [t26,t27,t28,t29,t30,t31,t32,t33,t4] s4 ->
 ((b0=false->(True) ->
 (lock fieldAddrD prog 50 n1_j3 2 fun t26 =>
 (I4 [true,b1,b2,b3,b4,b5,b6,b7,b8,b9] [t26,t27,t28,t29,t30,t31,t32,t33,t4] s4))) /\
 (b1=false->((b0=true)/\True) ->
 (lock loadD prog s4 23 t26 fun t27 =>
 (I4 [b0,true,b2,b3,b4,b5,b6,b7,b8,b9] [t26,t27,t28,t29,t30,t31,t32,t33,t4] s4))) /\
 (b2=false->((b1=true)/\True) ->
 (lock indexAddrD prog 23 t27 (.pv (.int .i64 0)) fun t28 =>
 (I4 [b0,b1,true,b3,b4,b5,b6,b7,b8,b9] [t26,t27,t28,t29,t30,t31,t32,t33,t4] s4))) /\
 (b3=false->((b2=true)/\True) ->
 (lock loadD prog s4 50 t28 fun t29 =>
 (I4 [b0,b1,b2,true,b4,b5,b6,b7,b8,b9] [t26,t27,t28,t29,t30,t31,t32,t33,t4] s4))) /\
 (b4=false->(True) ->
 (lock fieldAddrD prog 50 n1_j3 2 fun t30 =>
 (I4 [b0,b1,b2,b3,true,b5,b6,b7,b8,b9] [t26,t27,t28,t29,t30,t31,t32,t33,t4] s4))) /\
 (b5=false->((b4=true)/\True) ->
 (lock loadD prog s4 23 t30 fun t31 =>
 (I4 [b0,b1,b2,b3,b4,true,b6,b7,b8,b9] [t26,t27,t28,t29,t30,t31,t32,t33,t4] s4))) /\
 (b6=false->((b5=true)/\True) ->
 (lock sliceD prog 23 t31 (some (.pv (.int .i64 1))) none fun t32 =>
 (I4 [b0,b1,b2,b3,b4,b5,true,b7,b8,b9] [t26,t27,t28,t29,t30,t31,t32,t33,t4] s4))) /\
 (b7=false->((b3=true)/\(b6=true)/\True) ->
 (lock buildD prog 131 [(1,t29),(2,t32)] fun t33 =>
 (I4 [b0,b1,b2,b3,b4,b5,b6,true,b8,b9] [t26,t27,t28,t29,t30,t31,t32,t33,t4] s4))) /\
 (b8=false->(True) ->
 (lock allocD prog s4 131 fun t4 s5 =>
 (I4 [b0,b1,b2,b3,b4,b5,b6,b7,true,b9] [t26,t27,t28,t29,t30,t31,t32,t33,t4] s5))) /\
 (b9=false->((b8=true)/\(b7=true)/\(b0=true)/\(b1=true)/\(b2=true)/\(b3=true)/\(b4=true)/\(b5=true)/\(b6=true)/\(b7=true)/\(b8=true)/\True) ->
 (lock storeD prog s4 131 t4 t33 fun s6 =>
 (I4 [b0,b1,b2,b3,b4,b5,b6,b7,b8,true] [t26,t27,t28,t29,t30,t31,t32,t33,t4] s6)))/\True)/\((b0 && (b1 && (b2 && (b3 && (b4 && (b5 && (b6 && (b7 && (b8 && (b9 && true))))))))))=true ->
 (lock fieldAddrD prog 50 n1_j3 0 fun t34 =>
 (lock loadD prog s4 9 t34 fun t35 =>
 (lock binD prog .neq 9 t35 (.pv (.str [97,115,115,105,103,110])) fun t36 =>
 (guardD t36 false
 (lock fieldAddrD prog 50 n1_j3 1 fun t38 =>
 (lock loadD prog s4 9 t38 fun t39 =>
 (lock binD prog .eql 9 t39 (.pv (.str [43,61])) fun t40 =>
 (guardD t40 false
 (lock fieldAddrD prog 50 n1_j3 1 fun t43 =>
 (lock loadD prog s4 9 t43 fun t44 =>
 (lock binD prog .eql 9 t44 (.pv (.str [45,61])) fun t45 =>
 (J134_5 env  (n1_j3) (t2_j3) (t4) (t45) s4 K X))))
 (J134_5 env  (n1_j3) (t2_j3) (t4) (.pv (.bool true)) s4 K X)))))
 (J134_5 env  (n1_j3) (t2_j3) (t4) (.pv (.bool true)) s4 K X)))))))))
def S134 (env:Env) (n0_a:AV) (s:AS) (K:AV->AS->Prop) (X:PV->AS->Prop):Prop :=
 (lock boxD s n0_a fun t1 s1 =>
 (lock allocD prog s1 131 fun t2 s2 =>
 (lock fieldAddrD prog 50 t1 0 fun t6 =>
 (lock loadD prog s2 9 t6 fun t7 =>
 (lock binD prog .neq 9 t7 (.pv (.str [97,115,115,105,103,110])) fun t8 =>
 (guardD t8 true
 (lock fieldAddrD prog 50 t1 0 fun t10 =>
 (lock loadD prog s2 9 t10 fun t11 =>
 (lock binD prog .neq 9 t11 (.pv (.str [112,114,101])) fun t12 =>
 (guardD t12 true
 (lock fieldAddrD prog 50 t1 0 fun t15 =>
 (lock loadD prog s2 9 t15 fun t16 =>
 (lock binD prog .neq 9 t16 (.pv (.str [112,111,115,116])) fun t17 =>
 (guardD t17 false
 (lock fieldAddrD prog 50 t1 2 fun t20 =>
 (lock loadD prog s2 23 t20 fun t21 =>
 (lock lenD prog 23 t21 fun t22 =>
 (lock binD prog .eql 3 t22 (.pv (.int .i64 0)) fun t23 =>
 (condD t23
 (lock buildD prog 131 [] fun t25 =>
 (lock storeD prog s2 131 t2 t25 fun s3 =>
 (lock loadD prog s3 131 t2 fun r0 =>
 (retV (.tuple [r0,(.pv (.bool false))]) s3 K))))
 (J134_3 env  (t1) (t2) s2 K X))))))
 (lock buildD prog 131 [] fun t25 =>
 (lock storeD prog s2 131 t2 t25 fun s15 =>
 (lock loadD prog s15 131 t2 fun r0 =>
 (retV (.tuple [r0,(.pv (.bool false))]) s15 K))))))))
 (lock fieldAddrD prog 50 t1 2 fun t20 =>
 (lock loadD prog s2 23 t20 fun t21 =>
 (lock lenD prog 23 t21 fun t22 =>
 (lock binD prog .eql 3 t22 (.pv (.int .i64 0)) fun t23 =>
 (condD t23
 (lock buildD prog 131 [] fun t25 =>
 (lock storeD prog s2 131 t2 t25 fun s16 =>
 (lock loadD prog s16 131 t2 fun r0 =>
 (retV (.tuple [r0,(.pv (.bool false))]) s16 K))))
 (J134_3 env  (t1) (t2) s2 K X))))))))))
 (lock fieldAddrD prog 50 t1 2 fun t20 =>
 (lock loadD prog s2 23 t20 fun t21 =>
 (lock lenD prog 23 t21 fun t22 =>
 (lock binD prog .eql 3 t22 (.pv (.int .i64 0)) fun t23 =>
 (condD t23
 (lock buildD prog 131 [] fun t25 =>
 (lock storeD prog s2 131 t2 t25 fun s17 =>
 (lock loadD prog s17 131 t2 fun r0 =>
 (retV (.tuple [r0,(.pv (.bool false))]) s17 K))))
 (J134_3 env  (t1) (t2) s2 K X))))))))))))
theorem S134_eq (env:Env) (n0_a:AV) (s:AS) (K:AV->AS->Prop) (X:PV->AS->Prop):S134 env n0_a s K X=bodyD prog env an134 f134 [n0_a] s K X:=by
  unfold S134
  kernel_rfl
theorem S134_ok:(match f134.body with | some c=>okCode an134 prog f134.ntmps c | none=>false)=true:=by kernel_rfl
def an135:An:={ mu:=[],cut:=[(3,[2,3,4,19]),(4,[2,3,4]),(6,[2,3,4]),(10,[4,6,7,8])],loop:=[],any:=[8],inv:=[6] }
def J135_10 (env:Env)  (t4_j10 e6_j10 v7_j10 class8_j10:AV) (s:AS) (K:AV->AS->Prop) (X:PV->AS->Prop):Prop :=
 (lock loadD prog s 50 v7_j10 fun t96 =>
 (lock loadD prog s 50 e6_j10 fun t97 =>
 (lock buildSliceD prog false s 23 1 1 [(0,t97)] fun t98 s24 =>
 (lock buildD prog 131 [(0,class8_j10),(1,t96),(2,t98)] fun t99 =>
 (lock storeD prog s24 131 t4_j10 t99 fun s25 =>
 (lock loadD prog s25 131 t4_j10 fun r0 =>
 (retV (.tuple [r0,(.pv (.bool true))]) s25 K)))))))
def J135_6 (env:Env)  (c2_j6 s3_j6 t4_j6:AV) (s:AS) (K:AV->AS->Prop) (X:PV->AS->Prop):Prop :=
 (∃ I8:List Bool->List AV->AS->Prop,I8 [false,false,false,false,false,false,false,false,false,false,false,false] [.undef,.undef,.undef,.undef,.undef,.undef,.undef,.undef,.undef,.undef] s/\(∀ b0:Bool,∀ b1:Bool,∀ b2:Bool,∀ b3:Bool,∀ b4:Bool,∀ b5:Bool,∀ b6:Bool,∀ b7:Bool,∀ b8:Bool,∀ b9:Bool,∀ b10:Bool,∀ b11:Bool,∀ t45:AV,∀ t46:AV,∀ t47:AV,∀ t48:AV,∀ t49:AV,∀ t50:AV,∀ t51:AV,∀ t52:AV,∀ t6:AV,∀ t7:AV,(∀ s8,I8 [b0,b1,b2,b3,b4,b5,b6,b7,b8,b9,b10,b11] [t45,t46,t47,t48,t49,t50,t51,t52,t6,t7] s8 ->
 ((b0=false->(True) ->
 (lock fieldAddrD prog 50 c2_j6 2 fun t45 =>
 (I8 [true,b1,b2,b3,b4,b5,b6,b7,b8,b9,b10,b11] [t45,t46,t47,t48,t49,t50,t51,t52,t6,t7] s8))) /\
 (b1=false->((b0=true)/\True) ->
 (lock loadD prog s8 23 t45 fun t46 =>
 (I8 [b0,true,b2,b3,b4,b5,b6,b7,b8,b9,b10,b11] [t45,t46,t47,t48,t49,t50,t51,t52,t6,t7] s8))) /\
 (b2=false->((b1=true)/\True) ->
 (lock indexAddrD prog 23 t46 (.pv (.int .i64 0)) fun t47 =>
 (I8 [b0,b1,true,b3,b4,b5,b6,b7,b8,b9,b10,b11] [t45,t46,t47,t48,t49,t50,t51,t52,t6,t7] s8))) /\
 (b3=false->((b2=true)/\True) ->
 (lock loadD prog s8 50 t47 fun t48 =>
 (I8 [b0,b1,b2,true,b4,b5,b6,b7,b8,b9,b10,b11] [t45,t46,t47,t48,t49,t50,t51,t52,t6,t7] s8))) /\
 (b4=false->((True)/\True) ->
 (lock fieldAddrD prog 50 c2_j6 2 fun t49 =>
 (I8 [b0,b1,b2,b3,true,b5,b6,b7,b8,b9,b10,b11] [t45,t46,t47,t48,t49,t50,t51,t52,t6,t7] s8))) /\
 (b5=false->((b4=true)/\(True)/\True) ->
 (lock loadD prog s8 23 t49 fun t50 =>
 (I8 [b0,b1,b2,b3,b4,true,b6,b7,b8,b9,b10,b11] [t45,t46,t47,t48,t49,t50,t51,t52,t6,t7] s8))) /\
 (b6=false->((b5=true)/\(True)/\True) ->
 (lock indexAddrD prog 23 t50 (.pv (.int .i64 1)) fun t51 =>
 (I8 [b0,b1,b2,b3,b4,b5,true,b7,b8,b9,b10,b11] [t45,t46,t47,t48,t49,t50,t51,t52,t6,t7] s8))) /\
 (b7=false->((b6=true)/\(True)/\True) ->
 (lock loadD prog s8 50 t51 fun t52 =>
 (I8 [b0,b1,b2,b3,b4,b5,b6,true,b8,b9,b10,b11] [t45,t46,t47,t48,t49,t50,t51,t52,t6,t7] s8))) /\
 (b8=false->(True) ->
 (lock allocD prog s8 50 fun t6 s9 =>
 (I8 [b0,b1,b2,b3,b4,b5,b6,b7,true,b9,b10,b11] [t45,t46,t47,t48,t49,t50,t51,t52,t6,t7] s9))) /\
 (b9=false->(True) ->
 (lock allocD prog s8 50 fun t7 s10 =>
 (I8 [b0,b1,b2,b3,b4,b5,b6,b7,b8,true,b10,b11] [t45,t46,t47,t48,t49,t50,t51,t52,t6,t7] s10))) /\
 (b10=false->((b8=true)/\(b3=true)/\(b0=true)/\(b1=true)/\(b2=true)/\(b3=true)/\(True)/\(True)/\(True)/\(True)/\(b8=true)/\(b9=true)/\True) ->
 (lock storeD prog s8 50 t6 t48 fun s11 =>
 (I8 [b0,b1,b2,b3,b4,b5,b6,b7,b8,b9,true,b11] [t45,t46,t47,t48,t49,t50,t51,t52,t6,t7] s11))) /\
 (b11=false->((b9=true)/\(b7=true)/\(b10=true)/\(b0=true)/\(b1=true)/\(b2=true)/\(b3=true)/\(b4=true)/\(b5=true)/\(b6=true)/\(b7=true)/\(b8=true)/\(b9=true)/\(b10=true)/\True) ->
 (lock storeD prog s8 50 t7 t52 fun s12 =>
 (I8 [b0,b1,b2,b3,b4,b5,b6,b7,b8,b9,b10,true] [t45,t46,t47,t48,t49,t50,t51,t52,t6,t7] s12)))/\True)/\((b0 && (b1 && (b2 && (b3 && (b4 && (b5 && (b6 && (b7 && (b8 && (b9 && (b10 && (b11 && true))))))))))))=true ->
 (lock makeMapD prog s8 94 none fun t53 s13 =>
 (lock mapUpdateD prog s13 94 t53 (.pv (.str [62])) (.pv (.str [109,97,120])) fun s14 =>
 (lock mapUpdateD prog s14 94 t53 (.pv (.str [60])) (.pv (.str [109,105,110])) fun s15 =>
 (lock fieldAddrD prog 50 c2_j6 1 fun t55 =>
 (lock loadD prog s15 9 t55 fun t56 =>
 (lock lookupD prog s15 94 t53 t56 false fun t57 =>
 (lock binD prog .eql 9 t57 (.pv (.str [])) fun t59 =>
 ((guardD t59 false
 (lock loadD prog s15 50 t7 fun t61 =>
 ((env 166 [t61] s15 (fun t62 s16 =>
 (unD .not t62 fun t63 =>
 ((guardD t63 false
 (lock loadD prog s16 50 t6 fun t66 =>
 ((lock buildSliceD prog false s16 23 1 1 [(0,t66)] fun t67 s17 =>
 ((env 167 [t67] s17 (fun t68 s18 =>
 (unD .not t68 fun t69 =>
 ((guardD t69 false
 (lock loadD prog s18 50 t6 fun t72 =>
 ((env 169 [t72] s18 (fun t73 s19 =>
 (unD .not t73 fun t74 =>
 ((guardD t74 true
 (lock loadD prog s19 50 t6 fun t76 =>
 ((env 168 [t76] s19 (fun t77 s20 =>
 (lock fieldD prog 50 t77 0 fun t78 =>
 (lock binD prog .neq 9 t78 (.pv (.str [102,105,101,108,100])) fun t79 =>
 (guardD t79 false
 (lock fieldAddrD prog 50 s3_j6 2 fun t83 =>
 ((lock loadD prog s20 23 t83 fun t84 =>
 (lock indexAddrD prog 23 t84 (.pv (.int .i64 0)) fun t85 =>
 ((lock loadD prog s20 50 t85 fun t86 =>
 ((lock loadD prog s20 50 t7 fun t87 =>
 ((lock loadD prog s20 50 t6 fun t88 =>
 ((lock buildSliceD prog false s20 23 2 2 [(0,t87),(1,t88)] fun t89 s100 =>
 ((lock buildD prog 50 [(0,(.pv (.str [97,115,115,105,103,110]))),(1,(.pv (.str [61]))),(2,t89)] fun t90 =>
 ((env 170 [t86,t90] s100 (fun t91 s101 =>
 (unD .not t91 fun t92 =>
 (condD t92
 (lock buildD prog 131 [] fun t94 =>
 (lock storeD prog s101 131 t4_j6 t94 fun s102 =>
 (lock loadD prog s102 131 t4_j6 fun r0 =>
 (retV (.tuple [r0,(.pv (.bool false))]) s102 K))))
 (J135_10 env  (t4_j6) (t6) (t7) (t57) s101 K X)))) (panV X))/\True))/\True))/\True))/\True))/\((lock loadD prog s20 50 t6 fun t88 =>
 ((lock loadD prog s20 50 t7 fun t87 =>
 ((lock buildSliceD prog false s20 23 2 2 [(0,t87),(1,t88)] fun t89 s97 =>
 ((lock buildD prog 50 [(0,(.pv (.str [97,115,115,105,103,110]))),(1,(.pv (.str [61]))),(2,t89)] fun t90 =>
 ((env 170 [t86,t90] s97 (fun t91 s98 =>
 (unD .not t91 fun t92 =>
 (condD t92
 (lock buildD prog 131 [] fun t94 =>
 (lock storeD prog s98 131 t4_j6 t94 fun s99 =>
 (lock loadD prog s99 131 t4_j6 fun r0 =>
 (retV (.tuple [r0,(.pv (.bool false))]) s99 K))))
 (J135_10 env  (t4_j6) (t6) (t7) (t57) s98 K X)))) (panV X))/\True))/\True))/\True))/\True))/\True)))/\((lock loadD prog s20 50 t7 fun t87 =>
 ((lock loadD prog s20 50 t85 fun t86 =>
 ((lock loadD prog s20 50 t6 fun t88 =>
 ((lock buildSliceD prog false s20 23 2 2 [(0,t87),(1,t88)] fun t89 s94 =>
 ((lock buildD prog 50 [(0,(.pv (.str [97,115,115,105,103,110]))),(1,(.pv (.str [61]))),(2,t89)] fun t90 =>
 ((env 170 [t86,t90] s94 (fun t91 s95 =>
 (unD .not t91 fun t92 =>
 (condD t92
 (lock buildD prog 131 [] fun t94 =>
 (lock storeD prog s95 131 t4_j6 t94 fun s96 =>
 (lock loadD prog s96 131 t4_j6 fun r0 =>
 (retV (.tuple [r0,(.pv (.bool false))]) s96 K))))
 (J135_10 env  (t4_j6) (t6) (t7) (t57) s95 K X)))) (panV X))/\True))/\True))/\True))/\True))/\((lock loadD prog s20 50 t6 fun t88 =>
 ((lock loadD prog s20 50 t85 fun t86 =>
 ((lock buildSliceD prog false s20 23 2 2 [(0,t87),(1,t88)] fun t89 s91 =>
 ((lock buildD prog 50 [(0,(.pv (.str [97,115,115,105,103,110]))),(1,(.pv (.str [61]))),(2,t89)] fun t90 =>
 ((env 170 [t86,t90] s91 (fun t91 s92 =>
 (unD .not t91 fun t92 =>
 (condD t92
 (lock buildD prog 131 [] fun t94 =>
 (lock storeD prog s92 131 t4_j6 t94 fun s93 =>
 (lock loadD prog s93 131 t4_j6 fun r0 =>
 (retV (.tuple [r0,(.pv (.bool false))]) s93 K))))
 (J135_10 env  (t4_j6) (t6) (t7) (t57) s92 K X)))) (panV X))/\True))/\True))/\True))/\((lock buildSliceD prog false s20 23 2 2 [(0,t87),(1,t88)] fun t89 s86 =>
 ((lock loadD prog s86 50 t85 fun t86 =>
 ((lock buildD prog 50 [(0,(.pv (.str [97,115,115,105,103,110]))),(1,(.pv (.str [61]))),(2,t89)] fun t90 =>
 ((env 170 [t86,t90] s86 (fun t91 s89 =>
 (unD .not t91 fun t92 =>
 (condD t92
 (lock buildD prog 131 [] fun t94 =>
 (lock storeD prog s89 131 t4_j6 t94 fun s90 =>
 (lock loadD prog s90 131 t4_j6 fun r0 =>
 (retV (.tuple [r0,(.pv (.bool false))]) s90 K))))
 (J135_10 env  (t4_j6) (t6) (t7) (t57) s89 K X)))) (panV X))/\True))/\True))/\((lock buildD prog 50 [(0,(.pv (.str [97,115,115,105,103,110]))),(1,(.pv (.str [61]))),(2,t89)] fun t90 =>
 ((lock loadD prog s86 50 t85 fun t86 =>
 ((env 170 [t86,t90] s86 (fun t91 s87 =>
 (unD .not t91 fun t92 =>
 (condD t92
 (lock buildD prog 131 [] fun t94 =>
 (lock storeD prog s87 131 t4_j6 t94 fun s88 =>
 (lock loadD prog s88 131 t4_j6 fun r0 =>
 (retV (.tuple [r0,(.pv (.bool false))]) s88 K))))
 (J135_10 env  (t4_j6) (t6) (t7) (t57) s87 K X)))) (panV X))/\True))/\True))/\True)))/\True)))/\True)))/\((lock loadD prog s20 50 t6 fun t88 =>
 ((lock loadD prog s20 50 t85 fun t86 =>
 ((lock loadD prog s20 50 t7 fun t87 =>
 ((lock buildSliceD prog false s20 23 2 2 [(0,t87),(1,t88)] fun t89 s83 =>
 ((lock buildD prog 50 [(0,(.pv (.str [97,115,115,105,103,110]))),(1,(.pv (.str [61]))),(2,t89)] fun t90 =>
 ((env 170 [t86,t90] s83 (fun t91 s84 =>
 (unD .not t91 fun t92 =>
 (condD t92
 (lock buildD prog 131 [] fun t94 =>
 (lock storeD prog s84 131 t4_j6 t94 fun s85 =>
 (lock loadD prog s85 131 t4_j6 fun r0 =>
 (retV (.tuple [r0,(.pv (.bool false))]) s85 K))))
 (J135_10 env  (t4_j6) (t6) (t7) (t57) s84 K X)))) (panV X))/\True))/\True))/\True))/\True))/\((lock loadD prog s20 50 t7 fun t87 =>
 ((lock loadD prog s20 50 t85 fun t86 =>
 ((lock buildSliceD prog false s20 23 2 2 [(0,t87),(1,t88)] fun t89 s80 =>
 ((lock buildD prog 50 [(0,(.pv (.str [97,115,115,105,103,110]))),(1,(.pv (.str [61]))),(2,t89)] fun t90 =>
 ((env 170 [t86,t90] s80 (fun t91 s81 =>
 (unD .not t91 fun t92 =>
 (condD t92
 (lock buildD prog 131 [] fun t94 =>
 (lock storeD prog s81 131 t4_j6 t94 fun s82 =>
 (lock loadD prog s82 131 t4_j6 fun r0 =>
 (retV (.tuple [r0,(.pv (.bool false))]) s82 K))))
 (J135_10 env  (t4_j6) (t6) (t7) (t57) s81 K X)))) (panV X))/\True))/\True))/\True))/\((lock buildSliceD prog false s20 23 2 2 [(0,t87),(1,t88)] fun t89 s75 =>
 ((lock loadD prog s75 50 t85 fun t86 =>
 ((lock buildD prog 50 [(0,(.pv (.str [97,115,115,105,103,110]))),(1,(.pv (.str [61]))),(2,t89)] fun t90 =>
 ((env 170 [t86,t90] s75 (fun t91 s78 =>
 (unD .not t91 fun t92 =>
 (condD t92
 (lock buildD prog 131 [] fun t94 =>
 (lock storeD prog s78 131 t4_j6 t94 fun s79 =>
 (lock loadD prog s79 131 t4_j6 fun r0 =>
 (retV (.tuple [r0,(.pv (.bool false))]) s79 K))))
 (J135_10 env  (t4_j6) (t6) (t7) (t57) s78 K X)))) (panV X))/\True))/\True))/\((lock buildD prog 50 [(0,(.pv (.str [97,115,115,105,103,110]))),(1,(.pv (.str [61]))),(2,t89)] fun t90 =>
 ((lock loadD prog s75 50 t85 fun t86 =>
 ((env 170 [t86,t90] s75 (fun t91 s76 =>
 (unD .not t91 fun t92 =>
 (condD t92
 (lock buildD prog 131 [] fun t94 =>
 (lock storeD prog s76 131 t4_j6 t94 fun s77 =>
 (lock loadD prog s77 131 t4_j6 fun r0 =>
 (retV (.tuple [r0,(.pv (.bool false))]) s77 K))))
 (J135_10 env  (t4_j6) (t6) (t7) (t57) s76 K X)))) (panV X))/\True))/\True))/\True)))/\True)))/\True)))/\True)))))/\((lock loadD prog s20 50 t7 fun t87 =>
 ((lock loadD prog s20 23 t83 fun t84 =>
 (lock indexAddrD prog 23 t84 (.pv (.int .i64 0)) fun t85 =>
 ((lock loadD prog s20 50 t85 fun t86 =>
 ((lock loadD prog s20 50 t6 fun t88 =>
 ((lock buildSliceD prog false s20 23 2 2 [(0,t87),(1,t88)] fun t89 s72 =>
 ((lock buildD prog 50 [(0,(.pv (.str [97,115,115,105,103,110]))),(1,(.pv (.str [61]))),(2,t89)] fun t90 =>
 ((env 170 [t86,t90] s72 (fun t91 s73 =>
 (unD .not t91 fun t92 =>
 (condD t92
 (lock buildD prog 131 [] fun t94 =>
 (lock storeD prog s73 131 t4_j6 t94 fun s74 =>
 (lock loadD prog s74 131 t4_j6 fun r0 =>
 (retV (.tuple [r0,(.pv (.bool false))]) s74 K))))
 (J135_10 env  (t4_j6) (t6) (t7) (t57) s73 K X)))) (panV X))/\True))/\True))/\True))/\True))/\((lock loadD prog s20 50 t6 fun t88 =>
 ((lock loadD prog s20 50 t85 fun t86 =>
 ((lock buildSliceD prog false s20 23 2 2 [(0,t87),(1,t88)] fun t89 s69 =>
 ((lock buildD prog 50 [(0,(.pv (.str [97,115,115,105,103,110]))),(1,(.pv (.str [61]))),(2,t89)] fun t90 =>
 ((env 170 [t86,t90] s69 (fun t91 s70 =>
 (unD .not t91 fun t92 =>
 (condD t92
 (lock buildD prog 131 [] fun t94 =>
 (lock storeD prog s70 131 t4_j6 t94 fun s71 =>
 (lock loadD prog s71 131 t4_j6 fun r0 =>
 (retV (.tuple [r0,(.pv (.bool false))]) s71 K))))
 (J135_10 env  (t4_j6) (t6) (t7) (t57) s70 K X)))) (panV X))/\True))/\True))/\True))/\((lock buildSliceD prog false s20 23 2 2 [(0,t87),(1,t88)] fun t89 s64 =>
 ((lock loadD prog s64 50 t85 fun t86 =>
 ((lock buildD prog 50 [(0,(.pv (.str [97,115,115,105,103,110]))),(1,(.pv (.str [61]))),(2,t89)] fun t90 =>
 ((env 170 [t86,t90] s64 (fun t91 s67 =>
 (unD .not t91 fun t92 =>
 (condD t92
 (lock buildD prog 131 [] fun t94 =>
 (lock storeD prog s67 131 t4_j6 t94 fun s68 =>
 (lock loadD prog s68 131 t4_j6 fun r0 =>
 (retV (.tuple [r0,(.pv (.bool false))]) s68 K))))
 (J135_10 env  (t4_j6) (t6) (t7) (t57) s67 K X)))) (panV X))/\True))/\True))/\((lock buildD prog 50 [(0,(.pv (.str [97,115,115,105,103,110]))),(1,(.pv (.str [61]))),(2,t89)] fun t90 =>
 ((lock loadD prog s64 50 t85 fun t86 =>
 ((env 170 [t86,t90] s64 (fun t91 s65 =>
 (unD .not t91 fun t92 =>
 (condD t92
 (lock buildD prog 131 [] fun t94 =>
 (lock storeD prog s65 131 t4_j6 t94 fun s66 =>
 (lock loadD prog s66 131 t4_j6 fun r0 =>
 (retV (.tuple [r0,(.pv (.bool false))]) s66 K))))
 (J135_10 env  (t4_j6) (t6) (t7) (t57) s65 K X)))) (panV X))/\True))/\True))/\True)))/\True)))/\True))))/\((lock loadD prog s20 50 t6 fun t88 =>
 ((lock loadD prog s20 23 t83 fun t84 =>
 (lock indexAddrD prog 23 t84 (.pv (.int .i64 0)) fun t85 =>
 ((lock loadD prog s20 50 t85 fun t86 =>
 ((lock buildSliceD prog false s20 23 2 2 [(0,t87),(1,t88)] fun t89 s61 =>
 ((lock buildD prog 50 [(0,(.pv (.str [97,115,115,105,103,110]))),(1,(.pv (.str [61]))),(2,t89)] fun t90 =>
 ((env 170 [t86,t90] s61 (fun t91 s62 =>
 (unD .not t91 fun t92 =>
 (condD t92
 (lock buildD prog 131 [] fun t94 =>
 (lock storeD prog s62 131 t4_j6 t94 fun s63 =>
 (lock loadD prog s63 131 t4_j6 fun r0 =>
 (retV (.tuple [r0,(.pv (.bool false))]) s63 K))))
 (J135_10 env  (t4_j6) (t6) (t7) (t57) s62 K X)))) (panV X))/\True))/\True))/\True))/\((lock buildSliceD prog false s20 23 2 2 [(0,t87),(1,t88)] fun t89 s56 =>
 ((lock loadD prog s56 50 t85 fun t86 =>
 ((lock buildD prog 50 [(0,(.pv (.str [97,115,115,105,103,110]))),(1,(.pv (.str [61]))),(2,t89)] fun t90 =>
 ((env 170 [t86,t90] s56 (fun t91 s59 =>
 (unD .not t91 fun t92 =>
 (condD t92
 (lock buildD prog 131 [] fun t94 =>
 (lock storeD prog s59 131 t4_j6 t94 fun s60 =>
 (lock loadD prog s60 131 t4_j6 fun r0 =>
 (retV (.tuple [r0,(.pv (.bool false))]) s60 K))))
 (J135_10 env  (t4_j6) (t6) (t7) (t57) s59 K X)))) (panV X))/\True))/\True))/\((lock buildD prog 50 [(0,(.pv (.str [97,115,115,105,103,110]))),(1,(.pv (.str [61]))),(2,t89)] fun t90 =>
 ((lock loadD prog s56 50 t85 fun t86 =>
 ((env 170 [t86,t90] s56 (fun t91 s57 =>
 (unD .not t91 fun t92 =>
 (condD t92
 (lock buildD prog 131 [] fun t94 =>
 (lock storeD prog s57 131 t4_j6 t94 fun s58 =>
 (lock loadD prog s58 131 t4_j6 fun r0 =>
 (retV (.tuple [r0,(.pv (.bool false))]) s58 K))))
 (J135_10 env  (t4_j6) (t6) (t7) (t57) s57 K X)))) (panV X))/\True))/\True))/\True)))/\True))))/\((lock buildSliceD prog false s20 23 2 2 [(0,t87),(1,t88)] fun t89 s49 =>
 ((lock loadD prog s49 23 t83 fun t84 =>
 (lock indexAddrD prog 23 t84 (.pv (.int .i64 0)) fun t85 =>
 ((lock loadD prog s49 50 t85 fun t86 =>
 ((lock buildD prog 50 [(0,(.pv (.str [97,115,115,105,103,110]))),(1,(.pv (.str [61]))),(2,t89)] fun t90 =>
 ((env 170 [t86,t90] s49 (fun t91 s54 =>
 (unD .not t91 fun t92 =>
 (condD t92
 (lock buildD prog 131 [] fun t94 =>
 (lock storeD prog s54 131 t4_j6 t94 fun s55 =>
 (lock loadD prog s55 131 t4_j6 fun r0 =>
 (retV (.tuple [r0,(.pv (.bool false))]) s55 K))))
 (J135_10 env  (t4_j6) (t6) (t7) (t57) s54 K X)))) (panV X))/\True))/\True))/\((lock buildD prog 50 [(0,(.pv (.str [97,115,115,105,103,110]))),(1,(.pv (.str [61]))),(2,t89)] fun t90 =>
 ((lock loadD prog s49 50 t85 fun t86 =>
 ((env 170 [t86,t90] s49 (fun t91 s52 =>
 (unD .not t91 fun t92 =>
 (condD t92
 (lock buildD prog 131 [] fun t94 =>
 (lock storeD prog s52 131 t4_j6 t94 fun s53 =>
 (lock loadD prog s53 131 t4_j6 fun r0 =>
 (retV (.tuple [r0,(.pv (.bool false))]) s53 K))))
 (J135_10 env  (t4_j6) (t6) (t7) (t57) s52 K X)))) (panV X))/\True))/\True))/\True))))/\((lock buildD prog 50 [(0,(.pv (.str [97,115,115,105,103,110]))),(1,(.pv (.str [61]))),(2,t89)] fun t90 =>
 ((lock loadD prog s49 23 t83 fun t84 =>
 (lock indexAddrD prog 23 t84 (.pv (.int .i64 0)) fun t85 =>
 ((lock loadD prog s49 50 t85 fun t86 =>
 ((env 170 [t86,t90] s49 (fun t91 s50 =>
 (unD .not t91 fun t92 =>
 (condD t92
 (lock buildD prog 131 [] fun t94 =>
 (lock storeD prog s50 131 t4_j6 t94 fun s51 =>
 (lock loadD prog s51 131 t4_j6 fun r0 =>
 (retV (.tuple [r0,(.pv (.bool false))]) s51 K))))
 (J135_10 env  (t4_j6) (t6) (t7) (t57) s50 K X)))) (panV X))/\True))/\True)))/\True))/\True)))/\True)))/\True)))/\((lock loadD prog s20 50 t6 fun t88 =>
 ((lock loadD prog s20 23 t83 fun t84 =>
 (lock indexAddrD prog 23 t84 (.pv (.int .i64 0)) fun t85 =>
 ((lock loadD prog s20 50 t85 fun t86 =>
 ((lock loadD prog s20 50 t7 fun t87 =>
 ((lock buildSliceD prog false s20 23 2 2 [(0,t87),(1,t88)] fun t89 s46 =>
 ((lock buildD prog 50 [(0,(.pv (.str [97,115,115,105,103,110]))),(1,(.pv (.str [61]))),(2,t89)] fun t90 =>
 ((env 170 [t86,t90] s46 (fun t91 s47 =>
 (unD .not t91 fun t92 =>
 (condD t92
 (lock buildD prog 131 [] fun t94 =>
 (lock storeD prog s47 131 t4_j6 t94 fun s48 =>
 (lock loadD prog s48 131 t4_j6 fun r0 =>
 (retV (.tuple [r0,(.pv (.bool false))]) s48 K))))
 (J135_10 env  (t4_j6) (t6) (t7) (t57) s47 K X)))) (panV X))/\True))/\True))/\True))/\True))/\((lock loadD prog s20 50 t7 fun t87 =>
 ((lock loadD prog s20 50 t85 fun t86 =>
 ((lock buildSliceD prog false s20 23 2 2 [(0,t87),(1,t88)] fun t89 s43 =>
 ((lock buildD prog 50 [(0,(.pv (.str [97,115,115,105,103,110]))),(1,(.pv (.str [61]))),(2,t89)] fun t90 =>
 ((env 170 [t86,t90] s43 (fun t91 s44 =>
 (unD .not t91 fun t92 =>
 (condD t92
 (lock buildD prog 131 [] fun t94 =>
 (lock storeD prog s44 131 t4_j6 t94 fun s45 =>
 (lock loadD prog s45 131 t4_j6 fun r0 =>
 (retV (.tuple [r0,(.pv (.bool false))]) s45 K))))
 (J135_10 env  (t4_j6) (t6) (t7) (t57) s44 K X)))) (panV X))/\True))/\True))/\True))/\((lock buildSliceD prog false s20 23 2 2 [(0,t87),(1,t88)] fun t89 s38 =>
 ((lock loadD prog s38 50 t85 fun t86 =>
 ((lock buildD prog 50 [(0,(.pv (.str [97,115,115,105,103,110]))),(1,(.pv (.str [61]))),(2,t89)] fun t90 =>
 ((env 170 [t86,t90] s38 (fun t91 s41 =>
 (unD .not t91 fun t92 =>
 (condD t92
 (lock buildD prog 131 [] fun t94 =>
 (lock storeD prog s41 131 t4_j6 t94 fun s42 =>
 (lock loadD prog s42 131 t4_j6 fun r0 =>
 (retV (.tuple [r0,(.pv (.bool false))]) s42 K))))
 (J135_10 env  (t4_j6) (t6) (t7) (t57) s41 K X)))) (panV X))/\True))/\True))/\((lock buildD prog 50 [(0,(.pv (.str [97,115,115,105,103,110]))),(1,(.pv (.str [61]))),(2,t89)] fun t90 =>
 ((lock loadD prog s38 50 t85 fun t86 =>
 ((env 170 [t86,t90] s38 (fun t91 s39 =>
 (unD .not t91 fun t92 =>
 (condD t92
 (lock buildD prog 131 [] fun t94 =>
 (lock storeD prog s39 131 t4_j6 t94 fun s40 =>
 (lock loadD prog s40 131 t4_j6 fun r0 =>
 (retV (.tuple [r0,(.pv (.bool false))]) s40 K))))
 (J135_10 env  (t4_j6) (t6) (t7) (t57) s39 K X)))) (panV X))/\True))/\True))/\True)))/\True)))/\True))))/\((lock loadD prog s20 50 t7 fun t87 =>
 ((lock loadD prog s20 23 t83 fun t84 =>
 (lock indexAddrD prog 23 t84 (.pv (.int .i64 0)) fun t85 =>
 ((lock loadD prog s20 50 t85 fun t86 =>
 ((lock buildSliceD prog false s20 23 2 2 [(0,t87),(1,t88)] fun t89 s35 =>
 ((lock buildD prog 50 [(0,(.pv (.str [97,115,115,105,103,110]))),(1,(.pv (.str [61]))),(2,t89)] fun t90 =>
 ((env 170 [t86,t90] s35 (fun t91 s36 =>
 (unD .not t91 fun t92 =>
 (condD t92
 (lock buildD prog 131 [] fun t94 =>
 (lock storeD prog s36 131 t4_j6 t94 fun s37 =>
 (lock loadD prog s37 131 t4_j6 fun r0 =>
 (retV (.tuple [r0,(.pv (.bool false))]) s37 K))))
 (J135_10 env  (t4_j6) (t6) (t7) (t57) s36 K X)))) (panV X))/\True))/\True))/\True))/\((lock buildSliceD prog false s20 23 2 2 [(0,t87),(1,t88)] fun t89 s30 =>
 ((lock loadD prog s30 50 t85 fun t86 =>
 ((lock buildD prog 50 [(0,(.pv (.str [97,115,115,105,103,110]))),(1,(.pv (.str [61]))),(2,t89)] fun t90 =>
 ((env 170 [t86,t90] s30 (fun t91 s33 =>
 (unD .not t91 fun t92 =>
 (condD t92
 (lock buildD prog 131 [] fun t94 =>
 (lock storeD prog s33 131 t4_j6 t94 fun s34 =>
 (lock loadD prog s34 131 t4_j6 fun r0 =>
 (retV (.tuple [r0,(.pv (.bool false))]) s34 K))))
 (J135_10 env  (t4_j6) (t6) (t7) (t57) s33 K X)))) (panV X))/\True))/\True))/\((lock buildD prog 50 [(0,(.pv (.str [97,115,115,105,103,110]))),(1,(.pv (.str [61]))),(2,t89)] fun t90 =>
 ((lock loadD prog s30 50 t85 fun t86 =>
 ((env 170 [t86,t90] s30 (fun t91 s31 =>
 (unD .not t91 fun t92 =>
 (condD t92
 (lock buildD prog 131 [] fun t94 =>
 (lock storeD prog s31 131 t4_j6 t94 fun s32 =>
 (lock loadD prog s32 131 t4_j6 fun r0 =>
 (retV (.tuple [r0,(.pv (.bool false))]) s32 K))))
 (J135_10 env  (t4_j6) (t6) (t7) (t57) s31 K X)))) (panV X))/\True))/\True))/\True)))/\True))))/\((lock buildSliceD prog false s20 23 2 2 [(0,t87),(1,t88)] fun t89 s21 =>
 ((lock loadD prog s21 23 t83 fun t84 =>
 (lock indexAddrD prog 23 t84 (.pv (.int .i64 0)) fun t85 =>
 ((lock loadD prog s21 50 t85 fun t86 =>
 ((lock buildD prog 50 [(0,(.pv (.str [97,115,115,105,103,110]))),(1,(.pv (.str [61]))),(2,t89)] fun t90 =>
 ((env 170 [t86,t90] s21 (fun t91 s28 =>
 (unD .not t91 fun t92 =>
 (condD t92
 (lock buildD prog 131 [] fun t94 =>
 (lock storeD prog s28 131 t4_j6 t94 fun s29 =>
 (lock loadD prog s29 131 t4_j6 fun r0 =>
 (retV (.tuple [r0,(.pv (.bool false))]) s29 K))))
 (J135_10 env  (t4_j6) (t6) (t7) (t57) s28 K X)))) (panV X))/\True))/\True))/\((lock buildD prog 50 [(0,(.pv (.str [97,115,115,105,103,110]))),(1,(.pv (.str [61]))),(2,t89)] fun t90 =>
 ((lock loadD prog s21 50 t85 fun t86 =>
 ((env 170 [t86,t90] s21 (fun t91 s26 =>
 (unD .not t91 fun t92 =>
 (condD t92
 (lock buildD prog 131 [] fun t94 =>
 (lock storeD prog s26 131 t4_j6 t94 fun s27 =>
 (lock loadD prog s27 131 t4_j6 fun r0 =>
 (retV (.tuple [r0,(.pv (.bool false))]) s27 K))))
 (J135_10 env  (t4_j6) (t6) (t7) (t57) s26 K X)))) (panV X))/\True))/\True))/\True))))/\((lock buildD prog 50 [(0,(.pv (.str [97,115,115,105,103,110]))),(1,(.pv (.str [61]))),(2,t89)] fun t90 =>
 ((lock loadD prog s21 23 t83 fun t84 =>
 (lock indexAddrD prog 23 t84 (.pv (.int .i64 0)) fun t85 =>
 ((lock loadD prog s21 50 t85 fun t86 =>
 ((env 170 [t86,t90] s21 (fun t91 s22 =>
 (unD .not t91 fun t92 =>
 (condD t92
 (lock buildD prog 131 [] fun t94 =>
 (lock storeD prog s22 131 t4_j6 t94 fun s23 =>
 (lock loadD prog s23 131 t4_j6 fun r0 =>
 (retV (.tuple [r0,(.pv (.bool false))]) s23 K))))
 (J135_10 env  (t4_j6) (t6) (t7) (t57) s22 K X)))) (panV X))/\True))/\True)))/\True))/\True)))/\True)))/\True)))/\True))))
 ((((((((lock buildD prog 131 [] fun t94 =>
 (lock storeD prog s20 131 t4_j6 t94 fun s132 =>
 (lock loadD prog s132 131 t4_j6 fun r0 =>
 (retV (.tuple [r0,(.pv (.bool false))]) s132 K))))/\True)/\True)/\True)/\True)/\((((((lock buildD prog 131 [] fun t94 =>
 (lock storeD prog s20 131 t4_j6 t94 fun s131 =>
 (lock loadD prog s131 131 t4_j6 fun r0 =>
 (retV (.tuple [r0,(.pv (.bool false))]) s131 K))))/\True)/\True)/\True)/\True)/\True))/\(((((((lock buildD prog 131 [] fun t94 =>
 (lock storeD prog s20 131 t4_j6 t94 fun s130 =>
 (lock loadD prog s130 131 t4_j6 fun r0 =>
 (retV (.tuple [r0,(.pv (.bool false))]) s130 K))))/\True)/\True)/\True)/\True)/\((((((lock buildD prog 131 [] fun t94 =>
 (lock storeD prog s20 131 t4_j6 t94 fun s129 =>
 (lock loadD prog s129 131 t4_j6 fun r0 =>
 (retV (.tuple [r0,(.pv (.bool false))]) s129 K))))/\True)/\True)/\True)/\(((((lock buildD prog 131 [] fun t94 =>
 (lock storeD prog s20 131 t4_j6 t94 fun s128 =>
 (lock loadD prog s128 131 t4_j6 fun r0 =>
 (retV (.tuple [r0,(.pv (.bool false))]) s128 K))))/\True)/\True)/\((((lock buildD prog 131 [] fun t94 =>
 (lock storeD prog s20 131 t4_j6 t94 fun s127 =>
 (lock loadD prog s127 131 t4_j6 fun r0 =>
 (retV (.tuple [r0,(.pv (.bool false))]) s127 K))))/\True)/\True)/\True))/\True))/\True))/\(((((((lock buildD prog 131 [] fun t94 =>
 (lock storeD prog s20 131 t4_j6 t94 fun s126 =>
 (lock loadD prog s126 131 t4_j6 fun r0 =>
 (retV (.tuple [r0,(.pv (.bool false))]) s126 K))))/\True)/\True)/\True)/\True)/\((((((lock buildD prog 131 [] fun t94 =>
 (lock storeD prog s20 131 t4_j6 t94 fun s125 =>
 (lock loadD prog s125 131 t4_j6 fun r0 =>
 (retV (.tuple [r0,(.pv (.bool false))]) s125 K))))/\True)/\True)/\True)/\(((((lock buildD prog 131 [] fun t94 =>
 (lock storeD prog s20 131 t4_j6 t94 fun s124 =>
 (lock loadD prog s124 131 t4_j6 fun r0 =>
 (retV (.tuple [r0,(.pv (.bool false))]) s124 K))))/\True)/\True)/\((((lock buildD prog 131 [] fun t94 =>
 (lock storeD prog s20 131 t4_j6 t94 fun s123 =>
 (lock loadD prog s123 131 t4_j6 fun r0 =>
 (retV (.tuple [r0,(.pv (.bool false))]) s123 K))))/\True)/\True)/\True))/\True))/\True))/\True)))/\((((((((lock buildD prog 131 [] fun t94 =>
 (lock storeD prog s20 131 t4_j6 t94 fun s122 =>
 (lock loadD prog s122 131 t4_j6 fun r0 =>
 (retV (.tuple [r0,(.pv (.bool false))]) s122 K))))/\True)/\True)/\True)/\True)/\((((((lock buildD prog 131 [] fun t94 =>
 (lock storeD prog s20 131 t4_j6 t94 fun s121 =>
 (lock loadD prog s121 131 t4_j6 fun r0 =>
 (retV (.tuple [r0,(.pv (.bool false))]) s121 K))))/\True)/\True)/\True)/\(((((lock buildD prog 131 [] fun t94 =>
 (lock storeD prog s20 131 t4_j6 t94 fun s120 =>
 (lock loadD prog s120 131 t4_j6 fun r0 =>
 (retV (.tuple [r0,(.pv (.bool false))]) s120 K))))/\True)/\True)/\((((lock buildD prog 131 [] fun t94 =>
 (lock storeD prog s20 131 t4_j6 t94 fun s119 =>
 (lock loadD prog s119 131 t4_j6 fun r0 =>
 (retV (.tuple [r0,(.pv (.bool false))]) s119 K))))/\True)/\True)/\True))/\True))/\True))/\(((((((lock buildD prog 131 [] fun t94 =>
 (lock storeD prog s20 131 t4_j6 t94 fun s118 =>
 (lock loadD prog s118 131 t4_j6 fun r0 =>
 (retV (.tuple [r0,(.pv (.bool false))]) s118 K))))/\True)/\True)/\True)/\(((((lock buildD prog 131 [] fun t94 =>
 (lock storeD prog s20 131 t4_j6 t94 fun s117 =>
 (lock loadD prog s117 131 t4_j6 fun r0 =>
 (retV (.tuple [r0,(.pv (.bool false))]) s117 K))))/\True)/\True)/\((((lock buildD prog 131 [] fun t94 =>
 (lock storeD prog s20 131 t4_j6 t94 fun s116 =>
 (lock loadD prog s116 131 t4_j6 fun r0 =>
 (retV (.tuple [r0,(.pv (.bool false))]) s116 K))))/\True)/\True)/\True))/\True))/\((((((lock buildD prog 131 [] fun t94 =>
 (lock storeD prog s20 131 t4_j6 t94 fun s115 =>
 (lock loadD prog s115 131 t4_j6 fun r0 =>
 (retV (.tuple [r0,(.pv (.bool false))]) s115 K))))/\True)/\True)/\((((lock buildD prog 131 [] fun t94 =>
 (lock storeD prog s20 131 t4_j6 t94 fun s114 =>
 (lock loadD prog s114 131 t4_j6 fun r0 =>
 (retV (.tuple [r0,(.pv (.bool false))]) s114 K))))/\True)/\True)/\True))/\(((((lock buildD prog 131 [] fun t94 =>
 (lock storeD prog s20 131 t4_j6 t94 fun s113 =>
 (lock loadD prog s113 131 t4_j6 fun r0 =>
 (retV (.tuple [r0,(.pv (.bool false))]) s113 K))))/\True)/\True)/\True)/\True))/\True))/\True))/\((((((((lock buildD prog 131 [] fun t94 =>
 (lock storeD prog s20 131 t4_j6 t94 fun s112 =>
 (lock loadD prog s112 131 t4_j6 fun r0 =>
 (retV (.tuple [r0,(.pv (.bool false))]) s112 K))))/\True)/\True)/\True)/\True)/\((((((lock buildD prog 131 [] fun t94 =>
 (lock storeD prog s20 131 t4_j6 t94 fun s111 =>
 (lock loadD prog s111 131 t4_j6 fun r0 =>
 (retV (.tuple [r0,(.pv (.bool false))]) s111 K))))/\True)/\True)/\True)/\(((((lock buildD prog 131 [] fun t94 =>
 (lock storeD prog s20 131 t4_j6 t94 fun s110 =>
 (lock loadD prog s110 131 t4_j6 fun r0 =>
 (retV (.tuple [r0,(.pv (.bool false))]) s110 K))))/\True)/\True)/\((((lock buildD prog 131 [] fun t94 =>
 (lock storeD prog s20 131 t4_j6 t94 fun s109 =>
 (lock loadD prog s109 131 t4_j6 fun r0 =>
 (retV (.tuple [r0,(.pv (.bool false))]) s109 K))))/\True)/\True)/\True))/\True))/\True))/\(((((((lock buildD prog 131 [] fun t94 =>
 (lock storeD prog s20 131 t4_j6 t94 fun s108 =>
 (lock loadD prog s108 131 t4_j6 fun r0 =>
 (retV (.tuple [r0,(.pv (.bool false))]) s108 K))))/\True)/\True)/\True)/\(((((lock buildD prog 131 [] fun t94 =>
 (lock storeD prog s20 131 t4_j6 t94 fun s107 =>
 (lock loadD prog s107 131 t4_j6 fun r0 =>
 (retV (.tuple [r0,(.pv (.bool false))]) s107 K))))/\True)/\True)/\((((lock buildD prog 131 [] fun t94 =>
 (lock storeD prog s20 131 t4_j6 t94 fun s106 =>
 (lock loadD prog s106 131 t4_j6 fun r0 =>
 (retV (.tuple [r0,(.pv (.bool false))]) s106 K))))/\True)/\True)/\True))/\True))/\((((((lock buildD prog 131 [] fun t94 =>
 (lock storeD prog s20 131 t4_j6 t94 fun s105 =>
 (lock loadD prog s105 131 t4_j6 fun r0 =>
 (retV (.tuple [r0,(.pv (.bool false))]) s105 K))))/\True)/\True)/\((((lock buildD prog 131 [] fun t94 =>
 (lock storeD prog s20 131 t4_j6 t94 fun s104 =>
 (lock loadD prog s104 131 t4_j6 fun r0 =>
 (retV (.tuple [r0,(.pv (.bool false))]) s104 K))))/\True)/\True)/\True))/\(((((lock buildD prog 131 [] fun t94 =>
 (lock storeD prog s20 131 t4_j6 t94 fun s103 =>
 (lock loadD prog s103 131 t4_j6 fun r0 =>
 (retV (.tuple [r0,(.pv (.bool false))]) s103 K))))/\True)/\True)/\True)/\True))/\True))/\True))/\True))))))) (panV X))/\True))
 ((lock fieldAddrD prog 50 s3_j6 2 fun t83 =>
 ((lock loadD prog s19 23 t83 fun t84 =>
 (lock indexAddrD prog 23 t84 (.pv (.int .i64 0)) fun t85 =>
 ((lock loadD prog s19 50 t85 fun t86 =>
 ((lock loadD prog s19 50 t7 fun t87 =>
 ((lock loadD prog s19 50 t6 fun t88 =>
 ((lock buildSliceD prog false s19 23 2 2 [(0,t87),(1,t88)] fun t89 s210 =>
 ((lock buildD prog 50 [(0,(.pv (.str [97,115,115,105,103,110]))),(1,(.pv (.str [61]))),(2,t89)] fun t90 =>
 ((env 170 [t86,t90] s210 (fun t91 s211 =>
 (unD .not t91 fun t92 =>
 (condD t92
 (lock buildD prog 131 [] fun t94 =>
 (lock storeD prog s211 131 t4_j6 t94 fun s212 =>
 (lock loadD prog s212 131 t4_j6 fun r0 =>
 (retV (.tuple [r0,(.pv (.bool false))]) s212 K))))
 (J135_10 env  (t4_j6) (t6) (t7) (t57) s211 K X)))) (panV X))/\True))/\True))/\True))/\True))/\((lock loadD prog s19 50 t6 fun t88 =>
 ((lock loadD prog s19 50 t7 fun t87 =>
 ((lock buildSliceD prog false s19 23 2 2 [(0,t87),(1,t88)] fun t89 s207 =>
 ((lock buildD prog 50 [(0,(.pv (.str [97,115,115,105,103,110]))),(1,(.pv (.str [61]))),(2,t89)] fun t90 =>
 ((env 170 [t86,t90] s207 (fun t91 s208 =>
 (unD .not t91 fun t92 =>
 (condD t92
 (lock buildD prog 131 [] fun t94 =>
 (lock storeD prog s208 131 t4_j6 t94 fun s209 =>
 (lock loadD prog s209 131 t4_j6 fun r0 =>
 (retV (.tuple [r0,(.pv (.bool false))]) s209 K))))
 (J135_10 env  (t4_j6) (t6) (t7) (t57) s208 K X)))) (panV X))/\True))/\True))/\True))/\True))/\True)))/\((lock loadD prog s19 50 t7 fun t87 =>
 ((lock loadD prog s19 50 t85 fun t86 =>
 ((lock loadD prog s19 50 t6 fun t88 =>
 ((lock buildSliceD prog false s19 23 2 2 [(0,t87),(1,t88)] fun t89 s204 =>
 ((lock buildD prog 50 [(0,(.pv (.str [97,115,115,105,103,110]))),(1,(.pv (.str [61]))),(2,t89)] fun t90 =>
 ((env 170 [t86,t90] s204 (fun t91 s205 =>
 (unD .not t91 fun t92 =>
 (condD t92
 (lock buildD prog 131 [] fun t94 =>
 (lock storeD prog s205 131 t4_j6 t94 fun s206 =>
 (lock loadD prog s206 131 t4_j6 fun r0 =>
 (retV (.tuple [r0,(.pv (.bool false))]) s206 K))))
 (J135_10 env  (t4_j6) (t6) (t7) (t57) s205 K X)))) (panV X))/\True))/\True))/\True))/\True))/\((lock loadD prog s19 50 t6 fun t88 =>
 ((lock loadD prog s19 50 t85 fun t86 =>
 ((lock buildSliceD prog false s19 23 2 2 [(0,t87),(1,t88)] fun t89 s201 =>
 ((lock buildD prog 50 [(0,(.pv (.str [97,115,115,105,103,110]))),(1,(.pv (.str [61]))),(2,t89)] fun t90 =>
 ((env 170 [t86,t90] s201 (fun t91 s202 =>
 (unD .not t91 fun t92 =>
 (condD t92
 (lock buildD prog 131 [] fun t94 =>
 (lock storeD prog s202 131 t4_j6 t94 fun s203 =>
 (lock loadD prog s203 131 t4_j6 fun r0 =>
 (retV (.tuple [r0,(.pv (.bool false))]) s203 K))))
 (J135_10 env  (t4_j6) (t6) (t7) (t57) s202 K X)))) (panV X))/\True))/\True))/\True))/\((lock buildSliceD prog false s19 23 2 2 [(0,t87),(1,t88)] fun t89 s196 =>
 ((lock loadD prog s196 50 t85 fun t86 =>
 ((lock buildD prog 50 [(0,(.pv (.str [97,115,115,105,103,110]))),(1,(.pv (.str [61]))),(2,t89)] fun t90 =>
 ((env 170 [t86,t90] s196 (fun t91 s199 =>
 (unD .not t91 fun t92 =>
 (condD t92
 (lock buildD prog 131 [] fun t94 =>
 (lock storeD prog s199 131 t4_j6 t94 fun s200 =>
 (lock loadD prog s200 131 t4_j6 fun r0 =>
 (retV (.tuple [r0,(.pv (.bool false))]) s200 K))))
 (J135_10 env  (t4_j6) (t6) (t7) (t57) s199 K X)))) (panV X))/\True))/\True))/\((lock buildD prog 50 [(0,(.pv (.str [97,115,115,105,103,110]))),(1,(.pv (.str [61]))),(2,t89)] fun t90 =>
 ((lock loadD prog s196 50 t85 fun t86 =>
 ((env 170 [t86,t90] s196 (fun t91 s197 =>
 (unD .not t91 fun t92 =>
 (condD t92
 (lock buildD prog 131 [] fun t94 =>
 (lock storeD prog s197 131 t4_j6 t94 fun s198 =>
 (lock loadD prog s198 131 t4_j6 fun r0 =>
 (retV (.tuple [r0,(.pv (.bool false))]) s198 K))))
 (J135_10 env  (t4_j6) (t6) (t7) (t57) s197 K X)))) (panV X))/\True))/\True))/\True)))/\True)))/\True)))/\((lock loadD prog s19 50 t6 fun t88 =>
 ((lock loadD prog s19 50 t85 fun t86 =>
 ((lock loadD prog s19 50 t7 fun t87 =>
 ((lock buildSliceD prog false s19 23 2 2 [(0,t87),(1,t88)] fun t89 s193 =>
 ((lock buildD prog 50 [(0,(.pv (.str [97,115,115,105,103,110]))),(1,(.pv (.str [61]))),(2,t89)] fun t90 =>
 ((env 170 [t86,t90] s193 (fun t91 s194 =>
 (unD .not t91 fun t92 =>
 (condD t92
 (lock buildD prog 131 [] fun t94 =>
 (lock storeD prog s194 131 t4_j6 t94 fun s195 =>
 (lock loadD prog s195 131 t4_j6 fun r0 =>
 (retV (.tuple [r0,(.pv (.bool false))]) s195 K))))
 (J135_10 env  (t4_j6) (t6) (t7) (t57) s194 K X)))) (panV X))/\True))/\True))/\True))/\True))/\((lock loadD prog s19 50 t7 fun t87 =>
 ((lock loadD prog s19 50 t85 fun t86 =>
 ((lock buildSliceD prog false s19 23 2 2 [(0,t87),(1,t88)] fun t89 s190 =>
 ((lock buildD prog 50 [(0,(.pv (.str [97,115,115,105,103,110]))),(1,(.pv (.str [61]))),(2,t89)] fun t90 =>
 ((env 170 [t86,t90] s190 (fun t91 s191 =>
 (unD .not t91 fun t92 =>
 (condD t92
 (lock buildD prog 131 [] fun t94 =>
 (lock storeD prog s191 131 t4_j6 t94 fun s192 =>
 (lock loadD prog s192 131 t4_j6 fun r0 =>
 (retV (.tuple [r0,(.pv (.bool false))]) s192 K))))
 (J135_10 env  (t4_j6) (t6) (t7) (t57) s191 K X)))) (panV X))/\True))/\True))/\True))/\((lock buildSliceD prog false s19 23 2 2 [(0,t87),(1,t88)] fun t89 s185 =>
 ((lock loadD prog s185 50 t85 fun t86 =>
 ((lock buildD prog 50 [(0,(.pv (.str [97,115,115,105,103,110]))),(1,(.pv (.str [61]))),(2,t89)] fun t90 =>
 ((env 170 [t86,t90] s185 (fun t91 s188 =>
 (unD .not t91 fun t92 =>
 (condD t92
 (lock buildD prog 131 [] fun t94 =>
 (lock storeD prog s188 131 t4_j6 t94 fun s189 =>
 (lock loadD prog s189 131 t4_j6 fun r0 =>
 (retV (.tuple [r0,(.pv (.bool false))]) s189 K))))
 (J135_10 env  (t4_j6) (t6) (t7) (t57) s188 K X)))) (panV X))/\True))/\True))/\((lock buildD prog 50 [(0,(.pv (.str [97,115,115,105,103,110]))),(1,(.pv (.str [61]))),(2,t89)] fun t90 =>
 ((lock loadD prog s185 50 t85 fun t86 =>
 ((env 170 [t86,t90] s185 (fun t91 s186 =>
 (unD .not t91 fun t92 =>
 (condD t92
 (lock buildD prog 131 [] fun t94 =>
 (lock storeD prog s186 131 t4_j6 t94 fun s187 =>
 (lock loadD prog s187 131 t4_j6 fun r0 =>
 (retV (.tuple [r0,(.pv (.bool false))]) s187 K))))
 (J135_10 env  (t4_j6) (t6) (t7) (t57) s186 K X)))) (panV X))/\True))/\True))/\True)))/\True)))/\True)))/\True)))))/\((lock loadD prog s19 50 t7 fun t87 =>
 ((lock loadD prog s19 23 t83 fun t84 =>
 (lock indexAddrD prog 23 t84 (.pv (.int .i64 0)) fun t85 =>
 ((lock loadD prog s19 50 t85 fun t86 =>
 ((lock loadD prog s19 50 t6 fun t88 =>
 ((lock buildSliceD prog false s19 23 2 2 [(0,t87),(1,t88)] fun t89 s182 =>
 ((lock buildD prog 50 [(0,(.pv (.str [97,115,115,105,103,110]))),(1,(.pv (.str [61]))),(2,t89)] fun t90 =>
 ((env 170 [t86,t90] s182 (fun t91 s183 =>
 (unD .not t91 fun t92 =>
 (condD t92
 (lock buildD prog 131 [] fun t94 =>
 (lock storeD prog s183 131 t4_j6 t94 fun s184 =>
 (lock loadD prog s184 131 t4_j6 fun r0 =>
 (retV (.tuple [r0,(.pv (.bool false))]) s184 K))))
 (J135_10 env  (t4_j6) (t6) (t7) (t57) s183 K X)))) (panV X))/\True))/\True))/\True))/\True))/\((lock loadD prog s19 50 t6 fun t88 =>
 ((lock loadD prog s19 50 t85 fun t86 =>
 ((lock buildSliceD prog false s19 23 2 2 [(0,t87),(1,t88)] fun t89 s179 =>
 ((lock buildD prog 50 [(0,(.pv (.str [97,115,115,105,103,110]))),(1,(.pv (.str [61]))),(2,t89)] fun t90 =>
 ((env 170 [t86,t90] s179 (fun t91 s180 =>
 (unD .not t91 fun t92 =>
 (condD t92
 (lock buildD prog 131 [] fun t94 =>
 (lock storeD prog s180 131 t4_j6 t94 fun s181 =>
 (lock loadD prog s181 131 t4_j6 fun r0 =>
 (retV (.tuple [r0,(.pv (.bool false))]) s181 K))))
 (J135_10 env  (t4_j6) (t6) (t7) (t57) s180 K X)))) (panV X))/\True))/\True))/\True))/\((lock buildSliceD prog false s19 23 2 2 [(0,t87),(1,t88)] fun t89 s174 =>
 ((lock loadD prog s174 50 t85 fun t86 =>
 ((lock buildD prog 50 [(0,(.pv (.str [97,115,115,105,103,110]))),(1,(.pv (.str [61]))),(2,t89)] fun t90 =>
 ((env 170 [t86,t90] s174 (fun t91 s177 =>
 (unD .not t91 fun t92 =>
 (condD t92
 (lock buildD prog 131 [] fun t94 =>
 (lock storeD prog s177 131 t4_j6 t94 fun s178 =>
 (lock loadD prog s178 131 t4_j6 fun r0 =>
 (retV (.tuple [r0,(.pv (.bool false))]) s178 K))))
 (J135_10 env  (t4_j6) (t6) (t7) (t57) s177 K X)))) (panV X))/\True))/\True))/\((lock buildD prog 50 [(0,(.pv (.str [97,115,115,105,103,110]))),(1,(.pv (.str [61]))),(2,t89)] fun t90 =>
 ((lock loadD prog s174 50 t85 fun t86 =>
 ((env 170 [t86,t90] s174 (fun t91 s175 =>
 (unD .not t91 fun t92 =>
 (condD t92
 (lock buildD prog 131 [] fun t94 =>
 (lock storeD prog s175 131 t4_j6 t94 fun s176 =>
 (lock loadD prog s176 131 t4_j6 fun r0 =>
 (retV (.tuple [r0,(.pv (.bool false))]) s176 K))))
 (J135_10 env  (t4_j6) (t6) (t7) (t57) s175 K X)))) (panV X))/\True))/\True))/\True)))/\True)))/\True))))/\((lock loadD prog s19 50 t6 fun t88 =>
 ((lock loadD prog s19 23 t83 fun t84 =>
 (lock indexAddrD prog 23 t84 (.pv (.int .i64 0)) fun t85 =>
 ((lock loadD prog s19 50 t85 fun t86 =>
 ((lock buildSliceD prog false s19 23 2 2 [(0,t87),(1,t88)] fun t89 s171 =>
 ((lock buildD prog 50 [(0,(.pv (.str [97,115,115,105,103,110]))),(1,(.pv (.str [61]))),(2,t89)] fun t90 =>
 ((env 170 [t86,t90] s171 (fun t91 s172 =>
 (unD .not t91 fun t92 =>
 (condD t92
 (lock buildD prog 131 [] fun t94 =>
 (lock storeD prog s172 131 t4_j6 t94 fun s173 =>
 (lock loadD prog s173 131 t4_j6 fun r0 =>
 (retV (.tuple [r0,(.pv (.bool false))]) s173 K))))
 (J135_10 env  (t4_j6) (t6) (t7) (t57) s172 K X)))) (panV X))/\True))/\True))/\True))/\((lock buildSliceD prog false s19 23 2 2 [(0,t87),(1,t88)] fun t89 s166 =>
 ((lock loadD prog s166 50 t85 fun t86 =>
 ((lock buildD prog 50 [(0,(.pv (.str [97,115,115,105,103,110]))),(1,(.pv (.str [61]))),(2,t89)] fun t90 =>
 ((env 170 [t86,t90] s166 (fun t91 s169 =>
 (unD .not t91 fun t92 =>
 (condD t92
 (lock buildD prog 131 [] fun t94 =>
 (lock storeD prog s169 131 t4_j6 t94 fun s170 =>
 (lock loadD prog s170 131 t4_j6 fun r0 =>
 (retV (.tuple [r0,(.pv (.bool false))]) s170 K))))
 (J135_10 env  (t4_j6) (t6) (t7) (t57) s169 K X)))) (panV X))/\True))/\True))/\((lock buildD prog 50 [(0,(.pv (.str [97,115,115,105,103,110]))),(1,(.pv (.str [61]))),(2,t89)] fun t90 =>
 ((lock loadD prog s166 50 t85 fun t86 =>
 ((env 170 [t86,t90] s166 (fun t91 s167 =>
 (unD .not t91 fun t92 =>
 (condD t92
 (lock buildD prog 131 [] fun t94 =>
 (lock storeD prog s167 131 t4_j6 t94 fun s168 =>
 (lock loadD prog s168 131 t4_j6 fun r0 =>
 (retV (.tuple [r0,(.pv (.bool false))]) s168 K))))
 (J135_10 env  (t4_j6) (t6) (t7) (t57) s167 K X)))) (panV X))/\True))/\True))/\True)))/\True))))/\((lock buildSliceD prog false s19 23 2 2 [(0,t87),(1,t88)] fun t89 s159 =>
 ((lock loadD prog s159 23 t83 fun t84 =>
 (lock indexAddrD prog 23 t84 (.pv (.int .i64 0)) fun t85 =>
 ((lock loadD prog s159 50 t85 fun t86 =>
 ((lock buildD prog 50 [(0,(.pv (.str [97,115,115,105,103,110]))),(1,(.pv (.str [61]))),(2,t89)] fun t90 =>
 ((env 170 [t86,t90] s159 (fun t91 s164 =>
 (unD .not t91 fun t92 =>
 (condD t92
 (lock buildD prog 131 [] fun t94 =>
 (lock storeD prog s164 131 t4_j6 t94 fun s165 =>
 (lock loadD prog s165 131 t4_j6 fun r0 =>
 (retV (.tuple [r0,(.pv (.bool false))]) s165 K))))
 (J135_10 env  (t4_j6) (t6) (t7) (t57) s164 K X)))) (panV X))/\True))/\True))/\((lock buildD prog 50 [(0,(.pv (.str [97,115,115,105,103,110]))),(1,(.pv (.str [61]))),(2,t89)] fun t90 =>
 ((lock loadD prog s159 50 t85 fun t86 =>
 ((env 170 [t86,t90] s159 (fun t91 s162 =>
 (unD .not t91 fun t92 =>
 (condD t92
 (lock buildD prog 131 [] fun t94 =>
 (lock storeD prog s162 131 t4_j6 t94 fun s163 =>
 (lock loadD prog s163 131 t4_j6 fun r0 =>
 (retV (.tuple [r0,(.pv (.bool false))]) s163 K))))
 (J135_10 env  (t4_j6) (t6) (t7) (t57) s162 K X)))) (panV X))/\True))/\True))/\True))))/\((lock buildD prog 50 [(0,(.pv (.str [97,115,115,105,103,110]))),(1,(.pv (.str [61]))),(2,t89)] fun t90 =>
 ((lock loadD prog s159 23 t83 fun t84 =>
 (lock indexAddrD prog 23 t84 (.pv (.int .i64 0)) fun t85 =>
 ((lock loadD prog s159 50 t85 fun t86 =>
 ((env 170 [t86,t90] s159 (fun t91 s160 =>
 (unD .not t91 fun t92 =>
 (condD t92
 (lock buildD prog 131 [] fun t94 =>
 (lock storeD prog s160 131 t4_j6 t94 fun s161 =>
 (lock loadD prog s161 131 t4_j6 fun r0 =>
 (retV (.tuple [r0,(.pv (.bool false))]) s161 K))))
 (J135_10 env  (t4_j6) (t6) (t7) (t57) s160 K X)))) (panV X))/\True))/\True)))/\True))/\True)))/\True)))/\True)))/\((lock loadD prog s19 50 t6 fun t88 =>
 ((lock loadD prog s19 23 t83 fun t84 =>
 (lock indexAddrD prog 23 t84 (.pv (.int .i64 0)) fun t85 =>
 ((lock loadD prog s19 50 t85 fun t86 =>
 ((lock loadD prog s19 50 t7 fun t87 =>
 ((lock buildSliceD prog false s19 23 2 2 [(0,t87),(1,t88)] fun t89 s156 =>
 ((lock buildD prog 50 [(0,(.pv (.str [97,115,115,105,103,110]))),(1,(.pv (.str [61]))),(2,t89)] fun t90 =>
 ((env 170 [t86,t90] s156 (fun t91 s157 =>
 (unD .not t91 fun t92 =>
 (condD t92
 (lock buildD prog 131 [] fun t94 =>
 (lock storeD prog s157 131 t4_j6 t94 fun s158 =>
 (lock loadD prog s158 131 t4_j6 fun r0 =>
 (retV (.tuple [r0,(.pv (.bool false))]) s158 K))))
 (J135_10 env  (t4_j6) (t6) (t7) (t57) s157 K X)))) (panV X))/\True))/\True))/\True))/\True))/\((lock loadD prog s19 50 t7 fun t87 =>
 ((lock loadD prog s19 50 t85 fun t86 =>
 ((lock buildSliceD prog false s19 23 2 2 [(0,t87),(1,t88)] fun t89 s153 =>
 ((lock buildD prog 50 [(0,(.pv (.str [97,115,115,105,103,110]))),(1,(.pv (.str [61]))),(2,t89)] fun t90 =>
 ((env 170 [t86,t90] s153 (fun t91 s154 =>
 (unD .not t91 fun t92 =>
 (condD t92
 (lock buildD prog 131 [] fun t94 =>
 (lock storeD prog s154 131 t4_j6 t94 fun s155 =>
 (lock loadD prog s155 131 t4_j6 fun r0 =>
 (retV (.tuple [r0,(.pv (.bool false))]) s155 K))))
 (J135_10 env  (t4_j6) (t6) (t7) (t57) s154 K X)))) (panV X))/\True))/\True))/\True))/\((lock buildSliceD prog false s19 23 2 2 [(0,t87),(1,t88)] fun t89 s148 =>
 ((lock loadD prog s148 50 t85 fun t86 =>
 ((lock buildD prog 50 [(0,(.pv (.str [97,115,115,105,103,110]))),(1,(.pv (.str [61]))),(2,t89)] fun t90 =>
 ((env 170 [t86,t90] s148 (fun t91 s151 =>
 (unD .not t91 fun t92 =>
 (condD t92
 (lock buildD prog 131 [] fun t94 =>
 (lock storeD prog s151 131 t4_j6 t94 fun s152 =>
 (lock loadD prog s152 131 t4_j6 fun r0 =>
 (retV (.tuple [r0,(.pv (.bool false))]) s152 K))))
 (J135_10 env  (t4_j6) (t6) (t7) (t57) s151 K X)))) (panV X))/\True))/\True))/\((lock buildD prog 50 [(0,(.pv (.str [97,115,115,105,103,110]))),(1,(.pv (.str [61]))),(2,t89)] fun t90 =>
 ((lock loadD prog s148 50 t85 fun t86 =>
 ((env 170 [t86,t90] s148 (fun t91 s149 =>
 (unD .not t91 fun t92 =>
 (condD t92
 (lock buildD prog 131 [] fun t94 =>
 (lock storeD prog s149 131 t4_j6 t94 fun s150 =>
 (lock loadD prog s150 131 t4_j6 fun r0 =>
 (retV (.tuple [r0,(.pv (.bool false))]) s150 K))))
 (J135_10 env  (t4_j6) (t6) (t7) (t57) s149 K X)))) (panV X))/\True))/\True))/\True)))/\True)))/\True))))/\((lock loadD prog s19 50 t7 fun t87 =>
 ((lock loadD prog s19 23 t83 fun t84 =>
 (lock indexAddrD prog 23 t84 (.pv (.int .i64 0)) fun t85 =>
 ((lock loadD prog s19 50 t85 fun t86 =>
 ((lock buildSliceD prog false s19 23 2 2 [(0,t87),(1,t88)] fun t89 s145 =>
 ((lock buildD prog 50 [(0,(.pv (.str [97,115,115,105,103,110]))),(1,(.pv (.str [61]))),(2,t89)] fun t90 =>
 ((env 170 [t86,t90] s145 (fun t91 s146 =>
 (unD .not t91 fun t92 =>
 (condD t92
 (lock buildD prog 131 [] fun t94 =>
 (lock storeD prog s146 131 t4_j6 t94 fun s147 =>
 (lock loadD prog s147 131 t4_j6 fun r0 =>
 (retV (.tuple [r0,(.pv (.bool false))]) s147 K))))
 (J135_10 env  (t4_j6) (t6) (t7) (t57) s146 K X)))) (panV X))/\True))/\True))/\True))/\((lock buildSliceD prog false s19 23 2 2 [(0,t87),(1,t88)] fun t89 s140 =>
 ((lock loadD prog s140 50 t85 fun t86 =>
 ((lock buildD prog 50 [(0,(.pv (.str [97,115,115,105,103,110]))),(1,(.pv (.str [61]))),(2,t89)] fun t90 =>
 ((env 170 [t86,t90] s140 (fun t91 s143 =>
 (unD .not t91 fun t92 =>
 (condD t92
 (lock buildD prog 131 [] fun t94 =>
 (lock storeD prog s143 131 t4_j6 t94 fun s144 =>
 (lock loadD prog s144 131 t4_j6 fun r0 =>
 (retV (.tuple [r0,(.pv (.bool false))]) s144 K))))
 (J135_10 env  (t4_j6) (t6) (t7) (t57) s143 K X)))) (panV X))/\True))/\True))/\((lock buildD prog 50 [(0,(.pv (.str [97,115,115,105,103,110]))),(1,(.pv (.str [61]))),(2,t89)] fun t90 =>
 ((lock loadD prog s140 50 t85 fun t86 =>
 ((env 170 [t86,t90] s140 (fun t91 s141 =>
 (unD .not t91 fun t92 =>
 (condD t92
 (lock buildD prog 131 [] fun t94 =>
 (lock storeD prog s141 131 t4_j6 t94 fun s142 =>
 (lock loadD prog s142 131 t4_j6 fun r0 =>
 (retV (.tuple [r0,(.pv (.bool false))]) s142 K))))
 (J135_10 env  (t4_j6) (t6) (t7) (t57) s141 K X)))) (panV X))/\True))/\True))/\True)))/\True))))/\((lock buildSliceD prog false s19 23 2 2 [(0,t87),(1,t88)] fun t89 s133 =>
 ((lock loadD prog s133 23 t83 fun t84 =>
 (lock indexAddrD prog 23 t84 (.pv (.int .i64 0)) fun t85 =>
 ((lock loadD prog s133 50 t85 fun t86 =>
 ((lock buildD prog 50 [(0,(.pv (.str [97,115,115,105,103,110]))),(1,(.pv (.str [61]))),(2,t89)] fun t90 =>
 ((env 170 [t86,t90] s133 (fun t91 s138 =>
 (unD .not t91 fun t92 =>
 (condD t92
 (lock buildD prog 131 [] fun t94 =>
 (lock storeD prog s138 131 t4_j6 t94 fun s139 =>
 (lock loadD prog s139 131 t4_j6 fun r0 =>
 (retV (.tuple [r0,(.pv (.bool false))]) s139 K))))
 (J135_10 env  (t4_j6) (t6) (t7) (t57) s138 K X)))) (panV X))/\True))/\True))/\((lock buildD prog 50 [(0,(.pv (.str [97,115,115,105,103,110]))),(1,(.pv (.str [61]))),(2,t89)] fun t90 =>
 ((lock loadD prog s133 50 t85 fun t86 =>
 ((env 170 [t86,t90] s133 (fun t91 s136 =>
 (unD .not t91 fun t92 =>
 (condD t92
 (lock buildD prog 131 [] fun t94 =>
 (lock storeD prog s136 131 t4_j6 t94 fun s137 =>
 (lock loadD prog s137 131 t4_j6 fun r0 =>
 (retV (.tuple [r0,(.pv (.bool false))]) s137 K))))
 (J135_10 env  (t4_j6) (t6) (t7) (t57) s136 K X)))) (panV X))/\True))/\True))/\True))))/\((lock buildD prog 50 [(0,(.pv (.str [97,115,115,105,103,110]))),(1,(.pv (.str [61]))),(2,t89)] fun t90 =>
 ((lock loadD prog s133 23 t83 fun t84 =>
 (lock indexAddrD prog 23 t84 (.pv (.int .i64 0)) fun t85 =>
 ((lock loadD prog s133 50 t85 fun t86 =>
 ((env 170 [t86,t90] s133 (fun t91 s134 =>
 (unD .not t91 fun t92 =>
 (condD t92
 (lock buildD prog 131 [] fun t94 =>
 (lock storeD prog s134 131 t4_j6 t94 fun s135 =>
 (lock loadD prog s135 131 t4_j6 fun r0 =>
 (retV (.tuple [r0,(.pv (.bool false))]) s135 K))))
 (J135_10 env  (t4_j6) (t6) (t7) (t57) s134 K X)))) (panV X))/\True))/\True)))/\True))/\True)))/\True)))/\True)))/\True))))/\True))/\True))) (panV X))/\True))
 (((((((((((lock buildD prog 131 [] fun t94 =>
 (lock storeD prog s18 131 t4_j6 t94 fun s242 =>
 (lock loadD prog s242 131 t4_j6 fun r0 =>
 (retV (.tuple [r0,(.pv (.bool false))]) s242 K))))/\True)/\True)/\True)/\True)/\((((((lock buildD prog 131 [] fun t94 =>
 (lock storeD prog s18 131 t4_j6 t94 fun s241 =>
 (lock loadD prog s241 131 t4_j6 fun r0 =>
 (retV (.tuple [r0,(.pv (.bool false))]) s241 K))))/\True)/\True)/\True)/\True)/\True))/\(((((((lock buildD prog 131 [] fun t94 =>
 (lock storeD prog s18 131 t4_j6 t94 fun s240 =>
 (lock loadD prog s240 131 t4_j6 fun r0 =>
 (retV (.tuple [r0,(.pv (.bool false))]) s240 K))))/\True)/\True)/\True)/\True)/\((((((lock buildD prog 131 [] fun t94 =>
 (lock storeD prog s18 131 t4_j6 t94 fun s239 =>
 (lock loadD prog s239 131 t4_j6 fun r0 =>
 (retV (.tuple [r0,(.pv (.bool false))]) s239 K))))/\True)/\True)/\True)/\(((((lock buildD prog 131 [] fun t94 =>
 (lock storeD prog s18 131 t4_j6 t94 fun s238 =>
 (lock loadD prog s238 131 t4_j6 fun r0 =>
 (retV (.tuple [r0,(.pv (.bool false))]) s238 K))))/\True)/\True)/\((((lock buildD prog 131 [] fun t94 =>
 (lock storeD prog s18 131 t4_j6 t94 fun s237 =>
 (lock loadD prog s237 131 t4_j6 fun r0 =>
 (retV (.tuple [r0,(.pv (.bool false))]) s237 K))))/\True)/\True)/\True))/\True))/\True))/\(((((((lock buildD prog 131 [] fun t94 =>
 (lock storeD prog s18 131 t4_j6 t94 fun s236 =>
 (lock loadD prog s236 131 t4_j6 fun r0 =>
 (retV (.tuple [r0,(.pv (.bool false))]) s236 K))))/\True)/\True)/\True)/\True)/\((((((lock buildD prog 131 [] fun t94 =>
 (lock storeD prog s18 131 t4_j6 t94 fun s235 =>
 (lock loadD prog s235 131 t4_j6 fun r0 =>
 (retV (.tuple [r0,(.pv (.bool false))]) s235 K))))/\True)/\True)/\True)/\(((((lock buildD prog 131 [] fun t94 =>
 (lock storeD prog s18 131 t4_j6 t94 fun s234 =>
 (lock loadD prog s234 131 t4_j6 fun r0 =>
 (retV (.tuple [r0,(.pv (.bool false))]) s234 K))))/\True)/\True)/\((((lock buildD prog 131 [] fun t94 =>
 (lock storeD prog s18 131 t4_j6 t94 fun s233 =>
 (lock loadD prog s233 131 t4_j6 fun r0 =>
 (retV (.tuple [r0,(.pv (.bool false))]) s233 K))))/\True)/\True)/\True))/\True))/\True))/\True)))/\((((((((lock buildD prog 131 [] fun t94 =>
 (lock storeD prog s18 131 t4_j6 t94 fun s232 =>
 (lock loadD prog s232 131 t4_j6 fun r0 =>
 (retV (.tuple [r0,(.pv (.bool false))]) s232 K))))/\True)/\True)/\True)/\True)/\((((((lock buildD prog 131 [] fun t94 =>
 (lock storeD prog s18 131 t4_j6 t94 fun s231 =>
 (lock loadD prog s231 131 t4_j6 fun r0 =>
 (retV (.tuple [r0,(.pv (.bool false))]) s231 K))))/\True)/\True)/\True)/\(((((lock buildD prog 131 [] fun t94 =>
 (lock storeD prog s18 131 t4_j6 t94 fun s230 =>
 (lock loadD prog s230 131 t4_j6 fun r0 =>
 (retV (.tuple [r0,(.pv (.bool false))]) s230 K))))/\True)/\True)/\((((lock buildD prog 131 [] fun t94 =>
 (lock storeD prog s18 131 t4_j6 t94 fun s229 =>
 (lock loadD prog s229 131 t4_j6 fun r0 =>
 (retV (.tuple [r0,(.pv (.bool false))]) s229 K))))/\True)/\True)/\True))/\True))/\True))/\(((((((lock buildD prog 131 [] fun t94 =>
 (lock storeD prog s18 131 t4_j6 t94 fun s228 =>
 (lock loadD prog s228 131 t4_j6 fun r0 =>
 (retV (.tuple [r0,(.pv (.bool false))]) s228 K))))/\True)/\True)/\True)/\(((((lock buildD prog 131 [] fun t94 =>
 (lock storeD prog s18 131 t4_j6 t94 fun s227 =>
 (lock loadD prog s227 131 t4_j6 fun r0 =>
 (retV (.tuple [r0,(.pv (.bool false))]) s227 K))))/\True)/\True)/\((((lock buildD prog 131 [] fun t94 =>
 (lock storeD prog s18 131 t4_j6 t94 fun s226 =>
 (lock loadD prog s226 131 t4_j6 fun r0 =>
 (retV (.tuple [r0,(.pv (.bool false))]) s226 K))))/\True)/\True)/\True))/\True))/\((((((lock buildD prog 131 [] fun t94 =>
 (lock storeD prog s18 131 t4_j6 t94 fun s225 =>
 (lock loadD prog s225 131 t4_j6 fun r0 =>
 (retV (.tuple [r0,(.pv (.bool false))]) s225 K))))/\True)/\True)/\((((lock buildD prog 131 [] fun t94 =>
 (lock storeD prog s18 131 t4_j6 t94 fun s224 =>
 (lock loadD prog s224 131 t4_j6 fun r0 =>
 (retV (.tuple [r0,(.pv (.bool false))]) s224 K))))/\True)/\True)/\True))/\(((((lock buildD prog 131 [] fun t94 =>
 (lock storeD prog s18 131 t4_j6 t94 fun s223 =>
 (lock loadD prog s223 131 t4_j6 fun r0 =>
 (retV (.tuple [r0,(.pv (.bool false))]) s223 K))))/\True)/\True)/\True)/\True))/\True))/\True))/\((((((((lock buildD prog 131 [] fun t94 =>
 (lock storeD prog s18 131 t4_j6 t94 fun s222 =>
 (lock loadD prog s222 131 t4_j6 fun r0 =>
 (retV (.tuple [r0,(.pv (.bool false))]) s222 K))))/\True)/\True)/\True)/\True)/\((((((lock buildD prog 131 [] fun t94 =>
 (lock storeD prog s18 131 t4_j6 t94 fun s221 =>
 (lock loadD prog s221 131 t4_j6 fun r0 =>
 (retV (.tuple [r0,(.pv (.bool false))]) s221 K))))/\True)/\True)/\True)/\(((((lock buildD prog 131 [] fun t94 =>
 (lock storeD prog s18 131 t4_j6 t94 fun s220 =>
 (lock loadD prog s220 131 t4_j6 fun r0 =>
 (retV (.tuple [r0,(.pv (.bool false))]) s220 K))))/\True)/\True)/\((((lock buildD prog 131 [] fun t94 =>
 (lock storeD prog s18 131 t4_j6 t94 fun s219 =>
 (lock loadD prog s219 131 t4_j6 fun r0 =>
 (retV (.tuple [r0,(.pv (.bool false))]) s219 K))))/\True)/\True)/\True))/\True))/\True))/\(((((((lock buildD prog 131 [] fun t94 =>
 (lock storeD prog s18 131 t4_j6 t94 fun s218 =>
 (lock loadD prog s218 131 t4_j6 fun r0 =>
 (retV (.tuple [r0,(.pv (.bool false))]) s218 K))))/\True)/\True)/\True)/\(((((lock buildD prog 131 [] fun t94 =>
 (lock storeD prog s18 131 t4_j6 t94 fun s217 =>
 (lock loadD prog s217 131 t4_j6 fun r0 =>
 (retV (.tuple [r0,(.pv (.bool false))]) s217 K))))/\True)/\True)/\((((lock buildD prog 131 [] fun t94 =>
 (lock storeD prog s18 131 t4_j6 t94 fun s216 =>
 (lock loadD prog s216 131 t4_j6 fun r0 =>
 (retV (.tuple [r0,(.pv (.bool false))]) s216 K))))/\True)/\True)/\True))/\True))/\((((((lock buildD prog 131 [] fun t94 =>
 (lock storeD prog s18 131 t4_j6 t94 fun s215 =>
 (lock loadD prog s215 131 t4_j6 fun r0 =>
 (retV (.tuple [r0,(.pv (.bool false))]) s215 K))))/\True)/\True)/\((((lock buildD prog 131 [] fun t94 =>
 (lock storeD prog s18 131 t4_j6 t94 fun s214 =>
 (lock loadD prog s214 131 t4_j6 fun r0 =>
 (retV (.tuple [r0,(.pv (.bool false))]) s214 K))))/\True)/\True)/\True))/\(((((lock buildD prog 131 [] fun t94 =>
 (lock storeD prog s18 131 t4_j6 t94 fun s213 =>
 (lock loadD prog s213 131 t4_j6 fun r0 =>
 (retV (.tuple [r0,(.pv (.bool false))]) s213 K))))/\True)/\True)/\True)/\True))/\True))/\True))/\True)))/\True)/\True)/\True))/\True))) (panV X))/\True))/\True))
 ((((((((((((((lock buildD prog 131 [] fun t94 =>
 (lock storeD prog s16 131 t4_j6 t94 fun s272 =>
 (lock loadD prog s272 131 t4_j6 fun r0 =>
 (retV (.tuple [r0,(.pv (.bool false))]) s272 K))))/\True)/\True)/\True)/\True)/\((((((lock buildD prog 131 [] fun t94 =>
 (lock storeD prog s16 131 t4_j6 t94 fun s271 =>
 (lock loadD prog s271 131 t4_j6 fun r0 =>
 (retV (.tuple [r0,(.pv (.bool false))]) s271 K))))/\True)/\True)/\True)/\True)/\True))/\(((((((lock buildD prog 131 [] fun t94 =>
 (lock storeD prog s16 131 t4_j6 t94 fun s270 =>
 (lock loadD prog s270 131 t4_j6 fun r0 =>
 (retV (.tuple [r0,(.pv (.bool false))]) s270 K))))/\True)/\True)/\True)/\True)/\((((((lock buildD prog 131 [] fun t94 =>
 (lock storeD prog s16 131 t4_j6 t94 fun s269 =>
 (lock loadD prog s269 131 t4_j6 fun r0 =>
 (retV (.tuple [r0,(.pv (.bool false))]) s269 K))))/\True)/\True)/\True)/\(((((lock buildD prog 131 [] fun t94 =>
 (lock storeD prog s16 131 t4_j6 t94 fun s268 =>
 (lock loadD prog s268 131 t4_j6 fun r0 =>
 (retV (.tuple [r0,(.pv (.bool false))]) s268 K))))/\True)/\True)/\((((lock buildD prog 131 [] fun t94 =>
 (lock storeD prog s16 131 t4_j6 t94 fun s267 =>
 (lock loadD prog s267 131 t4_j6 fun r0 =>
 (retV (.tuple [r0,(.pv (.bool false))]) s267 K))))/\True)/\True)/\True))/\True))/\True))/\(((((((lock buildD prog 131 [] fun t94 =>
 (lock storeD prog s16 131 t4_j6 t94 fun s266 =>
 (lock loadD prog s266 131 t4_j6 fun r0 =>
 (retV (.tuple [r0,(.pv (.bool false))]) s266 K))))/\True)/\True)/\True)/\True)/\((((((lock buildD prog 131 [] fun t94 =>
 (lock storeD prog s16 131 t4_j6 t94 fun s265 =>
 (lock loadD prog s265 131 t4_j6 fun r0 =>
 (retV (.tuple [r0,(.pv (.bool false))]) s265 K))))/\True)/\True)/\True)/\(((((lock buildD prog 131 [] fun t94 =>
 (lock storeD prog s16 131 t4_j6 t94 fun s264 =>
 (lock loadD prog s264 131 t4_j6 fun r0 =>
 (retV (.tuple [r0,(.pv (.bool false))]) s264 K))))/\True)/\True)/\((((lock buildD prog 131 [] fun t94 =>
 (lock storeD prog s16 131 t4_j6 t94 fun s263 =>
 (lock loadD prog s263 131 t4_j6 fun r0 =>
 (retV (.tuple [r0,(.pv (.bool false))]) s263 K))))/\True)/\True)/\True))/\True))/\True))/\True)))/\((((((((lock buildD prog 131 [] fun t94 =>
 (lock storeD prog s16 131 t4_j6 t94 fun s262 =>
 (lock loadD prog s262 131 t4_j6 fun r0 =>
 (retV (.tuple [r0,(.pv (.bool false))]) s262 K))))/\True)/\True)/\True)/\True)/\((((((lock buildD prog 131 [] fun t94 =>
 (lock storeD prog s16 131 t4_j6 t94 fun s261 =>
 (lock loadD prog s261 131 t4_j6 fun r0 =>
 (retV (.tuple [r0,(.pv (.bool false))]) s261 K))))/\True)/\True)/\True)/\(((((lock buildD prog 131 [] fun t94 =>
 (lock storeD prog s16 131 t4_j6 t94 fun s260 =>
 (lock loadD prog s260 131 t4_j6 fun r0 =>
 (retV (.tuple [r0,(.pv (.bool false))]) s260 K))))/\True)/\True)/\((((lock buildD prog 131 [] fun t94 =>
 (lock storeD prog s16 131 t4_j6 t94 fun s259 =>
 (lock loadD prog s259 131 t4_j6 fun r0 =>
 (retV (.tuple [r0,(.pv (.bool false))]) s259 K))))/\True)/\True)/\True))/\True))/\True))/\(((((((lock buildD prog 131 [] fun t94 =>
 (lock storeD prog s16 131 t4_j6 t94 fun s258 =>
 (lock loadD prog s258 131 t4_j6 fun r0 =>
 (retV (.tuple [r0,(.pv (.bool false))]) s258 K))))/\True)/\True)/\True)/\(((((lock buildD prog 131 [] fun t94 =>
 (lock storeD prog s16 131 t4_j6 t94 fun s257 =>
 (lock loadD prog s257 131 t4_j6 fun r0 =>
 (retV (.tuple [r0,(.pv (.bool false))]) s257 K))))/\True)/\True)/\((((lock buildD prog 131 [] fun t94 =>
 (lock storeD prog s16 131 t4_j6 t94 fun s256 =>
 (lock loadD prog s256 131 t4_j6 fun r0 =>
 (retV (.tuple [r0,(.pv (.bool false))]) s256 K))))/\True)/\True)/\True))/\True))/\((((((lock buildD prog 131 [] fun t94 =>
 (lock storeD prog s16 131 t4_j6 t94 fun s255 =>
 (lock loadD prog s255 131 t4_j6 fun r0 =>
 (retV (.tuple [r0,(.pv (.bool false))]) s255 K))))/\True)/\True)/\((((lock buildD prog 131 [] fun t94 =>
 (lock storeD prog s16 131 t4_j6 t94 fun s254 =>
 (lock loadD prog s254 131 t4_j6 fun r0 =>
 (retV (.tuple [r0,(.pv (.bool false))]) s254 K))))/\True)/\True)/\True))/\(((((lock buildD prog 131 [] fun t94 =>
 (lock storeD prog s16 131 t4_j6 t94 fun s253 =>
 (lock loadD prog s253 131 t4_j6 fun r0 =>
 (retV (.tuple [r0,(.pv (.bool false))]) s253 K))))/\True)/\True)/\True)/\True))/\True))/\True))/\((((((((lock buildD prog 131 [] fun t94 =>
 (lock storeD prog s16 131 t4_j6 t94 fun s252 =>
 (lock loadD prog s252 131 t4_j6 fun r0 =>
 (retV (.tuple [r0,(.pv (.bool false))]) s252 K))))/\True)/\True)/\True)/\True)/\((((((lock buildD prog 131 [] fun t94 =>
 (lock storeD prog s16 131 t4_j6 t94 fun s251 =>
 (lock loadD prog s251 131 t4_j6 fun r0 =>
 (retV (.tuple [r0,(.pv (.bool false))]) s251 K))))/\True)/\True)/\True)/\(((((lock buildD prog 131 [] fun t94 =>
 (lock storeD prog s16 131 t4_j6 t94 fun s250 =>
 (lock loadD prog s250 131 t4_j6 fun r0 =>
 (retV (.tuple [r0,(.pv (.bool false))]) s250 K))))/\True)/\True)/\((((lock buildD prog 131 [] fun t94 =>
 (lock storeD prog s16 131 t4_j6 t94 fun s249 =>
 (lock loadD prog s249 131 t4_j6 fun r0 =>
 (retV (.tuple [r0,(.pv (.bool false))]) s249 K))))/\True)/\True)/\True))/\True))/\True))/\(((((((lock buildD prog 131 [] fun t94 =>
 (lock storeD prog s16 131 t4_j6 t94 fun s248 =>
 (lock loadD prog s248 131 t4_j6 fun r0 =>
 (retV (.tuple [r0,(.pv (.bool false))]) s248 K))))/\True)/\True)/\True)/\(((((lock buildD prog 131 [] fun t94 =>
 (lock storeD prog s16 131 t4_j6 t94 fun s247 =>
 (lock loadD prog s247 131 t4_j6 fun r0 =>
 (retV (.tuple [r0,(.pv (.bool false))]) s247 K))))/\True)/\True)/\((((lock buildD prog 131 [] fun t94 =>
 (lock storeD prog s16 131 t4_j6 t94 fun s246 =>
 (lock loadD prog s246 131 t4_j6 fun r0 =>
 (retV (.tuple [r0,(.pv (.bool false))]) s246 K))))/\True)/\True)/\True))/\True))/\((((((lock buildD prog 131 [] fun t94 =>
 (lock storeD prog s16 131 t4_j6 t94 fun s245 =>
 (lock loadD prog s245 131 t4_j6 fun r0 =>
 (retV (.tuple [r0,(.pv (.bool false))]) s245 K))))/\True)/\True)/\((((lock buildD prog 131 [] fun t94 =>
 (lock storeD prog s16 131 t4_j6 t94 fun s244 =>
 (lock loadD prog s244 131 t4_j6 fun r0 =>
 (retV (.tuple [r0,(.pv (.bool false))]) s244 K))))/\True)/\True)/\True))/\(((((lock buildD prog 131 [] fun t94 =>
 (lock storeD prog s16 131 t4_j6 t94 fun s243 =>
 (lock loadD prog s243 131 t4_j6 fun r0 =>
 (retV (.tuple [r0,(.pv (.bool false))]) s243 K))))/\True)/\True)/\True)/\True))/\True))/\True))/\True)))/\True)/\True)/\True)/\True)/\True)/\True))/\True))) (panV X))/\True))
 ((((((((((((((((lock buildD prog 131 [] fun t94 =>
 (lock storeD prog s15 131 t4_j6 t94 fun s302 =>
 (lock loadD prog s302 131 t4_j6 fun r0 =>
 (retV (.tuple [r0,(.pv (.bool false))]) s302 K))))/\True)/\True)/\True)/\True)/\((((((lock buildD prog 131 [] fun t94 =>
 (lock storeD prog s15 131 t4_j6 t94 fun s301 =>
 (lock loadD prog s301 131 t4_j6 fun r0 =>
 (retV (.tuple [r0,(.pv (.bool false))]) s301 K))))/\True)/\True)/\True)/\True)/\True))/\(((((((lock buildD prog 131 [] fun t94 =>
 (lock storeD prog s15 131 t4_j6 t94 fun s300 =>
 (lock loadD prog s300 131 t4_j6 fun r0 =>
 (retV (.tuple [r0,(.pv (.bool false))]) s300 K))))/\True)/\True)/\True)/\True)/\((((((lock buildD prog 131 [] fun t94 =>
 (lock storeD prog s15 131 t4_j6 t94 fun s299 =>
 (lock loadD prog s299 131 t4_j6 fun r0 =>
 (retV (.tuple [r0,(.pv (.bool false))]) s299 K))))/\True)/\True)/\True)/\(((((lock buildD prog 131 [] fun t94 =>
 (lock storeD prog s15 131 t4_j6 t94 fun s298 =>
 (lock loadD prog s298 131 t4_j6 fun r0 =>
 (retV (.tuple [r0,(.pv (.bool false))]) s298 K))))/\True)/\True)/\((((lock buildD prog 131 [] fun t94 =>
 (lock storeD prog s15 131 t4_j6 t94 fun s297 =>
 (lock loadD prog s297 131 t4_j6 fun r0 =>
 (retV (.tuple [r0,(.pv (.bool false))]) s297 K))))/\True)/\True)/\True))/\True))/\True))/\(((((((lock buildD prog 131 [] fun t94 =>
 (lock storeD prog s15 131 t4_j6 t94 fun s296 =>
 (lock loadD prog s296 131 t4_j6 fun r0 =>
 (retV (.tuple [r0,(.pv (.bool false))]) s296 K))))/\True)/\True)/\True)/\True)/\((((((lock buildD prog 131 [] fun t94 =>
 (lock storeD prog s15 131 t4_j6 t94 fun s295 =>
 (lock loadD prog s295 131 t4_j6 fun r0 =>
 (retV (.tuple [r0,(.pv (.bool false))]) s295 K))))/\True)/\True)/\True)/\(((((lock buildD prog 131 [] fun t94 =>
 (lock storeD prog s15 131 t4_j6 t94 fun s294 =>
 (lock loadD prog s294 131 t4_j6 fun r0 =>
 (retV (.tuple [r0,(.pv (.bool false))]) s294 K))))/\True)/\True)/\((((lock buildD prog 131 [] fun t94 =>
 (lock storeD prog s15 131 t4_j6 t94 fun s293 =>
 (lock loadD prog s293 131 t4_j6 fun r0 =>
 (retV (.tuple [r0,(.pv (.bool false))]) s293 K))))/\True)/\True)/\True))/\True))/\True))/\True)))/\((((((((lock buildD prog 131 [] fun t94 =>
 (lock storeD prog s15 131 t4_j6 t94 fun s292 =>
 (lock loadD prog s292 131 t4_j6 fun r0 =>
 (retV (.tuple [r0,(.pv (.bool false))]) s292 K))))/\True)/\True)/\True)/\True)/\((((((lock buildD prog 131 [] fun t94 =>
 (lock storeD prog s15 131 t4_j6 t94 fun s291 =>
 (lock loadD prog s291 131 t4_j6 fun r0 =>
 (retV (.tuple [r0,(.pv (.bool false))]) s291 K))))/\True)/\True)/\True)/\(((((lock buildD prog 131 [] fun t94 =>
 (lock storeD prog s15 131 t4_j6 t94 fun s290 =>
 (lock loadD prog s290 131 t4_j6 fun r0 =>
 (retV (.tuple [r0,(.pv (.bool false))]) s290 K))))/\True)/\True)/\((((lock buildD prog 131 [] fun t94 =>
 (lock storeD prog s15 131 t4_j6 t94 fun s289 =>
 (lock loadD prog s289 131 t4_j6 fun r0 =>
 (retV (.tuple [r0,(.pv (.bool false))]) s289 K))))/\True)/\True)/\True))/\True))/\True))/\(((((((lock buildD prog 131 [] fun t94 =>
 (lock storeD prog s15 131 t4_j6 t94 fun s288 =>
 (lock loadD prog s288 131 t4_j6 fun r0 =>
 (retV (.tuple [r0,(.pv (.bool false))]) s288 K))))/\True)/\True)/\True)/\(((((lock buildD prog 131 [] fun t94 =>
 (lock storeD prog s15 131 t4_j6 t94 fun s287 =>
 (lock loadD prog s287 131 t4_j6 fun r0 =>
 (retV (.tuple [r0,(.pv (.bool false))]) s287 K))))/\True)/\True)/\((((lock buildD prog 131 [] fun t94 =>
 (lock storeD prog s15 131 t4_j6 t94 fun s286 =>
 (lock loadD prog s286 131 t4_j6 fun r0 =>
 (retV (.tuple [r0,(.pv (.bool false))]) s286 K))))/\True)/\True)/\True))/\True))/\((((((lock buildD prog 131 [] fun t94 =>
 (lock storeD prog s15 131 t4_j6 t94 fun s285 =>
 (lock loadD prog s285 131 t4_j6 fun r0 =>
 (retV (.tuple [r0,(.pv (.bool false))]) s285 K))))/\True)/\True)/\((((lock buildD prog 131 [] fun t94 =>
 (lock storeD prog s15 131 t4_j6 t94 fun s284 =>
 (lock loadD prog s284 131 t4_j6 fun r0 =>
 (retV (.tuple [r0,(.pv (.bool false))]) s284 K))))/\True)/\True)/\True))/\(((((lock buildD prog 131 [] fun t94 =>
 (lock storeD prog s15 131 t4_j6 t94 fun s283 =>
 (lock loadD prog s283 131 t4_j6 fun r0 =>
 (retV (.tuple [r0,(.pv (.bool false))]) s283 K))))/\True)/\True)/\True)/\True))/\True))/\True))/\((((((((lock buildD prog 131 [] fun t94 =>
 (lock storeD prog s15 131 t4_j6 t94 fun s282 =>
 (lock loadD prog s282 131 t4_j6 fun r0 =>
 (retV (.tuple [r0,(.pv (.bool false))]) s282 K))))/\True)/\True)/\True)/\True)/\((((((lock buildD prog 131 [] fun t94 =>
 (lock storeD prog s15 131 t4_j6 t94 fun s281 =>
 (lock loadD prog s281 131 t4_j6 fun r0 =>
 (retV (.tuple [r0,(.pv (.bool false))]) s281 K))))/\True)/\True)/\True)/\(((((lock buildD prog 131 [] fun t94 =>
 (lock storeD prog s15 131 t4_j6 t94 fun s280 =>
 (lock loadD prog s280 131 t4_j6 fun r0 =>
 (retV (.tuple [r0,(.pv (.bool false))]) s280 K))))/\True)/\True)/\((((lock buildD prog 131 [] fun t94 =>
 (lock storeD prog s15 131 t4_j6 t94 fun s279 =>
 (lock loadD prog s279 131 t4_j6 fun r0 =>
 (retV (.tuple [r0,(.pv (.bool false))]) s279 K))))/\True)/\True)/\True))/\True))/\True))/\(((((((lock buildD prog 131 [] fun t94 =>
 (lock storeD prog s15 131 t4_j6 t94 fun s278 =>
 (lock loadD prog s278 131 t4_j6 fun r0 =>
 (retV (.tuple [r0,(.pv (.bool false))]) s278 K))))/\True)/\True)/\True)/\(((((lock buildD prog 131 [] fun t94 =>
 (lock storeD prog s15 131 t4_j6 t94 fun s277 =>
 (lock loadD prog s277 131 t4_j6 fun r0 =>
 (retV (.tuple [r0,(.pv (.bool false))]) s277 K))))/\True)/\True)/\((((lock buildD prog 131 [] fun t94 =>
 (lock storeD prog s15 131 t4_j6 t94 fun s276 =>
 (lock loadD prog s276 131 t4_j6 fun r0 =>
 (retV (.tuple [r0,(.pv (.bool false))]) s276 K))))/\True)/\True)/\True))/\True))/\((((((lock buildD prog 131 [] fun t94 =>
 (lock storeD prog s15 131 t4_j6 t94 fun s275 =>
 (lock loadD prog s275 131 t4_j6 fun r0 =>
 (retV (.tuple [r0,(.pv (.bool false))]) s275 K))))/\True)/\True)/\((((lock buildD prog 131 [] fun t94 =>
 (lock storeD prog s15 131 t4_j6 t94 fun s274 =>
 (lock loadD prog s274 131 t4_j6 fun r0 =>
 (retV (.tuple [r0,(.pv (.bool false))]) s274 K))))/\True)/\True)/\True))/\(((((lock buildD prog 131 [] fun t94 =>
 (lock storeD prog s15 131 t4_j6 t94 fun s273 =>
 (lock loadD prog s273 131 t4_j6 fun r0 =>
 (retV (.tuple [r0,(.pv (.bool false))]) s273 K))))/\True)/\True)/\True)/\True))/\True))/\True))/\True)))/\True)/\True)/\True)/\True)/\True)/\True)/\True)/\True))/\True))))))))))))
def J135_4 (env:Env)  (c2_j4 s3_j4 t4_j4:AV) (s:AS) (K:AV->AS->Prop) (X:PV->AS->Prop):Prop :=
 (lock fieldAddrD prog 50 c2_j4 0 fun t24 =>
 (lock loadD prog s 9 t24 fun t25 =>
 (lock binD prog .neq 9 t25 (.pv (.str [98,105,110])) fun t26 =>
 (guardD t26 false
 (lock fieldAddrD prog 50 c2_j4 2 fun t28 =>
 (lock loadD prog s 23 t28 fun t29 =>
 (lock lenD prog 23 t29 fun t30 =>
 (lock binD prog .neq 3 t30 (.pv (.int .i64 2)) fun t31 =>
 (guardD t31 false
 (lock fieldAddrD prog 50 s3_j4 0 fun t34 =>
 (lock loadD prog s 9 t34 fun t35 =>
 (lock binD prog .neq 9 t35 (.pv (.str [101,120,112,114])) fun t36 =>
 (guardD t36 false
 (lock fieldAddrD prog 50 s3_j4 2 fun t39 =>
 (lock loadD prog s 23 t39 fun t40 =>
 (lock lenD prog 23 t40 fun t41 =>
 (lock binD prog .neq 3 t41 (.pv (.int .i64 1)) fun t42 =>
 (condD t42
 (lock buildD prog 131 [] fun t44 =>
 (lock storeD prog s 131 t4_j4 t44 fun s7 =>
 (lock loadD prog s7 131 t4_j4 fun r0 =>
 (retV (.tuple [r0,(.pv (.bool false))]) s7 K))))
 (J135_6 env  (c2_j4) (s3_j4) (t4_j4) s K X))))))
 (lock buildD prog 131 [] fun t44 =>
 (lock storeD prog s 131 t4_j4 t44 fun s303 =>
 (lock loadD prog s303 131 t4_j4 fun r0 =>
 (retV (.tuple [r0,(.pv (.bool false))]) s303 K))))))))
 (lock buildD prog 131 [] fun t44 =>
 (lock storeD prog s 131 t4_j4 t44 fun s304 =>
 (lock loadD prog s304 131 t4_j4 fun r0 =>
 (retV (.tuple [r0,(.pv (.bool false))]) s304 K)))))))))
 (lock buildD prog 131 [] fun t44 =>
 (lock storeD prog s 131 t4_j4 t44 fun s305 =>
 (lock loadD prog s305 131 t4_j4 fun r0 =>
 (retV (.tuple [r0,(.pv (.bool false))]) s305 K))))))))
def J135_3 (env:Env)  (c2_j3 s3_j3 t4_j3 t19_j3:AV) (s:AS) (K:AV->AS->Prop) (X:PV->AS->Prop):Prop :=
 (condD t19_j3
 (lock fieldAddrD prog 50 s3_j3 2 fun t20 =>
 (lock loadD prog s 23 t20 fun t21 =>
 (lock indexAddrD prog 23 t21 (.pv (.int .i64 0)) fun t22 =>
 (lock loadD prog s 50 t22 fun t23 =>
 (lock storeD prog s 50 s3_j3 t23 fun s6 =>
 (J135_4 env  (c2_j3) (s3_j3) (t4_j3) s6 K X))))))
 (J135_4 env  (c2_j3) (s3_j3) (t4_j3) s K X))
def S135 (env:Env) (c0_a s1_a:AV) (s:AS) (K:AV->AS->Prop) (X:PV->AS->Prop):Prop :=
 (lock boxD s c0_a fun t2 s1 =>
 (lock boxD s1 s1_a fun t3 s2 =>
 (lock allocD prog s2 131 fun t4 s3 =>
 (lock loadD prog s3 50 t2 fun t9 =>
 (env 168 [t9] s3 (fun t10 s4 =>
 (lock storeD prog s4 50 t2 t10 fun s5 =>
 (lock fieldAddrD prog 50 t3 0 fun t11 =>
 (lock loadD prog s5 9 t11 fun t12 =>
 (lock binD prog .eql 9 t12 (.pv (.str [98,108,111,99,107])) fun t13 =>
 (guardD t13 true
 (lock fieldAddrD prog 50 t3 2 fun t15 =>
 (lock loadD prog s5 23 t15 fun t16 =>
 (lock lenD prog 23 t16 fun t17 =>
 (lock binD prog .eql 3 t17 (.pv (.int .i64 1)) fun t18 =>
 (J135_3 env  (t2) (t3) (t4) (t18) s5 K X)))))
 (J135_3 env  (t2) (t3) (t4) (.pv (.bool false)) s5 K X))))))) (panV X))))))
theorem S135_eq (env:Env) (c0_a s1_a:AV) (s:AS) (K:AV->AS->Prop) (X:PV->AS->Prop):S135 env c0_a s1_a s K X=bodyD prog env an135 f135 [c0_a,s1_a] s K X:=by
  unfold S135
  kernel_rfl
theorem S135_ok:(match f135.body with | some c=>okCode an135 prog f135.ntmps c | none=>false)=true:=by kernel_rfl
def an90:An:={ mu:=[],cut:=[(3,[0,3])],loop:=[] }
def J90_3 (env:Env)  (f0_j3 x3_j3:AV) (s:AS) (K:AV->AS->Prop) (X:PV->AS->Prop):Prop :=
 (lock nilD f0_j3 fun t40 =>
 (lock fieldAddrD prog 96 t40 0 fun t41 =>
 (lock loadD prog s 94 t41 fun t42 =>
 (lock fieldAddrD prog 131 x3_j3 1 fun t43 =>
 (lock fieldAddrD prog 50 t43 1 fun t44 =>
 (lock loadD prog s 9 t44 fun t45 =>
 (lock fieldAddrD prog 131 x3_j3 0 fun t46 =>
 (lock loadD prog s 9 t46 fun t47 =>
 (lock mapUpdateD prog s 94 t42 t45 t47 fun s4 =>
 (lock fieldAddrD prog 131 x3_j3 2 fun t49 =>
 (lock loadD prog s4 23 t49 fun t50 =>
 (env 39 [f0_j3,t50] s4 (fun t51 s5 =>
 (lock fieldAddrD prog 131 x3_j3 1 fun t53 =>
 (lock fieldAddrD prog 50 t53 2 fun t54 =>
 (lock loadD prog s5 23 t54 fun t55 =>
 (env 39 [f0_j3,t55] s5 (fun t56 s6 =>
 (retV (.tuple []) s6 K)) (panV X)))))) (panV X)))))))))))))
def S90 (env:Env) (f0_a x1_a:AV) (s:AS) (K:AV->AS->Prop) (X:PV->AS->Prop):Prop :=
 (lock boxD s x1_a fun t3 s1 =>
 (lock nilD f0_a fun t8 =>
 (lock fieldAddrD prog 96 t8 0 fun t9 =>
 (lock loadD prog s1 94 t9 fun t10 =>
 (lock fieldAddrD prog 131 t3 1 fun t11 =>
 (lock fieldAddrD prog 50 t11 1 fun t12 =>
 (lock loadD prog s1 9 t12 fun t13 =>
 (lock lookupD prog s1 94 t10 t13 true fun t14 =>
 (lock extractD t14 0 fun t15 =>
 (lock extractD t14 1 fun t16 =>
 (lock nilD f0_a fun t19 =>
 (lock fieldAddrD prog 96 t19 2 fun t20 =>
 (lock loadD prog s1 4 t20 fun t21 =>
 (guardD t21 false
 (guardD t16 true
 (lock fieldAddrD prog 131 t3 0 fun t26 =>
 (lock loadD prog s1 9 t26 fun t27 =>
 (lock binD prog .neq 9 t15 t27 fun t28 =>
 (guardD t28 false
 (lock fieldAddrD prog 131 t3 1 fun t32 =>
 (lock fieldAddrD prog 50 t32 1 fun t33 =>
 (lock loadD prog s1 9 t33 fun t34 =>
 (env 22 [t34] s1 (fun t35 s2 =>
 (lock nilD f0_a fun t37 =>
 (lock fieldAddrD prog 96 t37 2 fun t38 =>
 (lock storeD prog s2 4 t38 t35 fun s3 =>
 (J90_3 env  (f0_a) (t3) s3 K X))))) (panV X)))))
 (lock nilD f0_a fun t37 =>
 (lock fieldAddrD prog 96 t37 2 fun t38 =>
 (lock storeD prog s1 4 t38 (.pv (.bool true)) fun s7 =>
 (J90_3 env  (f0_a) (t3) s7 K X))))))))
 (lock fieldAddrD prog 131 t3 1 fun t32 =>
 (lock fieldAddrD prog 50 t32 1 fun t33 =>
 (lock loadD prog s1 9 t33 fun t34 =>
 (env 22 [t34] s1 (fun t35 s8 =>
 (lock nilD f0_a fun t37 =>
 (lock fieldAddrD prog 96 t37 2 fun t38 =>
 (lock storeD prog s8 4 t38 t35 fun s9 =>
 (J90_3 env  (f0_a) (t3) s9 K X))))) (panV X))))))
 (lock nilD f0_a fun t37 =>
 (lock fieldAddrD prog 96 t37 2 fun t38 =>
 (lock storeD prog s1 4 t38 (.pv (.bool true)) fun s10 =>
 (J90_3 env  (f0_a) (t3) s10 K X))))))))))))))))))
theorem S90_eq (env:Env) (f0_a x1_a:AV) (s:AS) (K:AV->AS->Prop) (X:PV->AS->Prop):S90 env f0_a x1_a s K X=bodyD prog env an90 f90 [f0_a,x1_a] s K X:=by
  unfold S90
  kernel_rfl
theorem S90_ok:(match f90.body with | some c=>okCode an90 prog f90.ntmps c | none=>false)=true:=by kernel_rfl
def an39:An:={ mu:=[],cut:=[(7,[0,5,7,8,9,14,15]),(15,[0,5,7,8,9,67]),(18,[0,5,7,8,9])],loop:=[(1,[0,7,8,9])] }
def J39_18 (env:Env) (I1:Nat->List AV->AS->Prop) (m1:Nat) (f0_j18 n5_j18 t7_j18 t8_j18 t9_j18:AV) (s:AS) (K:AV->AS->Prop) (X:PV->AS->Prop):Prop :=
 (lock fieldAddrD prog 50 n5_j18 2 fun t102 =>
 (lock loadD prog s 23 t102 fun t103 =>
 (env 39 [f0_j18,t103] s (fun t104 s5 =>
 (lock binD prog .add 3 t9_j18 (.pv (.int .i64 1)) fun t105 =>
 (∃ m',m' < m1/\I1 m' [f0_j18,t7_j18,t8_j18,t105] s5))) (panV X))))
def J39_15 (env:Env) (I1:Nat->List AV->AS->Prop) (m1:Nat) (f0_j15 n5_j15 t7_j15 t8_j15 t9_j15 t67_j15:AV) (s:AS) (K:AV->AS->Prop) (X:PV->AS->Prop):Prop :=
 (condD t67_j15
 (lock fieldAddrD prog 50 n5_j15 2 fun t71 =>
 (lock loadD prog s 23 t71 fun t72 =>
 (lock lenD prog 23 t72 fun t73 =>
 (lock binD prog .gtr 3 t73 (.pv (.int .i64 0)) fun t74 =>
 (condD t74
 (lock fieldAddrD prog 50 n5_j15 2 fun t75 =>
 (lock loadD prog s 23 t75 fun t76 =>
 (lock indexAddrD prog 23 t76 (.pv (.int .i64 0)) fun t77 =>
 (lock loadD prog s 50 t77 fun t78 =>
 (lock allocD prog s 50 fun t6 s14 =>
 (lock storeD prog s14 50 t6 t78 fun s15 =>
 (lock nilD f0_j15 fun t81 =>
 (lock fieldAddrD prog 96 t81 2 fun t82 =>
 (lock loadD prog s15 4 t82 fun t83 =>
 (guardD t83 false
 (lock fieldAddrD prog 50 t6 0 fun t85 =>
 (lock loadD prog s15 9 t85 fun t86 =>
 (lock binD prog .neq 9 t86 (.pv (.str [102,105,101,108,100])) fun t87 =>
 (guardD t87 true
 (lock fieldAddrD prog 50 t6 0 fun t89 =>
 (lock loadD prog s15 9 t89 fun t90 =>
 (lock binD prog .neq 9 t90 (.pv (.str [118,97,114])) fun t91 =>
 (guardD t91 false
 (lock fieldAddrD prog 50 t6 1 fun t93 =>
 (lock loadD prog s15 9 t93 fun t94 =>
 (lock binD prog .neq 9 t94 (.pv (.str [78,70])) fun t95 =>
 (lock nilD f0_j15 fun t99 =>
 (lock fieldAddrD prog 96 t99 2 fun t100 =>
 (lock storeD prog s15 4 t100 t95 fun s16 =>
 (J39_18 env I1 m1 (f0_j15) (n5_j15) (t7_j15) (t8_j15) (t9_j15) s16 K X)))))))
 (lock nilD f0_j15 fun t99 =>
 (lock fieldAddrD prog 96 t99 2 fun t100 =>
 (lock storeD prog s15 4 t100 (.pv (.bool true)) fun s17 =>
 (J39_18 env I1 m1 (f0_j15) (n5_j15) (t7_j15) (t8_j15) (t9_j15) s17 K X))))))))
 (lock nilD f0_j15 fun t99 =>
 (lock fieldAddrD prog 96 t99 2 fun t100 =>
 (lock storeD prog s15 4 t100 (.pv (.bool false)) fun s18 =>
 (J39_18 env I1 m1 (f0_j15) (n5_j15) (t7_j15) (t8_j15) (t9_j15) s18 K X))))))))
 (lock nilD f0_j15 fun t99 =>
 (lock fieldAddrD prog 96 t99 2 fun t100 =>
 (lock storeD prog s15 4 t100 (.pv (.bool true)) fun s19 =>
 (J39_18 env I1 m1 (f0_j15) (n5_j15) (t7_j15) (t8_j15) (t9_j15) s19 K X))))))))))))))
 (J39_18 env I1 m1 (f0_j15) (n5_j15) (t7_j15) (t8_j15) (t9_j15) s K X))))))
 (J39_18 env I1 m1 (f0_j15) (n5_j15) (t7_j15) (t8_j15) (t9_j15) s K X))
def J39_7 (env:Env) (I1:Nat->List AV->AS->Prop) (m1:Nat) (f0_j7 n5_j7 t7_j7 t8_j7 t9_j7 t14_j7 t15_j7:AV) (s:AS) (K:AV->AS->Prop) (X:PV->AS->Prop):Prop :=
 (condD t15_j7
 (lock nilD f0_j7 fun t20 =>
 (lock fieldAddrD prog 96 t20 2 fun t21 =>
 (lock storeD prog s 4 t21 (.pv (.bool true)) fun s4 =>
 (J39_18 env I1 m1 (f0_j7) (n5_j7) (t7_j7) (t8_j7) (t9_j7) s4 K X))))
 (lock binD prog .eql 9 t14_j7 (.pv (.str [118,97,114])) fun t23 =>
 (condD t23
 (lock nilD f0_j7 fun t25 =>
 (lock fieldAddrD prog 96 t25 1 fun t26 =>
 (lock loadD prog s 33 t26 fun t27 =>
 (lock fieldAddrD prog 50 n5_j7 1 fun t28 =>
 (lock loadD prog s 9 t28 fun t29 =>
 (lock mapUpdateD prog s 33 t27 t29 (.pv (.bool true)) fun s6 =>
 (J39_18 env I1 m1 (f0_j7) (n5_j7) (t7_j7) (t8_j7) (t9_j7) s6 K X)))))))
 (lock binD prog .eql 9 t14_j7 (.pv (.str [98,117,105,108,116])) fun t31 =>
 (condD t31
 (lock nilD f0_j7 fun t34 =>
 (lock fieldAddrD prog 96 t34 2 fun t35 =>
 (lock loadD prog s 4 t35 fun t36 =>
 (guardD t36 false
 (lock fieldAddrD prog 50 n5_j7 1 fun t38 =>
 (lock loadD prog s 9 t38 fun t39 =>
 (lock binD prog .eql 9 t39 (.pv (.str [115,112,108,105,116])) fun t40 =>
 (guardD t40 false
 (lock fieldAddrD prog 50 n5_j7 1 fun t43 =>
 (lock loadD prog s 9 t43 fun t44 =>
 (lock binD prog .eql 9 t44 (.pv (.str [109,97,116,99,104])) fun t45 =>
 (guardD t45 false
 (lock loadD prog s 50 n5_j7 fun t48 =>
 (env 88 [t48] s (fun t49 s7 =>
 (guardD t49 true
 (lock fieldAddrD prog 50 n5_j7 2 fun t51 =>
 (lock loadD prog s7 23 t51 fun t52 =>
 (lock lenD prog 23 t52 fun t53 =>
 (lock binD prog .eql 3 t53 (.pv (.int .i64 3)) fun t54 =>
 (guardD t54 true
 (lock fieldAddrD prog 50 n5_j7 2 fun t57 =>
 (lock loadD prog s7 23 t57 fun t58 =>
 (lock indexAddrD prog 23 t58 (.pv (.int .i64 2)) fun t59 =>
 (lock fieldAddrD prog 50 t59 0 fun t60 =>
 (lock loadD prog s7 9 t60 fun t61 =>
 (lock binD prog .neq 9 t61 (.pv (.str [102,105,101,108,100])) fun t62 =>
 (lock nilD f0_j7 fun t65 =>
 (lock fieldAddrD prog 96 t65 2 fun t66 =>
 (lock storeD prog s7 4 t66 t62 fun s8 =>
 (J39_18 env I1 m1 (f0_j7) (n5_j7) (t7_j7) (t8_j7) (t9_j7) s8 K X))))))))))
 (lock nilD f0_j7 fun t65 =>
 (lock fieldAddrD prog 96 t65 2 fun t66 =>
 (lock storeD prog s7 4 t66 (.pv (.bool false)) fun s9 =>
 (J39_18 env I1 m1 (f0_j7) (n5_j7) (t7_j7) (t8_j7) (t9_j7) s9 K X)))))))))
 (lock nilD f0_j7 fun t65 =>
 (lock fieldAddrD prog 96 t65 2 fun t66 =>
 (lock storeD prog s7 4 t66 (.pv (.bool false)) fun s10 =>
 (J39_18 env I1 m1 (f0_j7) (n5_j7) (t7_j7) (t8_j7) (t9_j7) s10 K X)))))) (panV X)))
 (lock nilD f0_j7 fun t65 =>
 (lock fieldAddrD prog 96 t65 2 fun t66 =>
 (lock storeD prog s 4 t66 (.pv (.bool true)) fun s11 =>
 (J39_18 env I1 m1 (f0_j7) (n5_j7) (t7_j7) (t8_j7) (t9_j7) s11 K X))))))))
 (lock nilD f0_j7 fun t65 =>
 (lock fieldAddrD prog 96 t65 2 fun t66 =>
 (lock storeD prog s 4 t66 (.pv (.bool true)) fun s12 =>
 (J39_18 env I1 m1 (f0_j7) (n5_j7) (t7_j7) (t8_j7) (t9_j7) s12 K X))))))))
 (lock nilD f0_j7 fun t65 =>
 (lock fieldAddrD prog 96 t65 2 fun t66 =>
 (lock storeD prog s 4 t66 (.pv (.bool true)) fun s13 =>
 (J39_18 env I1 m1 (f0_j7) (n5_j7) (t7_j7) (t8_j7) (t9_j7) s13 K X))))))))
 (lock binD prog .eql 9 t14_j7 (.pv (.str [97,115,115,105,103,110])) fun t68 =>
 (condD t68
 (J39_15 env I1 m1 (f0_j7) (n5_j7) (t7_j7) (t8_j7) (t9_j7) (t68) s K X)
 (lock binD prog .eql 9 t14_j7 (.pv (.str [112,114,101])) fun t69 =>
 (condD t69
 (J39_15 env I1 m1 (f0_j7) (n5_j7) (t7_j7) (t8_j7) (t9_j7) (t69) s K X)
 (lock binD prog .eql 9 t14_j7 (.pv (.str [112,111,115,116])) fun t70 =>
 (J39_15 env I1 m1 (f0_j7) (n5_j7) (t7_j7) (t8_j7) (t9_j7) (t70) s K X)))))))))))
def L39_1 (env:Env) (I1:Nat->List AV->AS->Prop) (m1:Nat) (f0_l1 t7_l1 t8_l1 t9_l1:AV) (s:AS) (K:AV->AS->Prop) (X:PV->AS->Prop):Prop :=
 (lock binD prog .lss 3 t9_l1 t8_l1 fun t10 =>
 (condD t10
 (lock indexAddrD prog 23 t7_l1 t9_l1 fun t11 =>
 (lock loadD prog s 50 t11 fun t12 =>
 (lock allocD prog s 50 fun t5 s2 =>
 (lock storeD prog s2 50 t5 t12 fun s3 =>
 (lock fieldAddrD prog 50 t5 0 fun t13 =>
 (lock loadD prog s3 9 t13 fun t14 =>
 (lock binD prog .eql 9 t14 (.pv (.str [99,97,108,108])) fun t16 =>
 (condD t16
 (J39_7 env I1 m1 (f0_l1) (t5) (t7_l1) (t8_l1) (t9_l1) (t14) (t16) s3 K X)
 (lock binD prog .eql 9 t14 (.pv (.str [105,110])) fun t17 =>
 (condD t17
 (J39_7 env I1 m1 (f0_l1) (t5) (t7_l1) (t8_l1) (t9_l1) (t14) (t17) s3 K X)
 (lock binD prog .eql 9 t14 (.pv (.str [101,108,101,109])) fun t18 =>
 (J39_7 env I1 m1 (f0_l1) (t5) (t7_l1) (t8_l1) (t9_l1) (t14) (t18) s3 K X))))))))))))
 (retV (.tuple []) s K)))
theorem L39_1_eq (env:Env) (I1:Nat->List AV->AS->Prop) (m1:Nat) (f0_l1 t7_l1 t8_l1 t9_l1:AV) (s:AS) (K:AV->AS->Prop) (X:PV->AS->Prop):L39_1 env I1 m1 f0_l1 t7_l1 t8_l1 t9_l1 s K X=wpD prog env an39 (subC (bodyC f39) [1,0,0]) (contQ prog env an39 (bodyC f39) [1,0,0] [(I1,m1)] (rootQ prog f39 K X)) [(0,f0_l1),(7,t7_l1),(8,t8_l1),(9,t9_l1)] s:=by
  unfold L39_1
  kernel_rfl
theorem lp39_1 {α:Type} {env:Env}  {f0_l1 t7_l1 t8_l1:AV} {s:AS} {K:AV->AS->Prop} {X:PV->AS->Prop} (μ:α->AS->Nat) (I:α->AS->Prop) (et9_l1:α->AV) (a0:α) (h0:I a0 s)
 (h:∀ a s,I a s->L39_1 env  (Inv (fun a=>[f0_l1,t7_l1,t8_l1,et9_l1 a]) μ I) (μ a s) f0_l1 t7_l1 t8_l1 (et9_l1 a) s K X) :
 ∃ I1:Nat->List AV->AS->Prop,(∃ m,I1 m [f0_l1,t7_l1,t8_l1,et9_l1 a0] s)/\∀ (m:Nat) (x0 x1 x2 x3:AV),∀ s,I1 m [x0,x1,x2,x3] s ->
 L39_1 env  I1 m x0 x1 x2 x3 s K X:=by
  refine ⟨Inv (fun a=>[f0_l1,t7_l1,t8_l1,et9_l1 a]) μ I,⟨_,a0,rfl,rfl,h0⟩,?_⟩
  rintro m x0 x1 x2 x3 s' ⟨a,hv,rfl,hI⟩
  simp only [List.cons.injEq,and_true] at hv
  obtain ⟨rfl,rfl,rfl,rfl⟩:=hv
  exact h a s' hI
def S39 (env:Env) (f0_a l1_a:AV) (s:AS) (K:AV->AS->Prop) (X:PV->AS->Prop):Prop :=
 (lock lenD prog 23 l1_a fun t8 =>
 (∃ I1:Nat->List AV->AS->Prop,(∃ m,I1 m [f0_a,l1_a,t8,(.pv (.int .i64 0))] s)/\∀ (m1:Nat) (f0_l1 t7_l1 t8_l1 t9_l1:AV),∀ s1,I1 m1 [f0_l1,t7_l1,t8_l1,t9_l1] s1 ->
 (L39_1 env I1 m1 f0_l1 t7_l1 t8_l1 t9_l1 s1 K X)))
theorem S39_eq (env:Env) (f0_a l1_a:AV) (s:AS) (K:AV->AS->Prop) (X:PV->AS->Prop):S39 env f0_a l1_a s K X=bodyD prog env an39 f39 [f0_a,l1_a] s K X:=by
  unfold S39
  simp only [L39_1_eq]
  kernel_rfl
theorem S39_ok:(match f39.body with | some c=>okCode an39 prog f39.ntmps c | none=>false)=true:=by kernel_rfl
def an40:An:={ mu:=[],cut:=[(9,[0,5,8,9,10,11,29]),(11,[0,5,8,9,10,11,46]),(16,[0,5,8,9,10,11,77]),(19,[0,5,8,9,10,11,101]),(22,[0,8,9,10,11,122])],loop:=[(1,[0,9,10,11])],inv:=[23] }
def J40_22 (env:Env) (I1:Nat->List AV->AS->Prop) (m1:Nat) (f0_j22 k8_j22 t9_j22 t10_j22 t11_j22 t122_j22:AV) (s:AS) (K:AV->AS->Prop) (X:PV->AS->Prop):Prop :=
 (condD t122_j22
 (lock indexAddrD prog 23 k8_j22 (.pv (.int .i64 1)) fun t133 =>
 (lock loadD prog s 50 t133 fun t134 =>
 (lock buildSliceD prog false s 23 1 1 [(0,t134)] fun t135 s21 =>
 (env 39 [f0_j22,t135] s21 (fun t136 s22 =>
 (∃ I23:List Bool->List AV->AS->Prop,I23 [false,false,false,false,false,false,false,false,false,false,false,false] [.undef,.undef,.undef,.undef,.undef,.undef,.undef,.undef,.undef,.undef,.undef,.undef] s22/\(∀ b0:Bool,∀ b1:Bool,∀ b2:Bool,∀ b3:Bool,∀ b4:Bool,∀ b5:Bool,∀ b6:Bool,∀ b7:Bool,∀ b8:Bool,∀ b9:Bool,∀ b10:Bool,∀ b11:Bool,∀ t137:AV,∀ t138:AV,∀ t139:AV,∀ t140:AV,∀ t141:AV,∀ t142:AV,∀ t143:AV,∀ t144:AV,∀ t145:AV,∀ t146:AV,∀ t147:AV,∀ t148:AV,(∀ s23,I23 [b0,b1,b2,b3,b4,b5,b6,b7,b8,b9,b10,b11] [t137,t138,t139,t140,t141,t142,t143,t144,t145,t146,t147,t148] s23 ->
 ((b0=false->(True) ->
 (I23 [true,b1,b2,b3,b4,b5,b6,b7,b8,b9,b10,b11] [f0_j22,t138,t139,t140,t141,t142,t143,t144,t145,t146,t147,t148] s23)) /\
 (b1=false->(True) ->
 (I23 [b0,true,b2,b3,b4,b5,b6,b7,b8,b9,b10,b11] [t137,k8_j22,t139,t140,t141,t142,t143,t144,t145,t146,t147,t148] s23)) /\
 (b2=false->((b1=true)/\True) ->
 (lock indexAddrD prog 23 t138 (.pv (.int .i64 0)) fun t139 =>
 (I23 [b0,b1,true,b3,b4,b5,b6,b7,b8,b9,b10,b11] [t137,t138,t139,t140,t141,t142,t143,t144,t145,t146,t147,t148] s23))) /\
 (b3=false->((b2=true)/\True) ->
 (lock loadD prog s23 50 t139 fun t140 =>
 (I23 [b0,b1,b2,true,b4,b5,b6,b7,b8,b9,b10,b11] [t137,t138,t139,t140,t141,t142,t143,t144,t145,t146,t147,t148] s23))) /\
 (b4=false->(True) ->
 (I23 [b0,b1,b2,b3,true,b5,b6,b7,b8,b9,b10,b11] [t137,t138,t139,t140,k8_j22,t142,t143,t144,t145,t146,t147,t148] s23)) /\
 (b5=false->((b4=true)/\True) ->
 (lock indexAddrD prog 23 t141 (.pv (.int .i64 2)) fun t142 =>
 (I23 [b0,b1,b2,b3,b4,true,b6,b7,b8,b9,b10,b11] [t137,t138,t139,t140,t141,t142,t143,t144,t145,t146,t147,t148] s23))) /\
 (b6=false->((b5=true)/\True) ->
 (lock loadD prog s23 50 t142 fun t143 =>
 (I23 [b0,b1,b2,b3,b4,b5,true,b7,b8,b9,b10,b11] [t137,t138,t139,t140,t141,t142,t143,t144,t145,t146,t147,t148] s23))) /\
 (b7=false->(True) ->
 (I23 [b0,b1,b2,b3,b4,b5,b6,true,b8,b9,b10,b11] [t137,t138,t139,t140,t141,t142,t143,k8_j22,t145,t146,t147,t148] s23)) /\
 (b8=false->((b7=true)/\True) ->
 (lock indexAddrD prog 23 t144 (.pv (.int .i64 3)) fun t145 =>
 (I23 [b0,b1,b2,b3,b4,b5,b6,b7,true,b9,b10,b11] [t137,t138,t139,t140,t141,t142,t143,t144,t145,t146,t147,t148] s23))) /\
 (b9=false->((b8=true)/\True) ->
 (lock loadD prog s23 50 t145 fun t146 =>
 (I23 [b0,b1,b2,b3,b4,b5,b6,b7,b8,true,b10,b11] [t137,t138,t139,t140,t141,t142,t143,t144,t145,t146,t147,t148] s23))) /\
 (b10=false->((b3=true)/\(b6=true)/\(b9=true)/\True) ->
 (lock buildSliceD prog false s23 23 3 3 [(0,t140),(1,t143),(2,t146)] fun t147 s24 =>
 (I23 [b0,b1,b2,b3,b4,b5,b6,b7,b8,b9,true,b11] [t137,t138,t139,t140,t141,t142,t143,t144,t145,t146,t147,t148] s24))) /\
 (b11=false->((b0=true)/\(b10=true)/\True) ->
 (env 40 [t137,t147] s23 (fun t148 s25 =>
 (I23 [b0,b1,b2,b3,b4,b5,b6,b7,b8,b9,b10,true] [t137,t138,t139,t140,t141,t142,t143,t144,t145,t146,t147,t148] s25)) (panV X)))/\True)/\((b0 && (b1 && (b2 && (b3 && (b4 && (b5 && (b6 && (b7 && (b8 && (b9 && (b10 && (b11 && true))))))))))))=true ->
 (lock binD prog .add 3 t11_j22 (.pv (.int .i64 1)) fun t149 =>
 (∃ m',m' < m1/\I1 m' [f0_j22,t9_j22,t10_j22,t149] s23))))))) (panV X)))))
 (env 40 [f0_j22,k8_j22] s (fun t28 s26 =>
 (lock binD prog .add 3 t11_j22 (.pv (.int .i64 1)) fun t149 =>
 (∃ m',m' < m1/\I1 m' [f0_j22,t9_j22,t10_j22,t149] s26))) (panV X)))
def J40_19 (env:Env) (I1:Nat->List AV->AS->Prop) (m1:Nat) (f0_j19 n5_j19 k8_j19 t9_j19 t10_j19 t11_j19 t101_j19:AV) (s:AS) (K:AV->AS->Prop) (X:PV->AS->Prop):Prop :=
 (condD t101_j19
 (lock indexAddrD prog 23 k8_j19 (.pv (.int .i64 0)) fun t112 =>
 (lock loadD prog s 50 t112 fun t113 =>
 (lock buildSliceD prog false s 23 1 1 [(0,t113)] fun t114 s17 =>
 (env 40 [f0_j19,t114] s17 (fun t115 s18 =>
 (lock indexAddrD prog 23 k8_j19 (.pv (.int .i64 1)) fun t118 =>
 (lock loadD prog s18 50 t118 fun t119 =>
 (lock buildSliceD prog false s18 23 1 1 [(0,t119)] fun t120 s19 =>
 (env 39 [f0_j19,t120] s19 (fun t121 s20 =>
 (lock binD prog .add 3 t11_j19 (.pv (.int .i64 1)) fun t149 =>
 (∃ m',m' < m1/\I1 m' [f0_j19,t9_j19,t10_j19,t149] s20))) (panV X)))))) (panV X)))))
 (lock fieldAddrD prog 50 n5_j19 0 fun t123 =>
 (lock loadD prog s 9 t123 fun t124 =>
 (lock binD prog .eql 9 t124 (.pv (.str [102,111,114])) fun t125 =>
 (guardD t125 true
 (lock lenD prog 23 k8_j19 fun t128 =>
 (lock binD prog .eql 3 t128 (.pv (.int .i64 4)) fun t129 =>
 (J40_22 env I1 m1 (f0_j19) (k8_j19) (t9_j19) (t10_j19) (t11_j19) (t129) s K X)))
 (J40_22 env I1 m1 (f0_j19) (k8_j19) (t9_j19) (t10_j19) (t11_j19) (.pv (.bool false)) s K X))))))
def J40_16 (env:Env) (I1:Nat->List AV->AS->Prop) (m1:Nat) (f0_j16 n5_j16 k8_j16 t9_j16 t10_j16 t11_j16 t77_j16:AV) (s:AS) (K:AV->AS->Prop) (X:PV->AS->Prop):Prop :=
 (condD t77_j16
 (lock indexAddrD prog 23 k8_j16 (.pv (.int .i64 0)) fun t93 =>
 (lock loadD prog s 50 t93 fun t94 =>
 (lock buildSliceD prog false s 23 1 1 [(0,t94)] fun t95 s14 =>
 (env 39 [f0_j16,t95] s14 (fun t96 s15 =>
 (lock sliceD prog 23 k8_j16 (some (.pv (.int .i64 1))) none fun t99 =>
 (env 40 [f0_j16,t99] s15 (fun t100 s16 =>
 (lock binD prog .add 3 t11_j16 (.pv (.int .i64 1)) fun t149 =>
 (∃ m',m' < m1/\I1 m' [f0_j16,t9_j16,t10_j16,t149] s16))) (panV X)))) (panV X)))))
 (lock fieldAddrD prog 50 n5_j16 0 fun t102 =>
 (lock loadD prog s 9 t102 fun t103 =>
 (lock binD prog .eql 9 t103 (.pv (.str [100,111])) fun t104 =>
 (guardD t104 true
 (lock lenD prog 23 k8_j16 fun t107 =>
 (lock binD prog .eql 3 t107 (.pv (.int .i64 2)) fun t108 =>
 (J40_19 env I1 m1 (f0_j16) (n5_j16) (k8_j16) (t9_j16) (t10_j16) (t11_j16) (t108) s K X)))
 (J40_19 env I1 m1 (f0_j16) (n5_j16) (k8_j16) (t9_j16) (t10_j16) (t11_j16) (.pv (.bool false)) s K X))))))
def J40_11 (env:Env) (I1:Nat->List AV->AS->Prop) (m1:Nat) (f0_j11 n5_j11 k8_j11 t9_j11 t10_j11 t11_j11 t46_j11:AV) (s:AS) (K:AV->AS->Prop) (X:PV->AS->Prop):Prop :=
 (condD t46_j11
 (lock nilD f0_j11 fun t57 =>
 (lock fieldAddrD prog 96 t57 2 fun t58 =>
 (lock loadD prog s 4 t58 fun t59 =>
 (guardD t59 false
 (lock fieldAddrD prog 50 n5_j11 1 fun t61 =>
 (lock loadD prog s 9 t61 fun t62 =>
 (lock binD prog .neq 9 t62 (.pv (.str [])) fun t63 =>
 (lock nilD f0_j11 fun t65 =>
 (lock fieldAddrD prog 96 t65 2 fun t66 =>
 (lock storeD prog s 4 t66 t63 fun s9 =>
 (env 39 [f0_j11,k8_j11] s9 (fun t69 s10 =>
 (lock binD prog .add 3 t11_j11 (.pv (.int .i64 1)) fun t149 =>
 (∃ m',m' < m1/\I1 m' [f0_j11,t9_j11,t10_j11,t149] s10))) (panV X))))))))
 (lock nilD f0_j11 fun t65 =>
 (lock fieldAddrD prog 96 t65 2 fun t66 =>
 (lock storeD prog s 4 t66 (.pv (.bool true)) fun s11 =>
 (env 39 [f0_j11,k8_j11] s11 (fun t69 s12 =>
 (lock binD prog .add 3 t11_j11 (.pv (.int .i64 1)) fun t149 =>
 (∃ m',m' < m1/\I1 m' [f0_j11,t9_j11,t10_j11,t149] s12))) (panV X)))))))))
 (lock fieldAddrD prog 50 n5_j11 0 fun t71 =>
 (lock loadD prog s 9 t71 fun t72 =>
 (lock binD prog .eql 9 t72 (.pv (.str [101,120,112,114])) fun t73 =>
 (condD t73
 (env 39 [f0_j11,k8_j11] s (fun t76 s13 =>
 (lock binD prog .add 3 t11_j11 (.pv (.int .i64 1)) fun t149 =>
 (∃ m',m' < m1/\I1 m' [f0_j11,t9_j11,t10_j11,t149] s13))) (panV X))
 (lock fieldAddrD prog 50 n5_j11 0 fun t78 =>
 (lock loadD prog s 9 t78 fun t79 =>
 (lock binD prog .eql 9 t79 (.pv (.str [105,102])) fun t80 =>
 (guardD t80 false
 (lock fieldAddrD prog 50 n5_j11 0 fun t82 =>
 (lock loadD prog s 9 t82 fun t83 =>
 (lock binD prog .eql 9 t83 (.pv (.str [119,104,105,108,101])) fun t84 =>
 (guardD t84 true
 (lock lenD prog 23 k8_j11 fun t88 =>
 (lock binD prog .gtr 3 t88 (.pv (.int .i64 0)) fun t89 =>
 (J40_16 env I1 m1 (f0_j11) (n5_j11) (k8_j11) (t9_j11) (t10_j11) (t11_j11) (t89) s K X)))
 (J40_16 env I1 m1 (f0_j11) (n5_j11) (k8_j11) (t9_j11) (t10_j11) (t11_j11) (.pv (.bool false)) s K X)))))
 (lock lenD prog 23 k8_j11 fun t88 =>
 (lock binD prog .gtr 3 t88 (.pv (.int .i64 0)) fun t89 =>
 (J40_16 env I1 m1 (f0_j11) (n5_j11) (k8_j11) (t9_j11) (t10_j11) (t11_j11) (t89) s K X))))))))))))
def J40_9 (env:Env) (I1:Nat->List AV->AS->Prop) (m1:Nat) (f0_j9 n5_j9 k8_j9 t9_j9 t10_j9 t11_j9 t29_j9:AV) (s:AS) (K:AV->AS->Prop) (X:PV->AS->Prop):Prop :=
 (condD t29_j9
 (lock nilD f0_j9 fun t44 =>
 (lock fieldAddrD prog 96 t44 2 fun t45 =>
 (lock storeD prog s 4 t45 (.pv (.bool true)) fun s8 =>
 (lock binD prog .add 3 t11_j9 (.pv (.int .i64 1)) fun t149 =>
 (∃ m',m' < m1/\I1 m' [f0_j9,t9_j9,t10_j9,t149] s8)))))
 (lock fieldAddrD prog 50 n5_j9 0 fun t47 =>
 (lock loadD prog s 9 t47 fun t48 =>
 (lock binD prog .eql 9 t48 (.pv (.str [112,114,105,110,116])) fun t49 =>
 (guardD t49 false
 (lock fieldAddrD prog 50 n5_j9 0 fun t51 =>
 (lock loadD prog s 9 t51 fun t52 =>
 (lock binD prog .eql 9 t52 (.pv (.str [112,114,105,110,116,102])) fun t53 =>
 (J40_11 env I1 m1 (f0_j9) (n5_j9) (k8_j9) (t9_j9) (t10_j9) (t11_j9) (t53) s K X))))
 (J40_11 env I1 m1 (f0_j9) (n5_j9) (k8_j9) (t9_j9) (t10_j9) (t11_j9) (.pv (.bool true)) s K X))))))
def L40_1 (env:Env) (I1:Nat->List AV->AS->Prop) (m1:Nat) (f0_l1 t9_l1 t10_l1 t11_l1:AV) (s:AS) (K:AV->AS->Prop) (X:PV->AS->Prop):Prop :=
 (lock binD prog .lss 3 t11_l1 t10_l1 fun t12 =>
 (condD t12
 (lock indexAddrD prog 23 t9_l1 t11_l1 fun t13 =>
 (lock loadD prog s 50 t13 fun t14 =>
 (lock allocD prog s 50 fun t5 s2 =>
 (lock storeD prog s2 50 t5 t14 fun s3 =>
 (lock loadD prog s3 50 t5 fun t16 =>
 (env 89 [t16] s3 (fun t17 s4 =>
 (lock extractD t17 0 fun t18 =>
 (lock extractD t17 1 fun t19 =>
 (lock allocD prog s4 131 fun t6 s5 =>
 (lock storeD prog s5 131 t6 t18 fun s6 =>
 (condD t19
 (lock loadD prog s6 131 t6 fun t22 =>
 (env 90 [f0_l1,t22] s6 (fun t23 s7 =>
 (lock binD prog .add 3 t11_l1 (.pv (.int .i64 1)) fun t149 =>
 (∃ m',m' < m1/\I1 m' [f0_l1,t9_l1,t10_l1,t149] s7))) (panV X)))
 (lock fieldAddrD prog 50 t5 2 fun t24 =>
 (lock loadD prog s6 23 t24 fun t25 =>
 (lock fieldAddrD prog 50 t5 0 fun t30 =>
 (lock loadD prog s6 9 t30 fun t31 =>
 (lock binD prog .eql 9 t31 (.pv (.str [101,120,105,116])) fun t32 =>
 (guardD t32 false
 (lock fieldAddrD prog 50 t5 0 fun t34 =>
 (lock loadD prog s6 9 t34 fun t35 =>
 (lock binD prog .eql 9 t35 (.pv (.str [100,101,108,101,116,101])) fun t36 =>
 (guardD t36 false
 (lock fieldAddrD prog 50 t5 0 fun t39 =>
 (lock loadD prog s6 9 t39 fun t40 =>
 (lock binD prog .eql 9 t40 (.pv (.str [102,111,114,105,110])) fun t41 =>
 (J40_9 env I1 m1 (f0_l1) (t5) (t25) (t9_l1) (t10_l1) (t11_l1) (t41) s6 K X))))
 (J40_9 env I1 m1 (f0_l1) (t5) (t25) (t9_l1) (t10_l1) (t11_l1) (.pv (.bool true)) s6 K X)))))
 (J40_9 env I1 m1 (f0_l1) (t5) (t25) (t9_l1) (t10_l1) (t11_l1) (.pv (.bool true)) s6 K X))))))))))))) (panV X)))))))
 (retV (.tuple []) s K)))
theorem L40_1_eq (env:Env) (I1:Nat->List AV->AS->Prop) (m1:Nat) (f0_l1 t9_l1 t10_l1 t11_l1:AV) (s:AS) (K:AV->AS->Prop) (X:PV->AS->Prop):L40_1 env I1 m1 f0_l1 t9_l1 t10_l1 t11_l1 s K X=wpD prog env an40 (subC (bodyC f40) [1,0,0]) (contQ prog env an40 (bodyC f40) [1,0,0] [(I1,m1)] (rootQ prog f40 K X)) [(0,f0_l1),(9,t9_l1),(10,t10_l1),(11,t11_l1)] s:=by
  unfold L40_1
  kernel_rfl
theorem lp40_1 {α:Type} {env:Env}  {f0_l1 t9_l1 t10_l1:AV} {s:AS} {K:AV->AS->Prop} {X:PV->AS->Prop} (μ:α->AS->Nat) (I:α->AS->Prop) (et11_l1:α->AV) (a0:α) (h0:I a0 s)
 (h:∀ a s,I a s->L40_1 env  (Inv (fun a=>[f0_l1,t9_l1,t10_l1,et11_l1 a]) μ I) (μ a s) f0_l1 t9_l1 t10_l1 (et11_l1 a) s K X) :
 ∃ I1:Nat->List AV->AS->Prop,(∃ m,I1 m [f0_l1,t9_l1,t10_l1,et11_l1 a0] s)/\∀ (m:Nat) (x0 x1 x2 x3:AV),∀ s,I1 m [x0,x1,x2,x3] s ->
 L40_1 env  I1 m x0 x1 x2 x3 s K X:=by
  refine ⟨Inv (fun a=>[f0_l1,t9_l1,t10_l1,et11_l1 a]) μ I,⟨_,a0,rfl,rfl,h0⟩,?_⟩
  rintro m x0 x1 x2 x3 s' ⟨a,hv,rfl,hI⟩
  simp only [List.cons.injEq,and_true] at hv
  obtain ⟨rfl,rfl,rfl,rfl⟩:=hv
  exact h a s' hI
def S40 (env:Env) (f0_a l1_a:AV) (s:AS) (K:AV->AS->Prop) (X:PV->AS->Prop):Prop :=
 (lock lenD prog 23 l1_a fun t10 =>
 (∃ I1:Nat->List AV->AS->Prop,(∃ m,I1 m [f0_a,l1_a,t10,(.pv (.int .i64 0))] s)/\∀ (m1:Nat) (f0_l1 t9_l1 t10_l1 t11_l1:AV),∀ s1,I1 m1 [f0_l1,t9_l1,t10_l1,t11_l1] s1 ->
 (L40_1 env I1 m1 f0_l1 t9_l1 t10_l1 t11_l1 s1 K X)))
theorem S40_eq (env:Env) (f0_a l1_a:AV) (s:AS) (K:AV->AS->Prop) (X:PV->AS->Prop):S40 env f0_a l1_a s K X=bodyD prog env an40 f40 [f0_a,l1_a] s K X:=by
  unfold S40
  simp only [L40_1_eq]
  kernel_rfl
theorem S40_ok:(match f40.body with | some c=>okCode an40 prog f40.ntmps c | none=>false)=true:=by kernel_rfl
def an15:An:={ mu:=[],cut:=[(8,[4,6,14,15,16,24]),(16,[4,7,9,54,55,56])],loop:=[(3,[4,14,15,16]),(13,[4,7,54,55,56])] }
def J15_8 (env:Env) (I3:Nat->List AV->AS->Prop) (m3:Nat) (f4_j8 n6_j8 t14_j8 t15_j8 t16_j8 t24_j8:AV) (s:AS) (K:AV->AS->Prop) (X:PV->AS->Prop):Prop :=
 (condD t24_j8
 (lock fieldAddrD prog 50 n6_j8 2 fun t35 =>
 (lock loadD prog s 23 t35 fun t36 =>
 (lock indexAddrD prog 23 t36 (.pv (.int .i64 0)) fun t37 =>
 (lock loadD prog s 50 t37 fun t38 =>
 (lock buildSliceD prog false s 23 1 1 [(0,t38)] fun t39 s7 =>
 (env 39 [f4_j8,t39] s7 (fun t40 s8 =>
 (lock fieldAddrD prog 50 n6_j8 2 fun t42 =>
 (lock loadD prog s8 23 t42 fun t43 =>
 (lock indexAddrD prog 23 t43 (.pv (.int .i64 1)) fun t44 =>
 (lock loadD prog s8 50 t44 fun t45 =>
 (lock buildSliceD prog false s8 23 1 1 [(0,t45)] fun t46 s9 =>
 (env 40 [f4_j8,t46] s9 (fun t47 s10 =>
 (lock binD prog .add 3 t16_j8 (.pv (.int .i64 1)) fun t48 =>
 (∃ m',m' < m3/\I3 m' [f4_j8,t14_j8,t15_j8,t48] s10))) (panV X)))))))) (panV X)))))))
 (lock binD prog .add 3 t16_j8 (.pv (.int .i64 1)) fun t48 =>
 (∃ m',m' < m3/\I3 m' [f4_j8,t14_j8,t15_j8,t48] s)))
def J15_16 (env:Env) (I13:Nat->List AV->AS->Prop) (m13:Nat) (f4_j16 out7_j16 name9_j16 t54_j16 t55_j16 t56_j16:AV) (s:AS) (K:AV->AS->Prop) (X:PV->AS->Prop):Prop :=
 (lock nilD f4_j16 fun t78 =>
 (lock fieldAddrD prog 96 t78 0 fun t79 =>
 (lock loadD prog s 94 t79 fun t80 =>
 (lock lookupD prog s 94 t80 name9_j16 false fun t82 =>
 (lock buildD prog 91 [(0,name9_j16),(1,t82)] fun t83 =>
 (lock buildSliceD prog false s 38 1 1 [(0,t83)] fun t84 s15 =>
 (lock appendD prog false s15 38 out7_j16 t84 fun t85 s16 =>
 (lock binD prog .add 3 t56_j16 (.pv (.int .i64 1)) fun t86 =>
 (∃ m',m' < m13/\I13 m' [f4_j16,t85,t54_j16,t55_j16,t86] s16)))))))))
def L15_13 (env:Env) (I13:Nat->List AV->AS->Prop) (m13:Nat) (f4_l13 out7_l13 t54_l13 t55_l13 t56_l13:AV) (s:AS) (K:AV->AS->Prop) (X:PV->AS->Prop):Prop :=
 (lock binD prog .lss 3 t56_l13 t55_l13 fun t57 =>
 (condD t57
 (lock indexAddrD prog 26 t54_l13 t56_l13 fun t58 =>
 (lock loadD prog s 9 t58 fun t59 =>
 (lock nilD f4_l13 fun t62 =>
 (lock fieldAddrD prog 96 t62 2 fun t63 =>
 (lock loadD prog s 4 t63 fun t64 =>
 (guardD t64 false
 (lock nilD f4_l13 fun t67 =>
 (lock fieldAddrD prog 96 t67 1 fun t68 =>
 (lock loadD prog s 33 t68 fun t69 =>
 (lock lookupD prog s 33 t69 t59 false fun t71 =>
 (lock nilD f4_l13 fun t73 =>
 (lock fieldAddrD prog 96 t73 2 fun t74 =>
 (lock storeD prog s 4 t74 t71 fun s14 =>
 (J15_16 env I13 m13 (f4_l13) (out7_l13) (t59) (t54_l13) (t55_l13) (t56_l13) s14 K X))))))))
 (lock nilD f4_l13 fun t73 =>
 (lock fieldAddrD prog 96 t73 2 fun t74 =>
 (lock storeD prog s 4 t74 (.pv (.bool true)) fun s17 =>
 (J15_16 env I13 m13 (f4_l13) (out7_l13) (t59) (t54_l13) (t55_l13) (t56_l13) s17 K X))))))))))
 (lock nilD f4_l13 fun t88 =>
 (lock fieldAddrD prog 96 t88 2 fun t89 =>
 (lock loadD prog s 4 t89 fun t90 =>
 (condD t90
 (retV (.tuple [(.nilS),(.pv (.bool false))]) s K)
 (retV (.tuple [out7_l13,(.pv (.bool true))]) s K)))))))
theorem L15_13_eq (env:Env) (I13:Nat->List AV->AS->Prop) (m13:Nat) (f4_l13 out7_l13 t54_l13 t55_l13 t56_l13:AV) (s:AS) (K:AV->AS->Prop) (X:PV->AS->Prop):L15_13 env I13 m13 f4_l13 out7_l13 t54_l13 t55_l13 t56_l13 s K X=wpD prog env an15 (subC (bodyC f15) [1,1,1,1,0,1,0,0]) (contQ prog env an15 (bodyC f15) [1,1,1,1,0,1,0,0] [(I13,m13)] (rootQ prog f15 K X)) [(4,f4_l13),(7,out7_l13),(54,t54_l13),(55,t55_l13),(56,t56_l13)] s:=by
  unfold L15_13
  kernel_rfl
theorem lp15_13 {α:Type} {env:Env}  {f4_l13 t54_l13 t55_l13:AV} {s:AS} {K:AV->AS->Prop} {X:PV->AS->Prop} (μ:α->AS->Nat) (I:α->AS->Prop) (eout7_l13 et56_l13:α->AV) (a0:α) (h0:I a0 s)
 (h:∀ a s,I a s->L15_13 env  (Inv (fun a=>[f4_l13,eout7_l13 a,t54_l13,t55_l13,et56_l13 a]) μ I) (μ a s) f4_l13 (eout7_l13 a) t54_l13 t55_l13 (et56_l13 a) s K X) :
 ∃ I13:Nat->List AV->AS->Prop,(∃ m,I13 m [f4_l13,eout7_l13 a0,t54_l13,t55_l13,et56_l13 a0] s)/\∀ (m:Nat) (x0 x1 x2 x3 x4:AV),∀ s,I13 m [x0,x1,x2,x3,x4] s ->
 L15_13 env  I13 m x0 x1 x2 x3 x4 s K X:=by
  refine ⟨Inv (fun a=>[f4_l13,eout7_l13 a,t54_l13,t55_l13,et56_l13 a]) μ I,⟨_,a0,rfl,rfl,h0⟩,?_⟩
  rintro m x0 x1 x2 x3 x4 s' ⟨a,hv,rfl,hI⟩
  simp only [List.cons.injEq,and_true] at hv
  obtain ⟨rfl,rfl,rfl,rfl,rfl⟩:=hv
  exact h a s' hI
def L15_3 (env:Env) (I3:Nat->List AV->AS->Prop) (m3:Nat) (f4_l3 t14_l3 t15_l3 t16_l3:AV) (s:AS) (K:AV->AS->Prop) (X:PV->AS->Prop):Prop :=
 (lock binD prog .lss 3 t16_l3 t15_l3 fun t17 =>
 (condD t17
 (lock indexAddrD prog 23 t14_l3 t16_l3 fun t18 =>
 (lock loadD prog s 50 t18 fun t19 =>
 (lock allocD prog s 50 fun t6 s5 =>
 (lock storeD prog s5 50 t6 t19 fun s6 =>
 (lock fieldAddrD prog 50 t6 0 fun t21 =>
 (lock loadD prog s6 9 t21 fun t22 =>
 (lock binD prog .eql 9 t22 (.pv (.str [114,97,110,103,101])) fun t23 =>
 (condD t23
 (retV (.tuple [(.nilS),(.pv (.bool false))]) s6 K)
 (lock fieldAddrD prog 50 t6 0 fun t25 =>
 (lock loadD prog s6 9 t25 fun t26 =>
 (lock binD prog .eql 9 t26 (.pv (.str [114,117,108,101])) fun t27 =>
 (guardD t27 true
 (lock fieldAddrD prog 50 t6 2 fun t29 =>
 (lock loadD prog s6 23 t29 fun t30 =>
 (lock lenD prog 23 t30 fun t31 =>
 (lock binD prog .eql 3 t31 (.pv (.int .i64 2)) fun t32 =>
 (J15_8 env I3 m3 (f4_l3) (t6) (t14_l3) (t15_l3) (t16_l3) (t32) s6 K X)))))
 (J15_8 env I3 m3 (f4_l3) (t6) (t14_l3) (t15_l3) (t16_l3) (.pv (.bool false)) s6 K X)))))))))))))
 (lock nilD f4_l3 fun t50 =>
 (lock fieldAddrD prog 96 t50 0 fun t51 =>
 (lock loadD prog s 94 t51 fun t52 =>
 (env 42 [t52] s (fun t53 s11 =>
 (env 41 [t53] s11 (fun t54 s12 =>
 (lock lenD prog 26 t54 fun t55 =>
 (∃ I13:Nat->List AV->AS->Prop,(∃ m,I13 m [f4_l3,(.nilS),t54,t55,(.pv (.int .i64 0))] s12)/\∀ (m13:Nat) (f4_l13 out7_l13 t54_l13 t55_l13 t56_l13:AV),∀ s13,I13 m13 [f4_l13,out7_l13,t54_l13,t55_l13,t56_l13] s13 ->
 (L15_13 env I13 m13 f4_l13 out7_l13 t54_l13 t55_l13 t56_l13 s13 K X)))) (panV X))) (panV X)))))))
theorem L15_3_eq (env:Env) (I3:Nat->List AV->AS->Prop) (m3:Nat) (f4_l3 t14_l3 t15_l3 t16_l3:AV) (s:AS) (K:AV->AS->Prop) (X:PV->AS->Prop):L15_3 env I3 m3 f4_l3 t14_l3 t15_l3 t16_l3 s K X=wpD prog env an15 (subC (bodyC f15) [1,1,0,1,0,0]) (contQ prog env an15 (bodyC f15) [1,1,0,1,0,0] [(I3,m3)] (rootQ prog f15 K X)) [(4,f4_l3),(14,t14_l3),(15,t15_l3),(16,t16_l3)] s:=by
  unfold L15_3
  simp only [L15_13_eq]
  kernel_rfl
theorem lp15_3 {α:Type} {env:Env}  {f4_l3 t14_l3 t15_l3:AV} {s:AS} {K:AV->AS->Prop} {X:PV->AS->Prop} (μ:α->AS->Nat) (I:α->AS->Prop) (et16_l3:α->AV) (a0:α) (h0:I a0 s)
 (h:∀ a s,I a s->L15_3 env  (Inv (fun a=>[f4_l3,t14_l3,t15_l3,et16_l3 a]) μ I) (μ a s) f4_l3 t14_l3 t15_l3 (et16_l3 a) s K X) :
 ∃ I3:Nat->List AV->AS->Prop,(∃ m,I3 m [f4_l3,t14_l3,t15_l3,et16_l3 a0] s)/\∀ (m:Nat) (x0 x1 x2 x3:AV),∀ s,I3 m [x0,x1,x2,x3] s ->
 L15_3 env  I3 m x0 x1 x2 x3 s K X:=by
  refine ⟨Inv (fun a=>[f4_l3,t14_l3,t15_l3,et16_l3 a]) μ I,⟨_,a0,rfl,rfl,h0⟩,?_⟩
  rintro m x0 x1 x2 x3 s' ⟨a,hv,rfl,hI⟩
  simp only [List.cons.injEq,and_true] at hv
  obtain ⟨rfl,rfl,rfl,rfl⟩:=hv
  exact h a s' hI
def S15 (env:Env) (items0_a:AV) (s:AS) (K:AV->AS->Prop) (X:PV->AS->Prop):Prop :=
 (lock makeMapD prog s 94 none fun t10 s1 =>
 (lock makeMapD prog s1 33 none fun t11 s2 =>
 (lock buildD prog 96 [(0,t10),(1,t11)] fun t12 =>
 (lock boxD s2 t12 fun t13 s3 =>
 (lock lenD prog 23 items0_a fun t15 =>
 (∃ I3:Nat->List AV->AS->Prop,(∃ m,I3 m [t13,items0_a,t15,(.pv (.int .i64 0))] s3)/\∀ (m3:Nat) (f4_l3 t14_l3 t15_l3 t16_l3:AV),∀ s4,I3 m3 [f4_l3,t14_l3,t15_l3,t16_l3] s4 ->
 (L15_3 env I3 m3 f4_l3 t14_l3 t15_l3 t16_l3 s4 K X)))))))
theorem S15_eq (env:Env) (items0_a:AV) (s:AS) (K:AV->AS->Prop) (X:PV->AS->Prop):S15 env items0_a s K X=bodyD prog env an15 f15 [items0_a] s K X:=by
  unfold S15
  simp only [L15_3_eq]
  kernel_rfl
theorem S15_ok:(match f15.body with | some c=>okCode an15 prog f15.ntmps c | none=>false)=true:=by kernel_rfl
end Go.AD
