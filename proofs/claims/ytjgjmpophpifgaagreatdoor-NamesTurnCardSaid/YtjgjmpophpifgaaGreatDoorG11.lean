import Derived.Test.YtjgjmpophpifgaaGreatDoorM7
set_option linter.unusedVariables false
set_option maxRecDepth 100000
namespace Go.AD
open Go.Proofs.Tryz
def an181:An:={ mu:=[],cut:=[(5,[0,1,4,5,22]),(8,[0,1,4,5])],loop:=[(9,[0,1,4,5,32,33,34])],any:=[12] }
def L181_9 (env:Env) (I9:Nat->List AV->AS->Prop) (m9:Nat) (p0_l9 w1_l9 t4_l9 l5_l9 t32_l9 t33_l9 t34_l9:AV) (s:AS) (K:AV->AS->Prop) (X:PV->AS->Prop):Prop :=
 (lock binD prog .lss 3 t34_l9 t33_l9 fun t35 =>
 (condD t35
 (lock indexAddrD prog 26 t32_l9 t34_l9 fun t36 =>
 (lock loadD prog s 9 t36 fun t37 =>
 (env 75 [t37] s (fun t40 s6 =>
 (env 80 [p0_l9,t40] s6 (fun t41 s7 =>
 (condD t41
 (lock lenD prog 23 l5_l9 fun t44 =>
 (lock lenD prog 23 l5_l9 fun t46 =>
 ((lock cutD prog 23 l5_l9 t44 t46 fun t47 =>
 ((env 84 [p0_l9,(.pv (.int .i64 8)),(.pv (.bool true))] s7 (fun t49 s17 =>
 ((lock buildSliceD prog false s17 23 1 1 [(0,t49)] fun t50 s18 =>
 ((lock appendD prog false s18 23 t47 t50 fun t51 s19 =>
 (env 82 [w1_l9,t37,t51] s19 (fun t55 s20 =>
 (lock storeD prog s20 50 t4_l9 t55 fun s21 =>
 (lock loadD prog s21 50 t4_l9 fun r0 =>
 (retV (r0) s21 K)))) (panV X)))/\True))/\True)) (panV X))/\True))/\((env 84 [p0_l9,(.pv (.int .i64 8)),(.pv (.bool true))] s7 (fun t49 s8 =>
 ((lock cutD prog 23 l5_l9 t44 t46 fun t47 =>
 ((lock buildSliceD prog false s8 23 1 1 [(0,t49)] fun t50 s13 =>
 ((lock appendD prog false s13 23 t47 t50 fun t51 s14 =>
 (env 82 [w1_l9,t37,t51] s14 (fun t55 s15 =>
 (lock storeD prog s15 50 t4_l9 t55 fun s16 =>
 (lock loadD prog s16 50 t4_l9 fun r0 =>
 (retV (r0) s16 K)))) (panV X)))/\True))/\True))/\((lock buildSliceD prog false s8 23 1 1 [(0,t49)] fun t50 s9 =>
 ((lock cutD prog 23 l5_l9 t44 t46 fun t47 =>
 ((lock appendD prog false s9 23 t47 t50 fun t51 s10 =>
 (env 82 [w1_l9,t37,t51] s10 (fun t55 s11 =>
 (lock storeD prog s11 50 t4_l9 t55 fun s12 =>
 (lock loadD prog s12 50 t4_l9 fun r0 =>
 (retV (r0) s12 K)))) (panV X)))/\True))/\True))/\True))) (panV X))/\True))))
 (lock binD prog .add 3 t34_l9 (.pv (.int .i64 1)) fun t56 =>
 (∃ m',m' < m9/\I9 m' [p0_l9,w1_l9,t4_l9,l5_l9,t32_l9,t33_l9,t56] s7)))) (panV X))) (panV X))))
 (env 82 [w1_l9,(.pv (.str [])),l5_l9] s (fun t59 s22 =>
 (lock storeD prog s22 50 t4_l9 t59 fun s23 =>
 (lock loadD prog s23 50 t4_l9 fun r0 =>
 (retV (r0) s23 K)))) (panV X))))
theorem lp181_9 {α:Type} {env:Env}  {p0_l9 w1_l9 t4_l9 t32_l9 t33_l9:AV} {s:AS} {K:AV->AS->Prop} {X:PV->AS->Prop} (μ:α->AS->Nat) (I:α->AS->Prop) (el5_l9 et34_l9:α->AV) (a0:α) (h0:I a0 s)
 (h:∀ a s,I a s->L181_9 env  (Inv (fun a=>[p0_l9,w1_l9,t4_l9,el5_l9 a,t32_l9,t33_l9,et34_l9 a]) μ I) (μ a s) p0_l9 w1_l9 t4_l9 (el5_l9 a) t32_l9 t33_l9 (et34_l9 a) s K X) :
 ∃ I9:Nat->List AV->AS->Prop,(∃ m,I9 m [p0_l9,w1_l9,t4_l9,el5_l9 a0,t32_l9,t33_l9,et34_l9 a0] s)/\∀ (m:Nat) (x0 x1 x2 x3 x4 x5 x6:AV),∀ s,I9 m [x0,x1,x2,x3,x4,x5,x6] s ->
 L181_9 env  I9 m x0 x1 x2 x3 x4 x5 x6 s K X:=by
  refine ⟨Inv (fun a=>[p0_l9,w1_l9,t4_l9,el5_l9 a,t32_l9,t33_l9,et34_l9 a]) μ I,⟨_,a0,rfl,rfl,h0⟩,?_⟩
  rintro m x0 x1 x2 x3 x4 x5 x6 s' ⟨a,hv,rfl,hI⟩
  simp only [List.cons.injEq,and_true] at hv
  obtain ⟨rfl,rfl,rfl,rfl,rfl,rfl,rfl⟩:=hv
  exact h a s' hI
def J181_8 (env:Env)  (p0_j8 w1_j8 t4_j8 l5_j8:AV) (s:AS) (K:AV->AS->Prop) (X:PV->AS->Prop):Prop :=
 (lock buildSliceD prog false s 26 2 2 [(0,(.pv (.str [62]))),(1,(.pv (.str [62,62])))] fun t32 s4 =>
 (lock lenD prog 26 t32 fun t33 =>
 (∃ I9:Nat->List AV->AS->Prop,(∃ m,I9 m [p0_j8,w1_j8,t4_j8,l5_j8,t32,t33,(.pv (.int .i64 0))] s4)/\∀ (m9:Nat) (p0_l9 w1_l9 t4_l9 l5_l9 t32_l9 t33_l9 t34_l9:AV),∀ s5,I9 m9 [p0_l9,w1_l9,t4_l9,l5_l9,t32_l9,t33_l9,t34_l9] s5 ->
 (L181_9 env I9 m9 p0_l9 w1_l9 t4_l9 l5_l9 t32_l9 t33_l9 t34_l9 s5 K X))))
def J181_5 (env:Env)  (p0_j5 w1_j5 t4_j5 l5_j5 t22_j5:AV) (s:AS) (K:AV->AS->Prop) (X:PV->AS->Prop):Prop :=
 (condD t22_j5
 (lock indexAddrD prog 23 l5_j5 (.pv (.int .i64 0)) fun t24 =>
 (lock fieldAddrD prog 50 t24 2 fun t25 =>
 (lock loadD prog s 23 t25 fun t26 =>
 (J181_8 env  (p0_j5) (w1_j5) (t4_j5) (t26) s K X))))
 (J181_8 env  (p0_j5) (w1_j5) (t4_j5) (l5_j5) s K X))
def S181 (env:Env) (p0_a w1_a:AV) (s:AS) (K:AV->AS->Prop) (X:PV->AS->Prop):Prop :=
 (lock allocD prog s 50 fun t4 s1 =>
 (env 182 [p0_a] s1 (fun t10 s2 =>
 (condD t10
 (env 193 [p0_a,(.pv (.bool true))] s2 (fun t12 s3 =>
 (lock lenD prog 23 t12 fun t14 =>
 (lock binD prog .eql 3 t14 (.pv (.int .i64 1)) fun t15 =>
 (guardD t15 true
 (lock indexAddrD prog 23 t12 (.pv (.int .i64 0)) fun t18 =>
 (lock fieldAddrD prog 50 t18 0 fun t19 =>
 (lock loadD prog s3 9 t19 fun t20 =>
 (lock binD prog .eql 9 t20 (.pv (.str [108,105,115,116])) fun t21 =>
 (J181_5 env  (p0_a) (w1_a) (t4) (t12) (t21) s3 K X)))))
 (J181_5 env  (p0_a) (w1_a) (t4) (t12) (.pv (.bool false)) s3 K X))))) (panV X))
 (lock binD prog .eql 9 w1_a (.pv (.str [112,114,105,110,116,102])) fun t29 =>
 (condD t29
 (lock buildD prog 80 [] fun t30 =>
 (lock ifaceD prog 80 t30 fun t31 =>
 (lock panicD s2 t31 (panV X))))
 (J181_8 env  (p0_a) (w1_a) (t4) (.nilS) s2 K X))))) (panV X)))
theorem S181_eq (env:Env) (p0_a w1_a:AV) (s:AS) (K:AV->AS->Prop) (X:PV->AS->Prop):S181 env p0_a w1_a s K X=bodyD prog env an181 f181 [p0_a,w1_a] s K X:=by
  unfold S181
  kernel_rfl
theorem S181_ok:(match f181.body with | some c=>okCode an181 prog f181.ntmps c | none=>false)=true:=by kernel_rfl
def an162:An:={ mu:=[],cut:=[(8,[0,2,3,17,18]),(12,[0,2,3,17,25]),(15,[0,2,3,17,32])],loop:=[],any:=[16] }
def J162_15 (env:Env)  (p0_j15 t2_j15 t3_j15 t17_j15 t32_j15:AV) (s:AS) (K:AV->AS->Prop) (X:PV->AS->Prop):Prop :=
 (condD t32_j15
 (env 182 [p0_j15] s (fun t36 s14 =>
 (condD t36
 (lock fieldAddrD prog 53 t3_j15 1 fun t37 =>
 ((lock loadD prog s14 9 t37 fun t38 =>
 ((env 84 [p0_j15,(.pv (.int .i64 1)),(.pv (.bool false))] s14 (fun t40 s22 =>
 ((lock buildSliceD prog false s22 23 1 1 [(0,t40)] fun t41 s23 =>
 ((env 82 [t38,(.pv (.str [])),t41] s23 (fun t42 s24 =>
 ((lock storeD prog s24 50 t2_j15 t42 fun s25 =>
 (lock loadD prog s25 50 t2_j15 fun r0 =>
 (retV (r0) s25 K)))/\True)) (panV X))/\True))/\True)) (panV X))/\True))/\((env 84 [p0_j15,(.pv (.int .i64 1)),(.pv (.bool false))] s14 (fun t40 s15 =>
 ((lock loadD prog s15 9 t37 fun t38 =>
 ((lock buildSliceD prog false s15 23 1 1 [(0,t40)] fun t41 s19 =>
 ((env 82 [t38,(.pv (.str [])),t41] s19 (fun t42 s20 =>
 ((lock storeD prog s20 50 t2_j15 t42 fun s21 =>
 (lock loadD prog s21 50 t2_j15 fun r0 =>
 (retV (r0) s21 K)))/\True)) (panV X))/\True))/\True))/\((lock buildSliceD prog false s15 23 1 1 [(0,t40)] fun t41 s16 =>
 ((lock loadD prog s16 9 t37 fun t38 =>
 ((env 82 [t38,(.pv (.str [])),t41] s16 (fun t42 s17 =>
 ((lock storeD prog s17 50 t2_j15 t42 fun s18 =>
 (lock loadD prog s18 50 t2_j15 fun r0 =>
 (retV (r0) s18 K)))/\True)) (panV X))/\True))/\True))/\True))) (panV X))/\True)))
 (lock fieldAddrD prog 53 t3_j15 1 fun t43 =>
 (lock loadD prog s14 9 t43 fun t44 =>
 (env 82 [t44,(.pv (.str [])),(.nilS)] s14 (fun t45 s26 =>
 (lock storeD prog s26 50 t2_j15 t45 fun s27 =>
 (lock loadD prog s27 50 t2_j15 fun r0 =>
 (retV (r0) s27 K)))) (panV X)))))) (panV X))
 (lock binD prog .eql 9 t17_j15 (.pv (.str [100,101,108,101,116,101])) fun t47 =>
 (condD t47
 (lock buildSliceD prog false s 26 1 1 [(0,(.pv (.str [110,97,109,101])))] fun t49 s28 =>
 (env 128 [p0_j15,t49] s28 (fun t50 s29 =>
 (env 75 [(.pv (.str [91]))] s29 (fun t52 s30 =>
 (env 126 [p0_j15,t52] s30 (fun t53 s31 =>
 (env 183 [p0_j15] s31 (fun t56 s32 =>
 (env 82 [(.pv (.str [100,101,108,101,116,101])),t50,t56] s32 (fun t57 s33 =>
 (lock storeD prog s33 50 t2_j15 t57 fun s34 =>
 (lock loadD prog s34 50 t2_j15 fun r0 =>
 (retV (r0) s34 K)))) (panV X))) (panV X))) (panV X))) (panV X))) (panV X)))
 (lock buildD prog 80 [] fun t58 =>
 (lock ifaceD prog 80 t58 fun t59 =>
 (lock panicD s t59 (panV X)))))))
def J162_12 (env:Env)  (p0_j12 t2_j12 t3_j12 t17_j12 t25_j12:AV) (s:AS) (K:AV->AS->Prop) (X:PV->AS->Prop):Prop :=
 (condD t25_j12
 (lock fieldAddrD prog 53 t3_j12 1 fun t29 =>
 (lock loadD prog s 9 t29 fun t30 =>
 (env 82 [t30,(.pv (.str [])),(.nilS)] s (fun t31 s12 =>
 (lock storeD prog s12 50 t2_j12 t31 fun s13 =>
 (lock loadD prog s13 50 t2_j12 fun r0 =>
 (retV (r0) s13 K)))) (panV X))))
 (lock binD prog .eql 9 t17_j12 (.pv (.str [101,120,105,116])) fun t33 =>
 (condD t33
 (J162_15 env  (p0_j12) (t2_j12) (t3_j12) (t17_j12) (t33) s K X)
 (lock binD prog .eql 9 t17_j12 (.pv (.str [114,101,116,117,114,110])) fun t34 =>
 (J162_15 env  (p0_j12) (t2_j12) (t3_j12) (t17_j12) (t34) s K X)))))
def J162_8 (env:Env)  (p0_j8 t2_j8 t3_j8 t17_j8 t18_j8:AV) (s:AS) (K:AV->AS->Prop) (X:PV->AS->Prop):Prop :=
 (condD t18_j8
 (lock fieldAddrD prog 53 t3_j8 1 fun t22 =>
 (lock loadD prog s 9 t22 fun t23 =>
 (env 181 [p0_j8,t23] s (fun t24 s10 =>
 (lock storeD prog s10 50 t2_j8 t24 fun s11 =>
 (lock loadD prog s11 50 t2_j8 fun r0 =>
 (retV (r0) s11 K)))) (panV X))))
 (lock binD prog .eql 9 t17_j8 (.pv (.str [110,101,120,116])) fun t26 =>
 (condD t26
 (J162_12 env  (p0_j8) (t2_j8) (t3_j8) (t17_j8) (t26) s K X)
 (lock binD prog .eql 9 t17_j8 (.pv (.str [98,114,101,97,107])) fun t27 =>
 (condD t27
 (J162_12 env  (p0_j8) (t2_j8) (t3_j8) (t17_j8) (t27) s K X)
 (lock binD prog .eql 9 t17_j8 (.pv (.str [99,111,110,116,105,110,117,101])) fun t28 =>
 (J162_12 env  (p0_j8) (t2_j8) (t3_j8) (t17_j8) (t28) s K X)))))))
def S162 (env:Env) (p0_a:AV) (s:AS) (K:AV->AS->Prop) (X:PV->AS->Prop):Prop :=
 (lock allocD prog s 50 fun t2 s1 =>
 (env 74 [p0_a,(.pv (.int .i64 0))] s1 (fun t6 s2 =>
 (lock allocD prog s2 53 fun t3 s3 =>
 (lock storeD prog s3 53 t3 t6 fun s4 =>
 (lock fieldAddrD prog 53 t3 0 fun t7 =>
 (lock loadD prog s4 9 t7 fun t8 =>
 (lock binD prog .neq 9 t8 (.pv (.str [119,111,114,100])) fun t9 =>
 (condD t9
 (env 84 [p0_a,(.pv (.int .i64 1)),(.pv (.bool false))] s4 (fun t11 s5 =>
 (lock buildSliceD prog false s5 23 1 1 [(0,t11)] fun t12 s6 =>
 (env 82 [(.pv (.str [101,120,112,114])),(.pv (.str [])),t12] s6 (fun t13 s7 =>
 (lock storeD prog s7 50 t2 t13 fun s8 =>
 (lock loadD prog s8 50 t2 fun r0 =>
 (retV (r0) s8 K)))) (panV X)))) (panV X))
 (env 76 [p0_a,(.pv (.int .i64 1))] s4 (fun t15 s9 =>
 (lock fieldAddrD prog 53 t3 1 fun t16 =>
 (lock loadD prog s9 9 t16 fun t17 =>
 (lock binD prog .eql 9 t17 (.pv (.str [112,114,105,110,116])) fun t19 =>
 (condD t19
 (J162_8 env  (p0_a) (t2) (t3) (t17) (t19) s9 K X)
 (lock binD prog .eql 9 t17 (.pv (.str [112,114,105,110,116,102])) fun t20 =>
 (J162_8 env  (p0_a) (t2) (t3) (t17) (t20) s9 K X))))))) (panV X))))))))) (panV X)))
theorem S162_eq (env:Env) (p0_a:AV) (s:AS) (K:AV->AS->Prop) (X:PV->AS->Prop):S162 env p0_a s K X=bodyD prog env an162 f162 [p0_a] s K X:=by
  unfold S162
  kernel_rfl
theorem S162_ok:(match f162.body with | some c=>okCode an162 prog f162.ntmps c | none=>false)=true:=by kernel_rfl
def an159:An:={ mu:=[],cut:=[],loop:=[] }
def S159 (env:Env) (p0_a:AV) (s:AS) (K:AV->AS->Prop) (X:PV->AS->Prop):Prop :=
 (lock allocD prog s 50 fun t2 s1 =>
 (env 75 [(.pv (.str [40]))] s1 (fun t5 s2 =>
 (env 126 [p0_a,t5] s2 (fun t6 s3 =>
 (env 84 [p0_a,(.pv (.int .i64 1)),(.pv (.bool false))] s3 (fun t8 s4 =>
 (lock allocD prog s4 50 fun t3 s5 =>
 (lock storeD prog s5 50 t3 t8 fun s6 =>
 (env 75 [(.pv (.str [41]))] s6 (fun t10 s7 =>
 (env 126 [p0_a,t10] s7 (fun t11 s8 =>
 (lock loadD prog s8 50 t3 fun t12 =>
 (lock storeD prog s8 50 t2 t12 fun s9 =>
 (lock loadD prog s9 50 t2 fun r0 =>
 (retV (r0) s9 K))))) (panV X))) (panV X))))) (panV X))) (panV X))) (panV X)))
theorem S159_eq (env:Env) (p0_a:AV) (s:AS) (K:AV->AS->Prop) (X:PV->AS->Prop):S159 env p0_a s K X=bodyD prog env an159 f159 [p0_a] s K X:=by
  unfold S159
  kernel_rfl
theorem S159_ok:(match f159.body with | some c=>okCode an159 prog f159.ntmps c | none=>false)=true:=by kernel_rfl
def an160:An:={ mu:=[],cut:=[],loop:=[] }
def S160 (env:Env) (p0_a:AV) (s:AS) (K:AV->AS->Prop) (X:PV->AS->Prop):Prop :=
 (lock allocD prog s 50 fun t2 s1 =>
 (env 85 [p0_a] s1 (fun t5 s2 =>
 (env 127 [p0_a] s2 (fun t7 s3 =>
 (lock extractD t7 0 fun t8 =>
 (lock extractD t7 1 fun t9 =>
 (lock storeD prog s3 50 t2 t8 fun s4 =>
 (lock loadD prog s4 50 t2 fun r0 =>
 (retV (.tuple [r0,t9]) s4 K)))))) (panV X))) (panV X)))
theorem S160_eq (env:Env) (p0_a:AV) (s:AS) (K:AV->AS->Prop) (X:PV->AS->Prop):S160 env p0_a s K X=bodyD prog env an160 f160 [p0_a] s K X:=by
  unfold S160
  kernel_rfl
theorem S160_ok:(match f160.body with | some c=>okCode an160 prog f160.ntmps c | none=>false)=true:=by kernel_rfl
def an158:An:={ mu:=[],cut:=[(6,[0,2,4,5,6,7,33])],loop:=[] }
def J158_6 (env:Env)  (p0_j6 t2_j6 c4_j6 a5_j6 open6_j6 was7_j6 t33_j6:AV) (s:AS) (K:AV->AS->Prop) (X:PV->AS->Prop):Prop :=
 (condD t33_j6
 (env 160 [p0_j6] s (fun t36 s11 =>
 (lock extractD t36 0 fun t37 =>
 (lock extractD t36 1 fun t38 =>
 (lock allocD prog s11 50 fun t9 s12 =>
 (lock storeD prog s12 50 t9 t37 fun s13 =>
 (lock loadD prog s13 50 c4_j6 fun t39 =>
 (lock loadD prog s13 50 a5_j6 fun t40 =>
 (lock loadD prog s13 50 t9 fun t41 =>
 (lock buildSliceD prog false s13 23 3 3 [(0,t39),(1,t40),(2,t41)] fun t42 s14 =>
 (env 82 [(.pv (.str [105,102])),(.pv (.str [])),t42] s14 (fun t43 s15 =>
 (lock storeD prog s15 50 t2_j6 t43 fun s16 =>
 (lock loadD prog s16 50 t2_j6 fun r0 =>
 (retV (.tuple [r0,t38]) s16 K)))) (panV X))))))))))) (panV X))
 (lock nilD p0_j6 fun t47 =>
 (lock fieldAddrD prog 85 t47 0 fun t48 =>
 (lock storeD prog s 42 t48 was7_j6 fun s17 =>
 (lock loadD prog s17 50 c4_j6 fun t49 =>
 (lock loadD prog s17 50 a5_j6 fun t50 =>
 (lock buildSliceD prog false s17 23 2 2 [(0,t49),(1,t50)] fun t51 s18 =>
 (env 82 [(.pv (.str [105,102])),(.pv (.str [])),t51] s18 (fun t52 s19 =>
 (lock storeD prog s19 50 t2_j6 t52 fun s20 =>
 (lock loadD prog s20 50 t2_j6 fun r0 =>
 (retV (.tuple [r0,open6_j6]) s20 K)))) (panV X)))))))))
def S158 (env:Env) (p0_a:AV) (s:AS) (K:AV->AS->Prop) (X:PV->AS->Prop):Prop :=
 (lock allocD prog s 50 fun t2 s1 =>
 (env 159 [p0_a] s1 (fun t12 s2 =>
 (lock allocD prog s2 50 fun t4 s3 =>
 (lock storeD prog s3 50 t4 t12 fun s4 =>
 (env 160 [p0_a] s4 (fun t15 s5 =>
 (lock extractD t15 0 fun t16 =>
 (lock extractD t15 1 fun t17 =>
 (lock allocD prog s5 50 fun t5 s6 =>
 (lock storeD prog s6 50 t5 t16 fun s7 =>
 (lock nilD p0_a fun t19 =>
 (lock fieldAddrD prog 85 t19 0 fun t20 =>
 (lock loadD prog s7 42 t20 fun t21 =>
 (env 36 [p0_a] s7 (fun t23 s8 =>
 (guardD t23 false
 (unD .not t17 fun t27 =>
 (guardD t27 true
 (env 81 [(.pv (.str [101,108,115,101]))] s8 (fun t31 s9 =>
 (env 80 [p0_a,t31] s9 (fun t32 s10 =>
 (J158_6 env  (p0_a) (t2) (t4) (t5) (t17) (t21) (t32) s10 K X)) (panV X))) (panV X))
 (J158_6 env  (p0_a) (t2) (t4) (t5) (t17) (t21) (.pv (.bool false)) s8 K X)))
 (env 81 [(.pv (.str [101,108,115,101]))] s8 (fun t31 s21 =>
 (env 80 [p0_a,t31] s21 (fun t32 s22 =>
 (J158_6 env  (p0_a) (t2) (t4) (t5) (t17) (t21) (t32) s22 K X)) (panV X))) (panV X)))) (panV X)))))))))) (panV X))))) (panV X)))
theorem S158_eq (env:Env) (p0_a:AV) (s:AS) (K:AV->AS->Prop) (X:PV->AS->Prop):S158 env p0_a s K X=bodyD prog env an158 f158 [p0_a] s K X:=by
  unfold S158
  kernel_rfl
theorem S158_ok:(match f158.body with | some c=>okCode an158 prog f158.ntmps c | none=>false)=true:=by kernel_rfl
def an179:An:={ mu:=[],cut:=[(4,[0,1,6,7])],loop:=[] }
def J179_4 (env:Env)  (p0_j4 until1_j4 t6_j4 e7_j4:AV) (s:AS) (K:AV->AS->Prop) (X:PV->AS->Prop):Prop :=
 (env 75 [until1_j4] s (fun t18 s9 =>
 (env 126 [p0_j4,t18] s9 (fun t19 s10 =>
 (env 85 [p0_j4] s10 (fun t21 s11 =>
 (lock loadD prog s11 50 e7_j4 fun t22 =>
 (lock storeD prog s11 50 t6_j4 t22 fun s12 =>
 (lock loadD prog s12 50 t6_j4 fun r0 =>
 (retV (r0) s12 K))))) (panV X))) (panV X))) (panV X))
def S179 (env:Env) (p0_a until1_a parse2_a:AV) (s:AS) (K:AV->AS->Prop) (X:PV->AS->Prop):Prop :=
 (lock allocD prog s 50 fun t6 s1 =>
 (env 79 [] s1 (fun t8 s2 =>
 (lock allocD prog s2 50 fun t7 s3 =>
 (lock storeD prog s3 50 t7 t8 fun s4 =>
 (env 74 [p0_a,(.pv (.int .i64 0))] s4 (fun t10 s5 =>
 (env 75 [until1_a] s5 (fun t12 s6 =>
 (lock binD prog .neq 53 t10 t12 fun t13 =>
 (condD t13
 (callD env parse2_a [] s6 (fun t15 s7 =>
 (lock storeD prog s7 50 t7 t15 fun s8 =>
 (J179_4 env  (p0_a) (until1_a) (t6) (t7) s8 K X))) (panV X))
 (J179_4 env  (p0_a) (until1_a) (t6) (t7) s6 K X)))) (panV X))) (panV X))))) (panV X)))
theorem S179_eq (env:Env) (p0_a until1_a parse2_a:AV) (s:AS) (K:AV->AS->Prop) (X:PV->AS->Prop):S179 env p0_a until1_a parse2_a s K X=bodyD prog env an179 f179 [p0_a,until1_a,parse2_a] s K X:=by
  unfold S179
  kernel_rfl
theorem S179_ok:(match f179.body with | some c=>okCode an179 prog f179.ntmps c | none=>false)=true:=by kernel_rfl
def an161:An:={ mu:=[],cut:=[(3,[1,2,37])],loop:=[],any:=[1,3,6] }
def J161_3 (env:Env)  (p1_j3 t2_j3 t37_j3:AV) (s:AS) (K:AV->AS->Prop) (X:PV->AS->Prop):Prop :=
 (condD t37_j3
 ((lock loadD prog s 83 p1_j3 fun t38 =>
 ((env 74 [t38,(.pv (.int .i64 0))] s (fun t39 s39 =>
 (lock fieldD prog 53 t39 1 fun t40 =>
 ((lock loadD prog s39 83 p1_j3 fun t41 =>
 ((env 74 [t41,(.pv (.int .i64 2))] s39 (fun t42 s40 =>
 (lock fieldD prog 53 t42 1 fun t43 =>
 (lock loadD prog s40 83 p1_j3 fun t44 =>
 (env 76 [t44,(.pv (.int .i64 4))] s40 (fun t45 s41 =>
 (lock loadD prog s41 83 p1_j3 fun t47 =>
 (env 160 [t47] s41 (fun t48 s42 =>
 (lock extractD t48 0 fun t49 =>
 (lock extractD t48 1 fun t50 =>
 (lock allocD prog s42 50 fun t6 s43 =>
 (lock storeD prog s43 50 t6 t49 fun s44 =>
 ((env 82 [(.pv (.str [118,97,114])),t43,(.nilS)] s44 (fun t53 s49 =>
 ((lock loadD prog s49 50 t6 fun t54 =>
 ((lock buildSliceD prog false s49 23 2 2 [(0,t53),(1,t54)] fun t55 s50 =>
 ((env 82 [(.pv (.str [102,111,114,105,110])),t40,t55] s50 (fun t56 s51 =>
 ((lock storeD prog s51 50 t2_j3 t56 fun s52 =>
 (lock loadD prog s52 50 t2_j3 fun r0 =>
 (retV (.tuple [r0,t50]) s52 K)))/\True)) (panV X))/\True))/\True))/\True)) (panV X))/\((lock loadD prog s44 50 t6 fun t54 =>
 ((env 82 [(.pv (.str [118,97,114])),t43,(.nilS)] s44 (fun t53 s45 =>
 ((lock buildSliceD prog false s45 23 2 2 [(0,t53),(1,t54)] fun t55 s46 =>
 ((env 82 [(.pv (.str [102,111,114,105,110])),t40,t55] s46 (fun t56 s47 =>
 ((lock storeD prog s47 50 t2_j3 t56 fun s48 =>
 (lock loadD prog s48 50 t2_j3 fun r0 =>
 (retV (.tuple [r0,t50]) s48 K)))/\True)) (panV X))/\True))/\True)) (panV X))/\True))/\True))))))) (panV X)))) (panV X))))) (panV X))/\True))/\True))) (panV X))/\((lock loadD prog s 83 p1_j3 fun t41 =>
 ((env 74 [t38,(.pv (.int .i64 0))] s (fun t39 s25 =>
 (lock fieldD prog 53 t39 1 fun t40 =>
 ((env 74 [t41,(.pv (.int .i64 2))] s25 (fun t42 s26 =>
 (lock fieldD prog 53 t42 1 fun t43 =>
 (lock loadD prog s26 83 p1_j3 fun t44 =>
 (env 76 [t44,(.pv (.int .i64 4))] s26 (fun t45 s27 =>
 (lock loadD prog s27 83 p1_j3 fun t47 =>
 (env 160 [t47] s27 (fun t48 s28 =>
 (lock extractD t48 0 fun t49 =>
 (lock extractD t48 1 fun t50 =>
 (lock allocD prog s28 50 fun t6 s29 =>
 (lock storeD prog s29 50 t6 t49 fun s30 =>
 ((env 82 [(.pv (.str [118,97,114])),t43,(.nilS)] s30 (fun t53 s35 =>
 ((lock loadD prog s35 50 t6 fun t54 =>
 ((lock buildSliceD prog false s35 23 2 2 [(0,t53),(1,t54)] fun t55 s36 =>
 ((env 82 [(.pv (.str [102,111,114,105,110])),t40,t55] s36 (fun t56 s37 =>
 ((lock storeD prog s37 50 t2_j3 t56 fun s38 =>
 (lock loadD prog s38 50 t2_j3 fun r0 =>
 (retV (.tuple [r0,t50]) s38 K)))/\True)) (panV X))/\True))/\True))/\True)) (panV X))/\((lock loadD prog s30 50 t6 fun t54 =>
 ((env 82 [(.pv (.str [118,97,114])),t43,(.nilS)] s30 (fun t53 s31 =>
 ((lock buildSliceD prog false s31 23 2 2 [(0,t53),(1,t54)] fun t55 s32 =>
 ((env 82 [(.pv (.str [102,111,114,105,110])),t40,t55] s32 (fun t56 s33 =>
 ((lock storeD prog s33 50 t2_j3 t56 fun s34 =>
 (lock loadD prog s34 50 t2_j3 fun r0 =>
 (retV (.tuple [r0,t50]) s34 K)))/\True)) (panV X))/\True))/\True)) (panV X))/\True))/\True))))))) (panV X)))) (panV X))))) (panV X))/\True))) (panV X))/\True))/\True)))/\((lock loadD prog s 83 p1_j3 fun t41 =>
 ((lock loadD prog s 83 p1_j3 fun t38 =>
 ((env 74 [t38,(.pv (.int .i64 0))] s (fun t39 s11 =>
 (lock fieldD prog 53 t39 1 fun t40 =>
 ((env 74 [t41,(.pv (.int .i64 2))] s11 (fun t42 s12 =>
 (lock fieldD prog 53 t42 1 fun t43 =>
 (lock loadD prog s12 83 p1_j3 fun t44 =>
 (env 76 [t44,(.pv (.int .i64 4))] s12 (fun t45 s13 =>
 (lock loadD prog s13 83 p1_j3 fun t47 =>
 (env 160 [t47] s13 (fun t48 s14 =>
 (lock extractD t48 0 fun t49 =>
 (lock extractD t48 1 fun t50 =>
 (lock allocD prog s14 50 fun t6 s15 =>
 (lock storeD prog s15 50 t6 t49 fun s16 =>
 ((env 82 [(.pv (.str [118,97,114])),t43,(.nilS)] s16 (fun t53 s21 =>
 ((lock loadD prog s21 50 t6 fun t54 =>
 ((lock buildSliceD prog false s21 23 2 2 [(0,t53),(1,t54)] fun t55 s22 =>
 ((env 82 [(.pv (.str [102,111,114,105,110])),t40,t55] s22 (fun t56 s23 =>
 ((lock storeD prog s23 50 t2_j3 t56 fun s24 =>
 (lock loadD prog s24 50 t2_j3 fun r0 =>
 (retV (.tuple [r0,t50]) s24 K)))/\True)) (panV X))/\True))/\True))/\True)) (panV X))/\((lock loadD prog s16 50 t6 fun t54 =>
 ((env 82 [(.pv (.str [118,97,114])),t43,(.nilS)] s16 (fun t53 s17 =>
 ((lock buildSliceD prog false s17 23 2 2 [(0,t53),(1,t54)] fun t55 s18 =>
 ((env 82 [(.pv (.str [102,111,114,105,110])),t40,t55] s18 (fun t56 s19 =>
 ((lock storeD prog s19 50 t2_j3 t56 fun s20 =>
 (lock loadD prog s20 50 t2_j3 fun r0 =>
 (retV (.tuple [r0,t50]) s20 K)))/\True)) (panV X))/\True))/\True)) (panV X))/\True))/\True))))))) (panV X)))) (panV X))))) (panV X))/\True))) (panV X))/\True))/\True))/\True))
 (lock loadD prog s 83 p1_j3 fun t58 =>
 (lock loadD prog s 83 p1_j3 fun t59 =>
 (env 179 [t58,(.pv (.str [59])),(.clo 162 [t59] [])] s (fun t61 s53 =>
 (lock allocD prog s53 50 fun t8 s54 =>
 (lock storeD prog s54 50 t8 t61 fun s55 =>
 (lock loadD prog s55 83 p1_j3 fun t62 =>
 (env 179 [t62,(.pv (.str [59])),(.clo 180 [] [p1_j3])] s55 (fun t64 s56 =>
 (lock allocD prog s56 50 fun t9 s57 =>
 (lock storeD prog s57 50 t9 t64 fun s58 =>
 (lock loadD prog s58 83 p1_j3 fun t65 =>
 (lock loadD prog s58 83 p1_j3 fun t66 =>
 (env 179 [t65,(.pv (.str [41])),(.clo 162 [t66] [])] s58 (fun t68 s59 =>
 (lock allocD prog s59 50 fun t10 s60 =>
 (lock storeD prog s60 50 t10 t68 fun s61 =>
 (lock loadD prog s61 83 p1_j3 fun t70 =>
 (env 127 [t70] s61 (fun t71 s62 =>
 (lock extractD t71 0 fun t72 =>
 (lock extractD t71 1 fun t73 =>
 (lock allocD prog s62 50 fun t11 s63 =>
 (lock storeD prog s63 50 t11 t72 fun s64 =>
 (lock loadD prog s64 50 t8 fun t74 =>
 (lock loadD prog s64 50 t9 fun t75 =>
 (lock loadD prog s64 50 t10 fun t76 =>
 (lock loadD prog s64 50 t11 fun t77 =>
 (lock buildSliceD prog false s64 23 4 4 [(0,t74),(1,t75),(2,t76),(3,t77)] fun t78 s65 =>
 (env 82 [(.pv (.str [102,111,114])),(.pv (.str [])),t78] s65 (fun t79 s66 =>
 (lock storeD prog s66 50 t2_j3 t79 fun s67 =>
 (lock loadD prog s67 50 t2_j3 fun r0 =>
 (retV (.tuple [r0,t73]) s67 K)))) (panV X)))))))))))) (panV X)))))) (panV X))))))) (panV X)))))) (panV X)))))
def S161 (env:Env) (p0_a:AV) (s:AS) (K:AV->AS->Prop) (X:PV->AS->Prop):Prop :=
 (lock boxD s p0_a fun t1 s1 =>
 (lock allocD prog s1 50 fun t2 s2 =>
 ((lock loadD prog s2 83 t1 fun t13 =>
 ((env 75 [(.pv (.str [40]))] s2 (fun t14 s68 =>
 ((env 126 [t13,t14] s68 (fun t15 s69 =>
 (lock loadD prog s69 83 t1 fun t16 =>
 (env 74 [t16,(.pv (.int .i64 0))] s69 (fun t17 s70 =>
 (lock fieldD prog 53 t17 0 fun t18 =>
 (lock binD prog .eql 9 t18 (.pv (.str [110,97,109,101])) fun t19 =>
 (guardD t19 true
 (lock loadD prog s70 83 t1 fun t21 =>
 (env 74 [t21,(.pv (.int .i64 1))] s70 (fun t22 s71 =>
 (env 81 [(.pv (.str [105,110]))] s71 (fun t23 s72 =>
 (lock binD prog .eql 53 t22 t23 fun t24 =>
 (guardD t24 true
 (lock loadD prog s72 83 t1 fun t27 =>
 (env 74 [t27,(.pv (.int .i64 2))] s72 (fun t28 s73 =>
 (lock fieldD prog 53 t28 0 fun t29 =>
 (lock binD prog .eql 9 t29 (.pv (.str [110,97,109,101])) fun t30 =>
 (guardD t30 true
 (lock loadD prog s73 83 t1 fun t33 =>
 (env 74 [t33,(.pv (.int .i64 3))] s73 (fun t34 s74 =>
 (env 75 [(.pv (.str [41]))] s74 (fun t35 s75 =>
 (lock binD prog .eql 53 t34 t35 fun t36 =>
 (J161_3 env  (t1) (t2) (t36) s75 K X))) (panV X))) (panV X)))
 (J161_3 env  (t1) (t2) (.pv (.bool false)) s73 K X))))) (panV X)))
 (J161_3 env  (t1) (t2) (.pv (.bool false)) s72 K X)))) (panV X))) (panV X)))
 (J161_3 env  (t1) (t2) (.pv (.bool false)) s70 K X))))) (panV X)))) (panV X))/\True)) (panV X))/\True))/\((env 75 [(.pv (.str [40]))] s2 (fun t14 s3 =>
 ((lock loadD prog s3 83 t1 fun t13 =>
 ((env 126 [t13,t14] s3 (fun t15 s4 =>
 (lock loadD prog s4 83 t1 fun t16 =>
 (env 74 [t16,(.pv (.int .i64 0))] s4 (fun t17 s5 =>
 (lock fieldD prog 53 t17 0 fun t18 =>
 (lock binD prog .eql 9 t18 (.pv (.str [110,97,109,101])) fun t19 =>
 (guardD t19 true
 (lock loadD prog s5 83 t1 fun t21 =>
 (env 74 [t21,(.pv (.int .i64 1))] s5 (fun t22 s6 =>
 (env 81 [(.pv (.str [105,110]))] s6 (fun t23 s7 =>
 (lock binD prog .eql 53 t22 t23 fun t24 =>
 (guardD t24 true
 (lock loadD prog s7 83 t1 fun t27 =>
 (env 74 [t27,(.pv (.int .i64 2))] s7 (fun t28 s8 =>
 (lock fieldD prog 53 t28 0 fun t29 =>
 (lock binD prog .eql 9 t29 (.pv (.str [110,97,109,101])) fun t30 =>
 (guardD t30 true
 (lock loadD prog s8 83 t1 fun t33 =>
 (env 74 [t33,(.pv (.int .i64 3))] s8 (fun t34 s9 =>
 (env 75 [(.pv (.str [41]))] s9 (fun t35 s10 =>
 (lock binD prog .eql 53 t34 t35 fun t36 =>
 (J161_3 env  (t1) (t2) (t36) s10 K X))) (panV X))) (panV X)))
 (J161_3 env  (t1) (t2) (.pv (.bool false)) s8 K X))))) (panV X)))
 (J161_3 env  (t1) (t2) (.pv (.bool false)) s7 K X)))) (panV X))) (panV X)))
 (J161_3 env  (t1) (t2) (.pv (.bool false)) s5 K X))))) (panV X)))) (panV X))/\True))/\True)) (panV X))/\True))))
theorem S161_eq (env:Env) (p0_a:AV) (s:AS) (K:AV->AS->Prop) (X:PV->AS->Prop):S161 env p0_a s K X=bodyD prog env an161 f161 [p0_a] s K X:=by
  unfold S161
  kernel_rfl
theorem S161_ok:(match f161.body with | some c=>okCode an161 prog f161.ntmps c | none=>false)=true:=by kernel_rfl
def an180:An:={ mu:=[],cut:=[],loop:=[] }
def S180 (env:Env) (t0_a:AV) (s:AS) (K:AV->AS->Prop) (X:PV->AS->Prop):Prop :=
 (lock allocD prog s 50 fun t1 s1 =>
 (lock loadD prog s1 83 t0_a fun t2 =>
 (env 84 [t2,(.pv (.int .i64 1)),(.pv (.bool false))] s1 (fun t3 s2 =>
 (lock storeD prog s2 50 t1 t3 fun s3 =>
 (lock loadD prog s3 50 t1 fun r0 =>
 (retV (r0) s3 K)))) (panV X))))
theorem S180_eq (env:Env) (t0_a:AV) (s:AS) (K:AV->AS->Prop) (X:PV->AS->Prop):S180 env t0_a s K X=bodyD prog env an180 f180 [t0_a] s K X:=by
  unfold S180
  kernel_rfl
theorem S180_ok:(match f180.body with | some c=>okCode an180 prog f180.ntmps c | none=>false)=true:=by kernel_rfl
def an127:An:={ mu:=[],cut:=[(15,[0,2,8])],loop:=[],any:=[2,16] }
def J127_15 (env:Env)  (p0_j15 t2_j15 s8_j15:AV) (s:AS) (K:AV->AS->Prop) (X:PV->AS->Prop):Prop :=
 (env 81 [(.pv (.str [119,104,105,108,101]))] s (fun t64 s34 =>
 (env 126 [p0_j15,t64] s34 (fun t65 s35 =>
 ((lock loadD prog s35 50 s8_j15 fun t66 =>
 ((env 159 [p0_j15] s35 (fun t68 s40 =>
 ((lock buildSliceD prog false s40 23 2 2 [(0,t66),(1,t68)] fun t69 s41 =>
 ((env 82 [(.pv (.str [100,111])),(.pv (.str [])),t69] s41 (fun t70 s42 =>
 ((lock storeD prog s42 50 t2_j15 t70 fun s43 =>
 (lock loadD prog s43 50 t2_j15 fun r0 =>
 (retV (.tuple [r0,(.pv (.bool true))]) s43 K)))/\True)) (panV X))/\True))/\True)) (panV X))/\True))/\((env 159 [p0_j15] s35 (fun t68 s36 =>
 ((lock loadD prog s36 50 s8_j15 fun t66 =>
 ((lock buildSliceD prog false s36 23 2 2 [(0,t66),(1,t68)] fun t69 s37 =>
 ((env 82 [(.pv (.str [100,111])),(.pv (.str [])),t69] s37 (fun t70 s38 =>
 ((lock storeD prog s38 50 t2_j15 t70 fun s39 =>
 (lock loadD prog s39 50 t2_j15 fun r0 =>
 (retV (.tuple [r0,(.pv (.bool true))]) s39 K)))/\True)) (panV X))/\True))/\True))/\True)) (panV X))/\True))) (panV X))) (panV X))
def S127 (env:Env) (p0_a:AV) (s:AS) (K:AV->AS->Prop) (X:PV->AS->Prop):Prop :=
 (lock allocD prog s 50 fun t2 s1 =>
 (env 74 [p0_a,(.pv (.int .i64 0))] s1 (fun t11 s2 =>
 (lock allocD prog s2 53 fun t4 s3 =>
 (lock storeD prog s3 53 t4 t11 fun s4 =>
 ((lock loadD prog s4 53 t4 fun t13 =>
 ((env 75 [(.pv (.str [123]))] s4 (fun t14 s51 =>
 ((lock binD prog .eql 53 t13 t14 fun t15 =>
 (condD t15
 (env 78 [p0_a] s51 (fun t17 s52 =>
 (lock storeD prog s52 50 t2 t17 fun s53 =>
 (lock loadD prog s53 50 t2 fun r0 =>
 (retV (.tuple [r0,(.pv (.bool false))]) s53 K)))) (panV X))
 (env 75 [(.pv (.str [59]))] s51 (fun t20 s54 =>
 (env 80 [p0_a,t20] s54 (fun t21 s55 =>
 (condD t21
 (env 79 [] s55 (fun t22 s56 =>
 (lock storeD prog s56 50 t2 t22 fun s57 =>
 (lock loadD prog s57 50 t2 fun r0 =>
 (retV (.tuple [r0,(.pv (.bool false))]) s57 K)))) (panV X))
 (env 81 [(.pv (.str [105,102]))] s55 (fun t25 s58 =>
 (env 80 [p0_a,t25] s58 (fun t26 s59 =>
 (condD t26
 (env 158 [p0_a] s59 (fun t28 s60 =>
 (lock extractD t28 0 fun t29 =>
 (lock extractD t28 1 fun t30 =>
 (lock storeD prog s60 50 t2 t29 fun s61 =>
 (lock loadD prog s61 50 t2 fun r0 =>
 (retV (.tuple [r0,t30]) s61 K)))))) (panV X))
 (env 81 [(.pv (.str [119,104,105,108,101]))] s59 (fun t33 s62 =>
 (env 80 [p0_a,t33] s62 (fun t34 s63 =>
 (condD t34
 (env 159 [p0_a] s63 (fun t36 s64 =>
 (lock allocD prog s64 50 fun t5 s65 =>
 (lock storeD prog s65 50 t5 t36 fun s66 =>
 (env 160 [p0_a] s66 (fun t39 s67 =>
 (lock extractD t39 0 fun t40 =>
 (lock extractD t39 1 fun t41 =>
 (lock allocD prog s67 50 fun t6 s68 =>
 (lock storeD prog s68 50 t6 t40 fun s69 =>
 (lock loadD prog s69 50 t5 fun t42 =>
 (lock loadD prog s69 50 t6 fun t43 =>
 (lock buildSliceD prog false s69 23 2 2 [(0,t42),(1,t43)] fun t44 s70 =>
 (env 82 [(.pv (.str [119,104,105,108,101])),(.pv (.str [])),t44] s70 (fun t45 s71 =>
 (lock storeD prog s71 50 t2 t45 fun s72 =>
 (lock loadD prog s72 50 t2 fun r0 =>
 (retV (.tuple [r0,t41]) s72 K)))) (panV X)))))))))) (panV X))))) (panV X))
 (env 81 [(.pv (.str [100,111]))] s63 (fun t49 s73 =>
 (env 80 [p0_a,t49] s73 (fun t50 s74 =>
 (condD t50
 (env 160 [p0_a] s74 (fun t53 s75 =>
 (lock extractD t53 0 fun t54 =>
 (lock extractD t53 1 fun t55 =>
 (lock allocD prog s75 50 fun t8 s76 =>
 (lock storeD prog s76 50 t8 t54 fun s77 =>
 (env 36 [p0_a] s77 (fun t57 s78 =>
 (guardD t57 false
 (unD .not t55 fun t60 =>
 (env 35 [t60] s78 (fun t62 s79 =>
 (J127_15 env  (p0_a) (t2) (t8) s79 K X)) (panV X)))
 (env 35 [(.pv (.bool true))] s78 (fun t62 s80 =>
 (J127_15 env  (p0_a) (t2) (t8) s80 K X)) (panV X)))) (panV X))))))) (panV X))
 (env 81 [(.pv (.str [102,111,114]))] s74 (fun t73 s81 =>
 (env 80 [p0_a,t73] s81 (fun t74 s82 =>
 (condD t74
 (env 161 [p0_a] s82 (fun t76 s83 =>
 (lock extractD t76 0 fun t77 =>
 (lock extractD t76 1 fun t78 =>
 (lock storeD prog s83 50 t2 t77 fun s84 =>
 (lock loadD prog s84 50 t2 fun r0 =>
 (retV (.tuple [r0,t78]) s84 K)))))) (panV X))
 (env 162 [p0_a] s82 (fun t80 s85 =>
 (lock storeD prog s85 50 t2 t80 fun s86 =>
 (lock loadD prog s86 50 t2 fun r0 =>
 (retV (.tuple [r0,(.pv (.bool true))]) s86 K)))) (panV X)))) (panV X))) (panV X)))) (panV X))) (panV X)))) (panV X))) (panV X)))) (panV X))) (panV X)))) (panV X))) (panV X))))/\True)) (panV X))/\True))/\((env 75 [(.pv (.str [123]))] s4 (fun t14 s5 =>
 ((lock loadD prog s5 53 t4 fun t13 =>
 ((lock binD prog .eql 53 t13 t14 fun t15 =>
 (condD t15
 (env 78 [p0_a] s5 (fun t17 s6 =>
 (lock storeD prog s6 50 t2 t17 fun s7 =>
 (lock loadD prog s7 50 t2 fun r0 =>
 (retV (.tuple [r0,(.pv (.bool false))]) s7 K)))) (panV X))
 (env 75 [(.pv (.str [59]))] s5 (fun t20 s8 =>
 (env 80 [p0_a,t20] s8 (fun t21 s9 =>
 (condD t21
 (env 79 [] s9 (fun t22 s10 =>
 (lock storeD prog s10 50 t2 t22 fun s11 =>
 (lock loadD prog s11 50 t2 fun r0 =>
 (retV (.tuple [r0,(.pv (.bool false))]) s11 K)))) (panV X))
 (env 81 [(.pv (.str [105,102]))] s9 (fun t25 s12 =>
 (env 80 [p0_a,t25] s12 (fun t26 s13 =>
 (condD t26
 (env 158 [p0_a] s13 (fun t28 s14 =>
 (lock extractD t28 0 fun t29 =>
 (lock extractD t28 1 fun t30 =>
 (lock storeD prog s14 50 t2 t29 fun s15 =>
 (lock loadD prog s15 50 t2 fun r0 =>
 (retV (.tuple [r0,t30]) s15 K)))))) (panV X))
 (env 81 [(.pv (.str [119,104,105,108,101]))] s13 (fun t33 s16 =>
 (env 80 [p0_a,t33] s16 (fun t34 s17 =>
 (condD t34
 (env 159 [p0_a] s17 (fun t36 s18 =>
 (lock allocD prog s18 50 fun t5 s19 =>
 (lock storeD prog s19 50 t5 t36 fun s20 =>
 (env 160 [p0_a] s20 (fun t39 s21 =>
 (lock extractD t39 0 fun t40 =>
 (lock extractD t39 1 fun t41 =>
 (lock allocD prog s21 50 fun t6 s22 =>
 (lock storeD prog s22 50 t6 t40 fun s23 =>
 (lock loadD prog s23 50 t5 fun t42 =>
 (lock loadD prog s23 50 t6 fun t43 =>
 (lock buildSliceD prog false s23 23 2 2 [(0,t42),(1,t43)] fun t44 s24 =>
 (env 82 [(.pv (.str [119,104,105,108,101])),(.pv (.str [])),t44] s24 (fun t45 s25 =>
 (lock storeD prog s25 50 t2 t45 fun s26 =>
 (lock loadD prog s26 50 t2 fun r0 =>
 (retV (.tuple [r0,t41]) s26 K)))) (panV X)))))))))) (panV X))))) (panV X))
 (env 81 [(.pv (.str [100,111]))] s17 (fun t49 s27 =>
 (env 80 [p0_a,t49] s27 (fun t50 s28 =>
 (condD t50
 (env 160 [p0_a] s28 (fun t53 s29 =>
 (lock extractD t53 0 fun t54 =>
 (lock extractD t53 1 fun t55 =>
 (lock allocD prog s29 50 fun t8 s30 =>
 (lock storeD prog s30 50 t8 t54 fun s31 =>
 (env 36 [p0_a] s31 (fun t57 s32 =>
 (guardD t57 false
 (unD .not t55 fun t60 =>
 (env 35 [t60] s32 (fun t62 s33 =>
 (J127_15 env  (p0_a) (t2) (t8) s33 K X)) (panV X)))
 (env 35 [(.pv (.bool true))] s32 (fun t62 s44 =>
 (J127_15 env  (p0_a) (t2) (t8) s44 K X)) (panV X)))) (panV X))))))) (panV X))
 (env 81 [(.pv (.str [102,111,114]))] s28 (fun t73 s45 =>
 (env 80 [p0_a,t73] s45 (fun t74 s46 =>
 (condD t74
 (env 161 [p0_a] s46 (fun t76 s47 =>
 (lock extractD t76 0 fun t77 =>
 (lock extractD t76 1 fun t78 =>
 (lock storeD prog s47 50 t2 t77 fun s48 =>
 (lock loadD prog s48 50 t2 fun r0 =>
 (retV (.tuple [r0,t78]) s48 K)))))) (panV X))
 (env 162 [p0_a] s46 (fun t80 s49 =>
 (lock storeD prog s49 50 t2 t80 fun s50 =>
 (lock loadD prog s50 50 t2 fun r0 =>
 (retV (.tuple [r0,(.pv (.bool true))]) s50 K)))) (panV X)))) (panV X))) (panV X)))) (panV X))) (panV X)))) (panV X))) (panV X)))) (panV X))) (panV X)))) (panV X))) (panV X))))/\True))/\True)) (panV X))/\True))))) (panV X)))
theorem S127_eq (env:Env) (p0_a:AV) (s:AS) (K:AV->AS->Prop) (X:PV->AS->Prop):S127 env p0_a s K X=bodyD prog env an127 f127 [p0_a] s K X:=by
  unfold S127
  kernel_rfl
theorem S127_ok:(match f127.body with | some c=>okCode an127 prog f127.ntmps c | none=>false)=true:=by kernel_rfl
def an78:An:={ mu:=[],cut:=[],loop:=[(4,[0,2,3])] }
def L78_4 (env:Env) (I4:Nat->List AV->AS->Prop) (m4:Nat) (p0_l4 t2_l4 l3_l4:AV) (s:AS) (K:AV->AS->Prop) (X:PV->AS->Prop):Prop :=
 (env 75 [(.pv (.str [125]))] s (fun t12 s6 =>
 (env 80 [p0_l4,t12] s6 (fun t13 s7 =>
 (unD .not t13 fun t14 =>
 (condD t14
 (env 127 [p0_l4] s7 (fun t17 s8 =>
 (lock extractD t17 0 fun t18 =>
 (lock extractD t17 1 fun t19 =>
 (lock allocD prog s8 50 fun t4 s9 =>
 (lock storeD prog s9 50 t4 t18 fun s10 =>
 (lock loadD prog s10 50 t4 fun t21 =>
 (lock buildSliceD prog false s10 23 1 1 [(0,t21)] fun t22 s11 =>
 (lock appendD prog false s11 23 l3_l4 t22 fun t23 s12 =>
 (env 36 [p0_l4] s12 (fun t25 s13 =>
 (guardD t25 false
 (unD .not t19 fun t28 =>
 (guardD t28 false
 (env 74 [p0_l4,(.pv (.int .i64 0))] s13 (fun t32 s14 =>
 (env 75 [(.pv (.str [125]))] s14 (fun t33 s15 =>
 (lock binD prog .eql 53 t32 t33 fun t34 =>
 (env 35 [t34] s15 (fun t36 s16 =>
 (∃ m',m' < m4/\I4 m' [p0_l4,t2_l4,t23] s16)) (panV X)))) (panV X))) (panV X))
 (env 35 [(.pv (.bool true))] s13 (fun t36 s17 =>
 (∃ m',m' < m4/\I4 m' [p0_l4,t2_l4,t23] s17)) (panV X))))
 (env 35 [(.pv (.bool true))] s13 (fun t36 s18 =>
 (∃ m',m' < m4/\I4 m' [p0_l4,t2_l4,t23] s18)) (panV X)))) (panV X)))))))))) (panV X))
 (env 82 [(.pv (.str [98,108,111,99,107])),(.pv (.str [])),l3_l4] s7 (fun t38 s19 =>
 (lock storeD prog s19 50 t2_l4 t38 fun s20 =>
 (lock loadD prog s20 50 t2_l4 fun r0 =>
 (retV (r0) s20 K)))) (panV X))))) (panV X))) (panV X))
theorem L78_4_eq (env:Env) (I4:Nat->List AV->AS->Prop) (m4:Nat) (p0_l4 t2_l4 l3_l4:AV) (s:AS) (K:AV->AS->Prop) (X:PV->AS->Prop):L78_4 env I4 m4 p0_l4 t2_l4 l3_l4 s K X=wpD prog env an78 (subC (bodyC f78) [1,1,1,1,0,0,0]) (contQ prog env an78 (bodyC f78) [1,1,1,1,0,0,0] [(I4,m4)] (rootQ prog f78 K X)) [(0,p0_l4),(2,t2_l4),(3,l3_l4)] s:=by
  unfold L78_4
  kernel_rfl
theorem lp78_4 {α:Type} {env:Env}  {p0_l4 t2_l4:AV} {s:AS} {K:AV->AS->Prop} {X:PV->AS->Prop} (μ:α->AS->Nat) (I:α->AS->Prop) (el3_l4:α->AV) (a0:α) (h0:I a0 s)
 (h:∀ a s,I a s->L78_4 env  (Inv (fun a=>[p0_l4,t2_l4,el3_l4 a]) μ I) (μ a s) p0_l4 t2_l4 (el3_l4 a) s K X) :
 ∃ I4:Nat->List AV->AS->Prop,(∃ m,I4 m [p0_l4,t2_l4,el3_l4 a0] s)/\∀ (m:Nat) (x0 x1 x2:AV),∀ s,I4 m [x0,x1,x2] s ->
 L78_4 env  I4 m x0 x1 x2 s K X:=by
  refine ⟨Inv (fun a=>[p0_l4,t2_l4,el3_l4 a]) μ I,⟨_,a0,rfl,rfl,h0⟩,?_⟩
  rintro m x0 x1 x2 s' ⟨a,hv,rfl,hI⟩
  simp only [List.cons.injEq,and_true] at hv
  obtain ⟨rfl,rfl,rfl⟩:=hv
  exact h a s' hI
def S78 (env:Env) (p0_a:AV) (s:AS) (K:AV->AS->Prop) (X:PV->AS->Prop):Prop :=
 (lock allocD prog s 50 fun t2 s1 =>
 (env 75 [(.pv (.str [123]))] s1 (fun t7 s2 =>
 (env 126 [p0_a,t7] s2 (fun t8 s3 =>
 (env 36 [p0_a] s3 (fun t10 s4 =>
 (∃ I4:Nat->List AV->AS->Prop,(∃ m,I4 m [p0_a,t2,(.nilS)] s4)/\∀ (m4:Nat) (p0_l4 t2_l4 l3_l4:AV),∀ s5,I4 m4 [p0_l4,t2_l4,l3_l4] s5 ->
 (L78_4 env I4 m4 p0_l4 t2_l4 l3_l4 s5 K X))) (panV X))) (panV X))) (panV X)))
theorem S78_eq (env:Env) (p0_a:AV) (s:AS) (K:AV->AS->Prop) (X:PV->AS->Prop):S78 env p0_a s K X=bodyD prog env an78 f78 [p0_a] s K X:=by
  unfold S78
  simp only [L78_4_eq]
  kernel_rfl
theorem S78_ok:(match f78.body with | some c=>okCode an78 prog f78.ntmps c | none=>false)=true:=by kernel_rfl
def an83:An:={ mu:=[],cut:=[(10,[0,2,3,4]),(12,[0,2,3,4])],loop:=[(6,[0,2,3,4,5])] }
def J83_10 (env:Env) (I6:Nat->List AV->AS->Prop) (m6:Nat) (p0_j10 t2_j10 name3_j10 l4_j10:AV) (s:AS) (K:AV->AS->Prop) (X:PV->AS->Prop):Prop :=
 (lock buildSliceD prog false s 26 1 1 [(0,(.pv (.str [110,97,109,101])))] fun t27 s10 =>
 (env 128 [p0_j10,t27] s10 (fun t28 s11 =>
 (env 82 [(.pv (.str [118,97,114])),t28,(.nilS)] s11 (fun t29 s12 =>
 (lock buildSliceD prog false s12 23 1 1 [(0,t29)] fun t30 s13 =>
 (lock appendD prog false s13 23 l4_j10 t30 fun t31 s14 =>
 (env 75 [(.pv (.str [44]))] s14 (fun t18 s15 =>
 (env 80 [p0_j10,t18] s15 (fun t19 s16 =>
 (∃ m',m' < m6/\I6 m' [p0_j10,t2_j10,name3_j10,t31,t19] s16)) (panV X))) (panV X))))) (panV X))) (panV X)))
def J83_12 (env:Env)  (p0_j12 t2_j12 name3_j12 l4_j12:AV) (s:AS) (K:AV->AS->Prop) (X:PV->AS->Prop):Prop :=
 (env 85 [p0_j12] s (fun t36 s19 =>
 (env 82 [(.pv (.str [112,97,114,97,109,115])),(.pv (.str [])),l4_j12] s19 (fun t39 s20 =>
 (env 78 [p0_j12] s20 (fun t41 s21 =>
 (lock buildSliceD prog false s21 23 2 2 [(0,t39),(1,t41)] fun t42 s22 =>
 (env 82 [(.pv (.str [102,117,110,99])),name3_j12,t42] s22 (fun t43 s23 =>
 (lock storeD prog s23 50 t2_j12 t43 fun s24 =>
 (lock loadD prog s24 50 t2_j12 fun r0 =>
 (retV (r0) s24 K)))) (panV X)))) (panV X))) (panV X))) (panV X))
def L83_6 (env:Env) (I6:Nat->List AV->AS->Prop) (m6:Nat) (p0_l6 t2_l6 name3_l6 l4_l6 more5_l6:AV) (s:AS) (K:AV->AS->Prop) (X:PV->AS->Prop):Prop :=
 (condD more5_l6
 (lock lenD prog 23 l4_l6 fun t21 =>
 (lock binD prog .gtr 3 t21 (.pv (.int .i64 0)) fun t22 =>
 (condD t22
 (env 85 [p0_l6] s (fun t24 s9 =>
 (J83_10 env I6 m6 (p0_l6) (t2_l6) (name3_l6) (l4_l6) s9 K X)) (panV X))
 (J83_10 env I6 m6 (p0_l6) (t2_l6) (name3_l6) (l4_l6) s K X))))
 (env 75 [(.pv (.str [41]))] s (fun t33 s17 =>
 (env 126 [p0_l6,t33] s17 (fun t34 s18 =>
 (J83_12 env  (p0_l6) (t2_l6) (name3_l6) (l4_l6) s18 K X)) (panV X))) (panV X)))
theorem L83_6_eq (env:Env) (I6:Nat->List AV->AS->Prop) (m6:Nat) (p0_l6 t2_l6 name3_l6 l4_l6 more5_l6:AV) (s:AS) (K:AV->AS->Prop) (X:PV->AS->Prop):L83_6 env I6 m6 p0_l6 t2_l6 name3_l6 l4_l6 more5_l6 s K X=wpD prog env an83 (subC (bodyC f83) [1,1,1,1,0,1,0,0,1,0,0]) (contQ prog env an83 (bodyC f83) [1,1,1,1,0,1,0,0,1,0,0] [(I6,m6)] (rootQ prog f83 K X)) [(0,p0_l6),(2,t2_l6),(3,name3_l6),(4,l4_l6),(5,more5_l6)] s:=by
  unfold L83_6
  kernel_rfl
theorem lp83_6 {α:Type} {env:Env}  {p0_l6 t2_l6 name3_l6:AV} {s:AS} {K:AV->AS->Prop} {X:PV->AS->Prop} (μ:α->AS->Nat) (I:α->AS->Prop) (el4_l6 emore5_l6:α->AV) (a0:α) (h0:I a0 s)
 (h:∀ a s,I a s->L83_6 env  (Inv (fun a=>[p0_l6,t2_l6,name3_l6,el4_l6 a,emore5_l6 a]) μ I) (μ a s) p0_l6 t2_l6 name3_l6 (el4_l6 a) (emore5_l6 a) s K X) :
 ∃ I6:Nat->List AV->AS->Prop,(∃ m,I6 m [p0_l6,t2_l6,name3_l6,el4_l6 a0,emore5_l6 a0] s)/\∀ (m:Nat) (x0 x1 x2 x3 x4:AV),∀ s,I6 m [x0,x1,x2,x3,x4] s ->
 L83_6 env  I6 m x0 x1 x2 x3 x4 s K X:=by
  refine ⟨Inv (fun a=>[p0_l6,t2_l6,name3_l6,el4_l6 a,emore5_l6 a]) μ I,⟨_,a0,rfl,rfl,h0⟩,?_⟩
  rintro m x0 x1 x2 x3 x4 s' ⟨a,hv,rfl,hI⟩
  simp only [List.cons.injEq,and_true] at hv
  obtain ⟨rfl,rfl,rfl,rfl,rfl⟩:=hv
  exact h a s' hI
def S83 (env:Env) (p0_a:AV) (s:AS) (K:AV->AS->Prop) (X:PV->AS->Prop):Prop :=
 (lock allocD prog s 50 fun t2 s1 =>
 (lock buildSliceD prog false s1 26 2 2 [(0,(.pv (.str [110,97,109,101]))),(1,(.pv (.str [102,117,110,99])))] fun t7 s2 =>
 (env 128 [p0_a,t7] s2 (fun t8 s3 =>
 (env 75 [(.pv (.str [40]))] s3 (fun t10 s4 =>
 (env 126 [p0_a,t10] s4 (fun t11 s5 =>
 (env 75 [(.pv (.str [41]))] s5 (fun t13 s6 =>
 (env 80 [p0_a,t13] s6 (fun t14 s7 =>
 (unD .not t14 fun t15 =>
 (condD t15
 (∃ I6:Nat->List AV->AS->Prop,(∃ m,I6 m [p0_a,t2,t8,(.nilS),(.pv (.bool true))] s7)/\∀ (m6:Nat) (p0_l6 t2_l6 name3_l6 l4_l6 more5_l6:AV),∀ s8,I6 m6 [p0_l6,t2_l6,name3_l6,l4_l6,more5_l6] s8 ->
 (L83_6 env I6 m6 p0_l6 t2_l6 name3_l6 l4_l6 more5_l6 s8 K X))
 (J83_12 env  (p0_a) (t2) (t8) (.nilS) s7 K X)))) (panV X))) (panV X))) (panV X))) (panV X))) (panV X))))
theorem S83_eq (env:Env) (p0_a:AV) (s:AS) (K:AV->AS->Prop) (X:PV->AS->Prop):S83 env p0_a s K X=bodyD prog env an83 f83 [p0_a] s K X:=by
  unfold S83
  simp only [L83_6_eq]
  kernel_rfl
theorem S83_ok:(match f83.body with | some c=>okCode an83 prog f83.ntmps c | none=>false)=true:=by kernel_rfl
def an37:An:={ mu:=[],cut:=[],loop:=[],any:=[2,4,6,9,11] }
def S37 (env:Env) (p0_a:AV) (s:AS) (K:AV->AS->Prop) (X:PV->AS->Prop):Prop :=
 (lock boxD s p0_a fun t1 s1 =>
 (lock allocD prog s1 50 fun t2 s2 =>
 ((lock loadD prog s2 83 t1 fun t13 =>
 ((env 81 [(.pv (.str [66,69,71,73,78]))] s2 (fun t14 s241 =>
 ((env 80 [t13,t14] s241 (fun t15 s242 =>
 (condD t15
 (lock loadD prog s242 83 t1 fun t16 =>
 (env 78 [t16] s242 (fun t17 s243 =>
 (lock buildSliceD prog false s243 23 1 1 [(0,t17)] fun t18 s244 =>
 (env 82 [(.pv (.str [66,69,71,73,78])),(.pv (.str [])),t18] s244 (fun t19 s245 =>
 (lock storeD prog s245 50 t2 t19 fun s246 =>
 (lock loadD prog s246 50 t2 fun r0 =>
 (retV (.tuple [r0,(.pv (.bool false))]) s246 K)))) (panV X)))) (panV X)))
 ((lock loadD prog s242 83 t1 fun t21 =>
 ((env 81 [(.pv (.str [69,78,68]))] s242 (fun t22 s363 =>
 ((env 80 [t21,t22] s363 (fun t23 s364 =>
 (condD t23
 (lock loadD prog s364 83 t1 fun t24 =>
 (env 78 [t24] s364 (fun t25 s365 =>
 (lock buildSliceD prog false s365 23 1 1 [(0,t25)] fun t26 s366 =>
 (env 82 [(.pv (.str [69,78,68])),(.pv (.str [])),t26] s366 (fun t27 s367 =>
 (lock storeD prog s367 50 t2 t27 fun s368 =>
 (lock loadD prog s368 50 t2 fun r0 =>
 (retV (.tuple [r0,(.pv (.bool false))]) s368 K)))) (panV X)))) (panV X)))
 ((lock loadD prog s364 83 t1 fun t29 =>
 ((env 81 [(.pv (.str [102,117,110,99,116,105,111,110]))] s364 (fun t30 s424 =>
 ((env 80 [t29,t30] s424 (fun t31 s425 =>
 (condD t31
 (lock loadD prog s425 83 t1 fun t32 =>
 (env 83 [t32] s425 (fun t33 s426 =>
 (lock storeD prog s426 50 t2 t33 fun s427 =>
 (lock loadD prog s427 50 t2 fun r0 =>
 (retV (.tuple [r0,(.pv (.bool false))]) s427 K)))) (panV X)))
 (lock loadD prog s425 83 t1 fun t35 =>
 (env 74 [t35,(.pv (.int .i64 0))] s425 (fun t36 s428 =>
 (env 75 [(.pv (.str [123]))] s428 (fun t37 s429 =>
 (lock binD prog .eql 53 t36 t37 fun t38 =>
 (condD t38
 ((env 79 [] s429 (fun t39 s435 =>
 ((lock loadD prog s435 83 t1 fun t40 =>
 ((env 78 [t40] s435 (fun t41 s436 =>
 ((lock buildSliceD prog false s436 23 2 2 [(0,t39),(1,t41)] fun t42 s437 =>
 ((env 82 [(.pv (.str [114,117,108,101])),(.pv (.str [])),t42] s437 (fun t43 s438 =>
 ((lock storeD prog s438 50 t2 t43 fun s439 =>
 (lock loadD prog s439 50 t2 fun r0 =>
 (retV (.tuple [r0,(.pv (.bool false))]) s439 K)))/\True)) (panV X))/\True))/\True)) (panV X))/\True))/\True)) (panV X))/\((lock loadD prog s429 83 t1 fun t40 =>
 ((env 79 [] s429 (fun t39 s430 =>
 ((env 78 [t40] s430 (fun t41 s431 =>
 ((lock buildSliceD prog false s431 23 2 2 [(0,t39),(1,t41)] fun t42 s432 =>
 ((env 82 [(.pv (.str [114,117,108,101])),(.pv (.str [])),t42] s432 (fun t43 s433 =>
 ((lock storeD prog s433 50 t2 t43 fun s434 =>
 (lock loadD prog s434 50 t2 fun r0 =>
 (retV (.tuple [r0,(.pv (.bool false))]) s434 K)))/\True)) (panV X))/\True))/\True)) (panV X))/\True)) (panV X))/\True))/\True))
 (lock loadD prog s429 83 t1 fun t44 =>
 (env 84 [t44,(.pv (.int .i64 1)),(.pv (.bool false))] s429 (fun t45 s440 =>
 (lock allocD prog s440 50 fun t5 s441 =>
 (lock storeD prog s441 50 t5 t45 fun s442 =>
 ((lock loadD prog s442 83 t1 fun t46 =>
 ((env 75 [(.pv (.str [44]))] s442 (fun t47 s461 =>
 ((env 80 [t46,t47] s461 (fun t48 s462 =>
 (condD t48
 (lock loadD prog s462 83 t1 fun t49 =>
 (env 85 [t49] s462 (fun t50 s463 =>
 (lock loadD prog s463 83 t1 fun t51 =>
 (env 84 [t51,(.pv (.int .i64 1)),(.pv (.bool false))] s463 (fun t52 s464 =>
 (lock allocD prog s464 50 fun t6 s465 =>
 (lock storeD prog s465 50 t6 t52 fun s466 =>
 (callD env (.clo 77 [] [t1]) [] s466 (fun t55 s467 =>
 (lock extractD t55 0 fun t56 =>
 (lock extractD t55 1 fun t57 =>
 (lock allocD prog s467 50 fun t7 s468 =>
 (lock storeD prog s468 50 t7 t56 fun s469 =>
 (lock loadD prog s469 50 t5 fun t58 =>
 (lock loadD prog s469 50 t6 fun t59 =>
 (lock loadD prog s469 50 t7 fun t60 =>
 (lock buildSliceD prog false s469 23 3 3 [(0,t58),(1,t59),(2,t60)] fun t61 s470 =>
 (env 82 [(.pv (.str [114,97,110,103,101])),(.pv (.str [])),t61] s470 (fun t62 s471 =>
 (lock storeD prog s471 50 t2 t62 fun s472 =>
 (lock loadD prog s472 50 t2 fun r0 =>
 (retV (.tuple [r0,t57]) s472 K)))) (panV X))))))))))) (panV X))))) (panV X)))) (panV X)))
 (callD env (.clo 77 [] [t1]) [] s462 (fun t66 s473 =>
 (lock extractD t66 0 fun t67 =>
 (lock extractD t66 1 fun t68 =>
 (lock allocD prog s473 50 fun t9 s474 =>
 (lock storeD prog s474 50 t9 t67 fun s475 =>
 (lock loadD prog s475 50 t5 fun t69 =>
 (lock loadD prog s475 50 t9 fun t70 =>
 (lock buildSliceD prog false s475 23 2 2 [(0,t69),(1,t70)] fun t71 s476 =>
 (env 82 [(.pv (.str [114,117,108,101])),(.pv (.str [])),t71] s476 (fun t72 s477 =>
 (lock storeD prog s477 50 t2 t72 fun s478 =>
 (lock loadD prog s478 50 t2 fun r0 =>
 (retV (.tuple [r0,t68]) s478 K)))) (panV X)))))))))) (panV X)))) (panV X))/\True)) (panV X))/\True))/\((env 75 [(.pv (.str [44]))] s442 (fun t47 s443 =>
 ((lock loadD prog s443 83 t1 fun t46 =>
 ((env 80 [t46,t47] s443 (fun t48 s444 =>
 (condD t48
 (lock loadD prog s444 83 t1 fun t49 =>
 (env 85 [t49] s444 (fun t50 s445 =>
 (lock loadD prog s445 83 t1 fun t51 =>
 (env 84 [t51,(.pv (.int .i64 1)),(.pv (.bool false))] s445 (fun t52 s446 =>
 (lock allocD prog s446 50 fun t6 s447 =>
 (lock storeD prog s447 50 t6 t52 fun s448 =>
 (callD env (.clo 77 [] [t1]) [] s448 (fun t55 s449 =>
 (lock extractD t55 0 fun t56 =>
 (lock extractD t55 1 fun t57 =>
 (lock allocD prog s449 50 fun t7 s450 =>
 (lock storeD prog s450 50 t7 t56 fun s451 =>
 (lock loadD prog s451 50 t5 fun t58 =>
 (lock loadD prog s451 50 t6 fun t59 =>
 (lock loadD prog s451 50 t7 fun t60 =>
 (lock buildSliceD prog false s451 23 3 3 [(0,t58),(1,t59),(2,t60)] fun t61 s452 =>
 (env 82 [(.pv (.str [114,97,110,103,101])),(.pv (.str [])),t61] s452 (fun t62 s453 =>
 (lock storeD prog s453 50 t2 t62 fun s454 =>
 (lock loadD prog s454 50 t2 fun r0 =>
 (retV (.tuple [r0,t57]) s454 K)))) (panV X))))))))))) (panV X))))) (panV X)))) (panV X)))
 (callD env (.clo 77 [] [t1]) [] s444 (fun t66 s455 =>
 (lock extractD t66 0 fun t67 =>
 (lock extractD t66 1 fun t68 =>
 (lock allocD prog s455 50 fun t9 s456 =>
 (lock storeD prog s456 50 t9 t67 fun s457 =>
 (lock loadD prog s457 50 t5 fun t69 =>
 (lock loadD prog s457 50 t9 fun t70 =>
 (lock buildSliceD prog false s457 23 2 2 [(0,t69),(1,t70)] fun t71 s458 =>
 (env 82 [(.pv (.str [114,117,108,101])),(.pv (.str [])),t71] s458 (fun t72 s459 =>
 (lock storeD prog s459 50 t2 t72 fun s460 =>
 (lock loadD prog s460 50 t2 fun r0 =>
 (retV (.tuple [r0,t68]) s460 K)))) (panV X)))))))))) (panV X)))) (panV X))/\True))/\True)) (panV X))/\True))))) (panV X)))))) (panV X))) (panV X))))) (panV X))/\True)) (panV X))/\True))/\((env 81 [(.pv (.str [102,117,110,99,116,105,111,110]))] s364 (fun t30 s369 =>
 ((lock loadD prog s369 83 t1 fun t29 =>
 ((env 80 [t29,t30] s369 (fun t31 s370 =>
 (condD t31
 (lock loadD prog s370 83 t1 fun t32 =>
 (env 83 [t32] s370 (fun t33 s371 =>
 (lock storeD prog s371 50 t2 t33 fun s372 =>
 (lock loadD prog s372 50 t2 fun r0 =>
 (retV (.tuple [r0,(.pv (.bool false))]) s372 K)))) (panV X)))
 (lock loadD prog s370 83 t1 fun t35 =>
 (env 74 [t35,(.pv (.int .i64 0))] s370 (fun t36 s373 =>
 (env 75 [(.pv (.str [123]))] s373 (fun t37 s374 =>
 (lock binD prog .eql 53 t36 t37 fun t38 =>
 (condD t38
 ((env 79 [] s374 (fun t39 s380 =>
 ((lock loadD prog s380 83 t1 fun t40 =>
 ((env 78 [t40] s380 (fun t41 s381 =>
 ((lock buildSliceD prog false s381 23 2 2 [(0,t39),(1,t41)] fun t42 s382 =>
 ((env 82 [(.pv (.str [114,117,108,101])),(.pv (.str [])),t42] s382 (fun t43 s383 =>
 ((lock storeD prog s383 50 t2 t43 fun s384 =>
 (lock loadD prog s384 50 t2 fun r0 =>
 (retV (.tuple [r0,(.pv (.bool false))]) s384 K)))/\True)) (panV X))/\True))/\True)) (panV X))/\True))/\True)) (panV X))/\((lock loadD prog s374 83 t1 fun t40 =>
 ((env 79 [] s374 (fun t39 s375 =>
 ((env 78 [t40] s375 (fun t41 s376 =>
 ((lock buildSliceD prog false s376 23 2 2 [(0,t39),(1,t41)] fun t42 s377 =>
 ((env 82 [(.pv (.str [114,117,108,101])),(.pv (.str [])),t42] s377 (fun t43 s378 =>
 ((lock storeD prog s378 50 t2 t43 fun s379 =>
 (lock loadD prog s379 50 t2 fun r0 =>
 (retV (.tuple [r0,(.pv (.bool false))]) s379 K)))/\True)) (panV X))/\True))/\True)) (panV X))/\True)) (panV X))/\True))/\True))
 (lock loadD prog s374 83 t1 fun t44 =>
 (env 84 [t44,(.pv (.int .i64 1)),(.pv (.bool false))] s374 (fun t45 s385 =>
 (lock allocD prog s385 50 fun t5 s386 =>
 (lock storeD prog s386 50 t5 t45 fun s387 =>
 ((lock loadD prog s387 83 t1 fun t46 =>
 ((env 75 [(.pv (.str [44]))] s387 (fun t47 s406 =>
 ((env 80 [t46,t47] s406 (fun t48 s407 =>
 (condD t48
 (lock loadD prog s407 83 t1 fun t49 =>
 (env 85 [t49] s407 (fun t50 s408 =>
 (lock loadD prog s408 83 t1 fun t51 =>
 (env 84 [t51,(.pv (.int .i64 1)),(.pv (.bool false))] s408 (fun t52 s409 =>
 (lock allocD prog s409 50 fun t6 s410 =>
 (lock storeD prog s410 50 t6 t52 fun s411 =>
 (callD env (.clo 77 [] [t1]) [] s411 (fun t55 s412 =>
 (lock extractD t55 0 fun t56 =>
 (lock extractD t55 1 fun t57 =>
 (lock allocD prog s412 50 fun t7 s413 =>
 (lock storeD prog s413 50 t7 t56 fun s414 =>
 (lock loadD prog s414 50 t5 fun t58 =>
 (lock loadD prog s414 50 t6 fun t59 =>
 (lock loadD prog s414 50 t7 fun t60 =>
 (lock buildSliceD prog false s414 23 3 3 [(0,t58),(1,t59),(2,t60)] fun t61 s415 =>
 (env 82 [(.pv (.str [114,97,110,103,101])),(.pv (.str [])),t61] s415 (fun t62 s416 =>
 (lock storeD prog s416 50 t2 t62 fun s417 =>
 (lock loadD prog s417 50 t2 fun r0 =>
 (retV (.tuple [r0,t57]) s417 K)))) (panV X))))))))))) (panV X))))) (panV X)))) (panV X)))
 (callD env (.clo 77 [] [t1]) [] s407 (fun t66 s418 =>
 (lock extractD t66 0 fun t67 =>
 (lock extractD t66 1 fun t68 =>
 (lock allocD prog s418 50 fun t9 s419 =>
 (lock storeD prog s419 50 t9 t67 fun s420 =>
 (lock loadD prog s420 50 t5 fun t69 =>
 (lock loadD prog s420 50 t9 fun t70 =>
 (lock buildSliceD prog false s420 23 2 2 [(0,t69),(1,t70)] fun t71 s421 =>
 (env 82 [(.pv (.str [114,117,108,101])),(.pv (.str [])),t71] s421 (fun t72 s422 =>
 (lock storeD prog s422 50 t2 t72 fun s423 =>
 (lock loadD prog s423 50 t2 fun r0 =>
 (retV (.tuple [r0,t68]) s423 K)))) (panV X)))))))))) (panV X)))) (panV X))/\True)) (panV X))/\True))/\((env 75 [(.pv (.str [44]))] s387 (fun t47 s388 =>
 ((lock loadD prog s388 83 t1 fun t46 =>
 ((env 80 [t46,t47] s388 (fun t48 s389 =>
 (condD t48
 (lock loadD prog s389 83 t1 fun t49 =>
 (env 85 [t49] s389 (fun t50 s390 =>
 (lock loadD prog s390 83 t1 fun t51 =>
 (env 84 [t51,(.pv (.int .i64 1)),(.pv (.bool false))] s390 (fun t52 s391 =>
 (lock allocD prog s391 50 fun t6 s392 =>
 (lock storeD prog s392 50 t6 t52 fun s393 =>
 (callD env (.clo 77 [] [t1]) [] s393 (fun t55 s394 =>
 (lock extractD t55 0 fun t56 =>
 (lock extractD t55 1 fun t57 =>
 (lock allocD prog s394 50 fun t7 s395 =>
 (lock storeD prog s395 50 t7 t56 fun s396 =>
 (lock loadD prog s396 50 t5 fun t58 =>
 (lock loadD prog s396 50 t6 fun t59 =>
 (lock loadD prog s396 50 t7 fun t60 =>
 (lock buildSliceD prog false s396 23 3 3 [(0,t58),(1,t59),(2,t60)] fun t61 s397 =>
 (env 82 [(.pv (.str [114,97,110,103,101])),(.pv (.str [])),t61] s397 (fun t62 s398 =>
 (lock storeD prog s398 50 t2 t62 fun s399 =>
 (lock loadD prog s399 50 t2 fun r0 =>
 (retV (.tuple [r0,t57]) s399 K)))) (panV X))))))))))) (panV X))))) (panV X)))) (panV X)))
 (callD env (.clo 77 [] [t1]) [] s389 (fun t66 s400 =>
 (lock extractD t66 0 fun t67 =>
 (lock extractD t66 1 fun t68 =>
 (lock allocD prog s400 50 fun t9 s401 =>
 (lock storeD prog s401 50 t9 t67 fun s402 =>
 (lock loadD prog s402 50 t5 fun t69 =>
 (lock loadD prog s402 50 t9 fun t70 =>
 (lock buildSliceD prog false s402 23 2 2 [(0,t69),(1,t70)] fun t71 s403 =>
 (env 82 [(.pv (.str [114,117,108,101])),(.pv (.str [])),t71] s403 (fun t72 s404 =>
 (lock storeD prog s404 50 t2 t72 fun s405 =>
 (lock loadD prog s405 50 t2 fun r0 =>
 (retV (.tuple [r0,t68]) s405 K)))) (panV X)))))))))) (panV X)))) (panV X))/\True))/\True)) (panV X))/\True))))) (panV X)))))) (panV X))) (panV X))))) (panV X))/\True))/\True)) (panV X))/\True)))) (panV X))/\True)) (panV X))/\True))/\((env 81 [(.pv (.str [69,78,68]))] s242 (fun t22 s247 =>
 ((lock loadD prog s247 83 t1 fun t21 =>
 ((env 80 [t21,t22] s247 (fun t23 s248 =>
 (condD t23
 (lock loadD prog s248 83 t1 fun t24 =>
 (env 78 [t24] s248 (fun t25 s249 =>
 (lock buildSliceD prog false s249 23 1 1 [(0,t25)] fun t26 s250 =>
 (env 82 [(.pv (.str [69,78,68])),(.pv (.str [])),t26] s250 (fun t27 s251 =>
 (lock storeD prog s251 50 t2 t27 fun s252 =>
 (lock loadD prog s252 50 t2 fun r0 =>
 (retV (.tuple [r0,(.pv (.bool false))]) s252 K)))) (panV X)))) (panV X)))
 ((lock loadD prog s248 83 t1 fun t29 =>
 ((env 81 [(.pv (.str [102,117,110,99,116,105,111,110]))] s248 (fun t30 s308 =>
 ((env 80 [t29,t30] s308 (fun t31 s309 =>
 (condD t31
 (lock loadD prog s309 83 t1 fun t32 =>
 (env 83 [t32] s309 (fun t33 s310 =>
 (lock storeD prog s310 50 t2 t33 fun s311 =>
 (lock loadD prog s311 50 t2 fun r0 =>
 (retV (.tuple [r0,(.pv (.bool false))]) s311 K)))) (panV X)))
 (lock loadD prog s309 83 t1 fun t35 =>
 (env 74 [t35,(.pv (.int .i64 0))] s309 (fun t36 s312 =>
 (env 75 [(.pv (.str [123]))] s312 (fun t37 s313 =>
 (lock binD prog .eql 53 t36 t37 fun t38 =>
 (condD t38
 ((env 79 [] s313 (fun t39 s319 =>
 ((lock loadD prog s319 83 t1 fun t40 =>
 ((env 78 [t40] s319 (fun t41 s320 =>
 ((lock buildSliceD prog false s320 23 2 2 [(0,t39),(1,t41)] fun t42 s321 =>
 ((env 82 [(.pv (.str [114,117,108,101])),(.pv (.str [])),t42] s321 (fun t43 s322 =>
 ((lock storeD prog s322 50 t2 t43 fun s323 =>
 (lock loadD prog s323 50 t2 fun r0 =>
 (retV (.tuple [r0,(.pv (.bool false))]) s323 K)))/\True)) (panV X))/\True))/\True)) (panV X))/\True))/\True)) (panV X))/\((lock loadD prog s313 83 t1 fun t40 =>
 ((env 79 [] s313 (fun t39 s314 =>
 ((env 78 [t40] s314 (fun t41 s315 =>
 ((lock buildSliceD prog false s315 23 2 2 [(0,t39),(1,t41)] fun t42 s316 =>
 ((env 82 [(.pv (.str [114,117,108,101])),(.pv (.str [])),t42] s316 (fun t43 s317 =>
 ((lock storeD prog s317 50 t2 t43 fun s318 =>
 (lock loadD prog s318 50 t2 fun r0 =>
 (retV (.tuple [r0,(.pv (.bool false))]) s318 K)))/\True)) (panV X))/\True))/\True)) (panV X))/\True)) (panV X))/\True))/\True))
 (lock loadD prog s313 83 t1 fun t44 =>
 (env 84 [t44,(.pv (.int .i64 1)),(.pv (.bool false))] s313 (fun t45 s324 =>
 (lock allocD prog s324 50 fun t5 s325 =>
 (lock storeD prog s325 50 t5 t45 fun s326 =>
 ((lock loadD prog s326 83 t1 fun t46 =>
 ((env 75 [(.pv (.str [44]))] s326 (fun t47 s345 =>
 ((env 80 [t46,t47] s345 (fun t48 s346 =>
 (condD t48
 (lock loadD prog s346 83 t1 fun t49 =>
 (env 85 [t49] s346 (fun t50 s347 =>
 (lock loadD prog s347 83 t1 fun t51 =>
 (env 84 [t51,(.pv (.int .i64 1)),(.pv (.bool false))] s347 (fun t52 s348 =>
 (lock allocD prog s348 50 fun t6 s349 =>
 (lock storeD prog s349 50 t6 t52 fun s350 =>
 (callD env (.clo 77 [] [t1]) [] s350 (fun t55 s351 =>
 (lock extractD t55 0 fun t56 =>
 (lock extractD t55 1 fun t57 =>
 (lock allocD prog s351 50 fun t7 s352 =>
 (lock storeD prog s352 50 t7 t56 fun s353 =>
 (lock loadD prog s353 50 t5 fun t58 =>
 (lock loadD prog s353 50 t6 fun t59 =>
 (lock loadD prog s353 50 t7 fun t60 =>
 (lock buildSliceD prog false s353 23 3 3 [(0,t58),(1,t59),(2,t60)] fun t61 s354 =>
 (env 82 [(.pv (.str [114,97,110,103,101])),(.pv (.str [])),t61] s354 (fun t62 s355 =>
 (lock storeD prog s355 50 t2 t62 fun s356 =>
 (lock loadD prog s356 50 t2 fun r0 =>
 (retV (.tuple [r0,t57]) s356 K)))) (panV X))))))))))) (panV X))))) (panV X)))) (panV X)))
 (callD env (.clo 77 [] [t1]) [] s346 (fun t66 s357 =>
 (lock extractD t66 0 fun t67 =>
 (lock extractD t66 1 fun t68 =>
 (lock allocD prog s357 50 fun t9 s358 =>
 (lock storeD prog s358 50 t9 t67 fun s359 =>
 (lock loadD prog s359 50 t5 fun t69 =>
 (lock loadD prog s359 50 t9 fun t70 =>
 (lock buildSliceD prog false s359 23 2 2 [(0,t69),(1,t70)] fun t71 s360 =>
 (env 82 [(.pv (.str [114,117,108,101])),(.pv (.str [])),t71] s360 (fun t72 s361 =>
 (lock storeD prog s361 50 t2 t72 fun s362 =>
 (lock loadD prog s362 50 t2 fun r0 =>
 (retV (.tuple [r0,t68]) s362 K)))) (panV X)))))))))) (panV X)))) (panV X))/\True)) (panV X))/\True))/\((env 75 [(.pv (.str [44]))] s326 (fun t47 s327 =>
 ((lock loadD prog s327 83 t1 fun t46 =>
 ((env 80 [t46,t47] s327 (fun t48 s328 =>
 (condD t48
 (lock loadD prog s328 83 t1 fun t49 =>
 (env 85 [t49] s328 (fun t50 s329 =>
 (lock loadD prog s329 83 t1 fun t51 =>
 (env 84 [t51,(.pv (.int .i64 1)),(.pv (.bool false))] s329 (fun t52 s330 =>
 (lock allocD prog s330 50 fun t6 s331 =>
 (lock storeD prog s331 50 t6 t52 fun s332 =>
 (callD env (.clo 77 [] [t1]) [] s332 (fun t55 s333 =>
 (lock extractD t55 0 fun t56 =>
 (lock extractD t55 1 fun t57 =>
 (lock allocD prog s333 50 fun t7 s334 =>
 (lock storeD prog s334 50 t7 t56 fun s335 =>
 (lock loadD prog s335 50 t5 fun t58 =>
 (lock loadD prog s335 50 t6 fun t59 =>
 (lock loadD prog s335 50 t7 fun t60 =>
 (lock buildSliceD prog false s335 23 3 3 [(0,t58),(1,t59),(2,t60)] fun t61 s336 =>
 (env 82 [(.pv (.str [114,97,110,103,101])),(.pv (.str [])),t61] s336 (fun t62 s337 =>
 (lock storeD prog s337 50 t2 t62 fun s338 =>
 (lock loadD prog s338 50 t2 fun r0 =>
 (retV (.tuple [r0,t57]) s338 K)))) (panV X))))))))))) (panV X))))) (panV X)))) (panV X)))
 (callD env (.clo 77 [] [t1]) [] s328 (fun t66 s339 =>
 (lock extractD t66 0 fun t67 =>
 (lock extractD t66 1 fun t68 =>
 (lock allocD prog s339 50 fun t9 s340 =>
 (lock storeD prog s340 50 t9 t67 fun s341 =>
 (lock loadD prog s341 50 t5 fun t69 =>
 (lock loadD prog s341 50 t9 fun t70 =>
 (lock buildSliceD prog false s341 23 2 2 [(0,t69),(1,t70)] fun t71 s342 =>
 (env 82 [(.pv (.str [114,117,108,101])),(.pv (.str [])),t71] s342 (fun t72 s343 =>
 (lock storeD prog s343 50 t2 t72 fun s344 =>
 (lock loadD prog s344 50 t2 fun r0 =>
 (retV (.tuple [r0,t68]) s344 K)))) (panV X)))))))))) (panV X)))) (panV X))/\True))/\True)) (panV X))/\True))))) (panV X)))))) (panV X))) (panV X))))) (panV X))/\True)) (panV X))/\True))/\((env 81 [(.pv (.str [102,117,110,99,116,105,111,110]))] s248 (fun t30 s253 =>
 ((lock loadD prog s253 83 t1 fun t29 =>
 ((env 80 [t29,t30] s253 (fun t31 s254 =>
 (condD t31
 (lock loadD prog s254 83 t1 fun t32 =>
 (env 83 [t32] s254 (fun t33 s255 =>
 (lock storeD prog s255 50 t2 t33 fun s256 =>
 (lock loadD prog s256 50 t2 fun r0 =>
 (retV (.tuple [r0,(.pv (.bool false))]) s256 K)))) (panV X)))
 (lock loadD prog s254 83 t1 fun t35 =>
 (env 74 [t35,(.pv (.int .i64 0))] s254 (fun t36 s257 =>
 (env 75 [(.pv (.str [123]))] s257 (fun t37 s258 =>
 (lock binD prog .eql 53 t36 t37 fun t38 =>
 (condD t38
 ((env 79 [] s258 (fun t39 s264 =>
 ((lock loadD prog s264 83 t1 fun t40 =>
 ((env 78 [t40] s264 (fun t41 s265 =>
 ((lock buildSliceD prog false s265 23 2 2 [(0,t39),(1,t41)] fun t42 s266 =>
 ((env 82 [(.pv (.str [114,117,108,101])),(.pv (.str [])),t42] s266 (fun t43 s267 =>
 ((lock storeD prog s267 50 t2 t43 fun s268 =>
 (lock loadD prog s268 50 t2 fun r0 =>
 (retV (.tuple [r0,(.pv (.bool false))]) s268 K)))/\True)) (panV X))/\True))/\True)) (panV X))/\True))/\True)) (panV X))/\((lock loadD prog s258 83 t1 fun t40 =>
 ((env 79 [] s258 (fun t39 s259 =>
 ((env 78 [t40] s259 (fun t41 s260 =>
 ((lock buildSliceD prog false s260 23 2 2 [(0,t39),(1,t41)] fun t42 s261 =>
 ((env 82 [(.pv (.str [114,117,108,101])),(.pv (.str [])),t42] s261 (fun t43 s262 =>
 ((lock storeD prog s262 50 t2 t43 fun s263 =>
 (lock loadD prog s263 50 t2 fun r0 =>
 (retV (.tuple [r0,(.pv (.bool false))]) s263 K)))/\True)) (panV X))/\True))/\True)) (panV X))/\True)) (panV X))/\True))/\True))
 (lock loadD prog s258 83 t1 fun t44 =>
 (env 84 [t44,(.pv (.int .i64 1)),(.pv (.bool false))] s258 (fun t45 s269 =>
 (lock allocD prog s269 50 fun t5 s270 =>
 (lock storeD prog s270 50 t5 t45 fun s271 =>
 ((lock loadD prog s271 83 t1 fun t46 =>
 ((env 75 [(.pv (.str [44]))] s271 (fun t47 s290 =>
 ((env 80 [t46,t47] s290 (fun t48 s291 =>
 (condD t48
 (lock loadD prog s291 83 t1 fun t49 =>
 (env 85 [t49] s291 (fun t50 s292 =>
 (lock loadD prog s292 83 t1 fun t51 =>
 (env 84 [t51,(.pv (.int .i64 1)),(.pv (.bool false))] s292 (fun t52 s293 =>
 (lock allocD prog s293 50 fun t6 s294 =>
 (lock storeD prog s294 50 t6 t52 fun s295 =>
 (callD env (.clo 77 [] [t1]) [] s295 (fun t55 s296 =>
 (lock extractD t55 0 fun t56 =>
 (lock extractD t55 1 fun t57 =>
 (lock allocD prog s296 50 fun t7 s297 =>
 (lock storeD prog s297 50 t7 t56 fun s298 =>
 (lock loadD prog s298 50 t5 fun t58 =>
 (lock loadD prog s298 50 t6 fun t59 =>
 (lock loadD prog s298 50 t7 fun t60 =>
 (lock buildSliceD prog false s298 23 3 3 [(0,t58),(1,t59),(2,t60)] fun t61 s299 =>
 (env 82 [(.pv (.str [114,97,110,103,101])),(.pv (.str [])),t61] s299 (fun t62 s300 =>
 (lock storeD prog s300 50 t2 t62 fun s301 =>
 (lock loadD prog s301 50 t2 fun r0 =>
 (retV (.tuple [r0,t57]) s301 K)))) (panV X))))))))))) (panV X))))) (panV X)))) (panV X)))
 (callD env (.clo 77 [] [t1]) [] s291 (fun t66 s302 =>
 (lock extractD t66 0 fun t67 =>
 (lock extractD t66 1 fun t68 =>
 (lock allocD prog s302 50 fun t9 s303 =>
 (lock storeD prog s303 50 t9 t67 fun s304 =>
 (lock loadD prog s304 50 t5 fun t69 =>
 (lock loadD prog s304 50 t9 fun t70 =>
 (lock buildSliceD prog false s304 23 2 2 [(0,t69),(1,t70)] fun t71 s305 =>
 (env 82 [(.pv (.str [114,117,108,101])),(.pv (.str [])),t71] s305 (fun t72 s306 =>
 (lock storeD prog s306 50 t2 t72 fun s307 =>
 (lock loadD prog s307 50 t2 fun r0 =>
 (retV (.tuple [r0,t68]) s307 K)))) (panV X)))))))))) (panV X)))) (panV X))/\True)) (panV X))/\True))/\((env 75 [(.pv (.str [44]))] s271 (fun t47 s272 =>
 ((lock loadD prog s272 83 t1 fun t46 =>
 ((env 80 [t46,t47] s272 (fun t48 s273 =>
 (condD t48
 (lock loadD prog s273 83 t1 fun t49 =>
 (env 85 [t49] s273 (fun t50 s274 =>
 (lock loadD prog s274 83 t1 fun t51 =>
 (env 84 [t51,(.pv (.int .i64 1)),(.pv (.bool false))] s274 (fun t52 s275 =>
 (lock allocD prog s275 50 fun t6 s276 =>
 (lock storeD prog s276 50 t6 t52 fun s277 =>
 (callD env (.clo 77 [] [t1]) [] s277 (fun t55 s278 =>
 (lock extractD t55 0 fun t56 =>
 (lock extractD t55 1 fun t57 =>
 (lock allocD prog s278 50 fun t7 s279 =>
 (lock storeD prog s279 50 t7 t56 fun s280 =>
 (lock loadD prog s280 50 t5 fun t58 =>
 (lock loadD prog s280 50 t6 fun t59 =>
 (lock loadD prog s280 50 t7 fun t60 =>
 (lock buildSliceD prog false s280 23 3 3 [(0,t58),(1,t59),(2,t60)] fun t61 s281 =>
 (env 82 [(.pv (.str [114,97,110,103,101])),(.pv (.str [])),t61] s281 (fun t62 s282 =>
 (lock storeD prog s282 50 t2 t62 fun s283 =>
 (lock loadD prog s283 50 t2 fun r0 =>
 (retV (.tuple [r0,t57]) s283 K)))) (panV X))))))))))) (panV X))))) (panV X)))) (panV X)))
 (callD env (.clo 77 [] [t1]) [] s273 (fun t66 s284 =>
 (lock extractD t66 0 fun t67 =>
 (lock extractD t66 1 fun t68 =>
 (lock allocD prog s284 50 fun t9 s285 =>
 (lock storeD prog s285 50 t9 t67 fun s286 =>
 (lock loadD prog s286 50 t5 fun t69 =>
 (lock loadD prog s286 50 t9 fun t70 =>
 (lock buildSliceD prog false s286 23 2 2 [(0,t69),(1,t70)] fun t71 s287 =>
 (env 82 [(.pv (.str [114,117,108,101])),(.pv (.str [])),t71] s287 (fun t72 s288 =>
 (lock storeD prog s288 50 t2 t72 fun s289 =>
 (lock loadD prog s289 50 t2 fun r0 =>
 (retV (.tuple [r0,t68]) s289 K)))) (panV X)))))))))) (panV X)))) (panV X))/\True))/\True)) (panV X))/\True))))) (panV X)))))) (panV X))) (panV X))))) (panV X))/\True))/\True)) (panV X))/\True)))) (panV X))/\True))/\True)) (panV X))/\True)))) (panV X))/\True)) (panV X))/\True))/\((env 81 [(.pv (.str [66,69,71,73,78]))] s2 (fun t14 s3 =>
 ((lock loadD prog s3 83 t1 fun t13 =>
 ((env 80 [t13,t14] s3 (fun t15 s4 =>
 (condD t15
 (lock loadD prog s4 83 t1 fun t16 =>
 (env 78 [t16] s4 (fun t17 s5 =>
 (lock buildSliceD prog false s5 23 1 1 [(0,t17)] fun t18 s6 =>
 (env 82 [(.pv (.str [66,69,71,73,78])),(.pv (.str [])),t18] s6 (fun t19 s7 =>
 (lock storeD prog s7 50 t2 t19 fun s8 =>
 (lock loadD prog s8 50 t2 fun r0 =>
 (retV (.tuple [r0,(.pv (.bool false))]) s8 K)))) (panV X)))) (panV X)))
 ((lock loadD prog s4 83 t1 fun t21 =>
 ((env 81 [(.pv (.str [69,78,68]))] s4 (fun t22 s125 =>
 ((env 80 [t21,t22] s125 (fun t23 s126 =>
 (condD t23
 (lock loadD prog s126 83 t1 fun t24 =>
 (env 78 [t24] s126 (fun t25 s127 =>
 (lock buildSliceD prog false s127 23 1 1 [(0,t25)] fun t26 s128 =>
 (env 82 [(.pv (.str [69,78,68])),(.pv (.str [])),t26] s128 (fun t27 s129 =>
 (lock storeD prog s129 50 t2 t27 fun s130 =>
 (lock loadD prog s130 50 t2 fun r0 =>
 (retV (.tuple [r0,(.pv (.bool false))]) s130 K)))) (panV X)))) (panV X)))
 ((lock loadD prog s126 83 t1 fun t29 =>
 ((env 81 [(.pv (.str [102,117,110,99,116,105,111,110]))] s126 (fun t30 s186 =>
 ((env 80 [t29,t30] s186 (fun t31 s187 =>
 (condD t31
 (lock loadD prog s187 83 t1 fun t32 =>
 (env 83 [t32] s187 (fun t33 s188 =>
 (lock storeD prog s188 50 t2 t33 fun s189 =>
 (lock loadD prog s189 50 t2 fun r0 =>
 (retV (.tuple [r0,(.pv (.bool false))]) s189 K)))) (panV X)))
 (lock loadD prog s187 83 t1 fun t35 =>
 (env 74 [t35,(.pv (.int .i64 0))] s187 (fun t36 s190 =>
 (env 75 [(.pv (.str [123]))] s190 (fun t37 s191 =>
 (lock binD prog .eql 53 t36 t37 fun t38 =>
 (condD t38
 ((env 79 [] s191 (fun t39 s197 =>
 ((lock loadD prog s197 83 t1 fun t40 =>
 ((env 78 [t40] s197 (fun t41 s198 =>
 ((lock buildSliceD prog false s198 23 2 2 [(0,t39),(1,t41)] fun t42 s199 =>
 ((env 82 [(.pv (.str [114,117,108,101])),(.pv (.str [])),t42] s199 (fun t43 s200 =>
 ((lock storeD prog s200 50 t2 t43 fun s201 =>
 (lock loadD prog s201 50 t2 fun r0 =>
 (retV (.tuple [r0,(.pv (.bool false))]) s201 K)))/\True)) (panV X))/\True))/\True)) (panV X))/\True))/\True)) (panV X))/\((lock loadD prog s191 83 t1 fun t40 =>
 ((env 79 [] s191 (fun t39 s192 =>
 ((env 78 [t40] s192 (fun t41 s193 =>
 ((lock buildSliceD prog false s193 23 2 2 [(0,t39),(1,t41)] fun t42 s194 =>
 ((env 82 [(.pv (.str [114,117,108,101])),(.pv (.str [])),t42] s194 (fun t43 s195 =>
 ((lock storeD prog s195 50 t2 t43 fun s196 =>
 (lock loadD prog s196 50 t2 fun r0 =>
 (retV (.tuple [r0,(.pv (.bool false))]) s196 K)))/\True)) (panV X))/\True))/\True)) (panV X))/\True)) (panV X))/\True))/\True))
 (lock loadD prog s191 83 t1 fun t44 =>
 (env 84 [t44,(.pv (.int .i64 1)),(.pv (.bool false))] s191 (fun t45 s202 =>
 (lock allocD prog s202 50 fun t5 s203 =>
 (lock storeD prog s203 50 t5 t45 fun s204 =>
 ((lock loadD prog s204 83 t1 fun t46 =>
 ((env 75 [(.pv (.str [44]))] s204 (fun t47 s223 =>
 ((env 80 [t46,t47] s223 (fun t48 s224 =>
 (condD t48
 (lock loadD prog s224 83 t1 fun t49 =>
 (env 85 [t49] s224 (fun t50 s225 =>
 (lock loadD prog s225 83 t1 fun t51 =>
 (env 84 [t51,(.pv (.int .i64 1)),(.pv (.bool false))] s225 (fun t52 s226 =>
 (lock allocD prog s226 50 fun t6 s227 =>
 (lock storeD prog s227 50 t6 t52 fun s228 =>
 (callD env (.clo 77 [] [t1]) [] s228 (fun t55 s229 =>
 (lock extractD t55 0 fun t56 =>
 (lock extractD t55 1 fun t57 =>
 (lock allocD prog s229 50 fun t7 s230 =>
 (lock storeD prog s230 50 t7 t56 fun s231 =>
 (lock loadD prog s231 50 t5 fun t58 =>
 (lock loadD prog s231 50 t6 fun t59 =>
 (lock loadD prog s231 50 t7 fun t60 =>
 (lock buildSliceD prog false s231 23 3 3 [(0,t58),(1,t59),(2,t60)] fun t61 s232 =>
 (env 82 [(.pv (.str [114,97,110,103,101])),(.pv (.str [])),t61] s232 (fun t62 s233 =>
 (lock storeD prog s233 50 t2 t62 fun s234 =>
 (lock loadD prog s234 50 t2 fun r0 =>
 (retV (.tuple [r0,t57]) s234 K)))) (panV X))))))))))) (panV X))))) (panV X)))) (panV X)))
 (callD env (.clo 77 [] [t1]) [] s224 (fun t66 s235 =>
 (lock extractD t66 0 fun t67 =>
 (lock extractD t66 1 fun t68 =>
 (lock allocD prog s235 50 fun t9 s236 =>
 (lock storeD prog s236 50 t9 t67 fun s237 =>
 (lock loadD prog s237 50 t5 fun t69 =>
 (lock loadD prog s237 50 t9 fun t70 =>
 (lock buildSliceD prog false s237 23 2 2 [(0,t69),(1,t70)] fun t71 s238 =>
 (env 82 [(.pv (.str [114,117,108,101])),(.pv (.str [])),t71] s238 (fun t72 s239 =>
 (lock storeD prog s239 50 t2 t72 fun s240 =>
 (lock loadD prog s240 50 t2 fun r0 =>
 (retV (.tuple [r0,t68]) s240 K)))) (panV X)))))))))) (panV X)))) (panV X))/\True)) (panV X))/\True))/\((env 75 [(.pv (.str [44]))] s204 (fun t47 s205 =>
 ((lock loadD prog s205 83 t1 fun t46 =>
 ((env 80 [t46,t47] s205 (fun t48 s206 =>
 (condD t48
 (lock loadD prog s206 83 t1 fun t49 =>
 (env 85 [t49] s206 (fun t50 s207 =>
 (lock loadD prog s207 83 t1 fun t51 =>
 (env 84 [t51,(.pv (.int .i64 1)),(.pv (.bool false))] s207 (fun t52 s208 =>
 (lock allocD prog s208 50 fun t6 s209 =>
 (lock storeD prog s209 50 t6 t52 fun s210 =>
 (callD env (.clo 77 [] [t1]) [] s210 (fun t55 s211 =>
 (lock extractD t55 0 fun t56 =>
 (lock extractD t55 1 fun t57 =>
 (lock allocD prog s211 50 fun t7 s212 =>
 (lock storeD prog s212 50 t7 t56 fun s213 =>
 (lock loadD prog s213 50 t5 fun t58 =>
 (lock loadD prog s213 50 t6 fun t59 =>
 (lock loadD prog s213 50 t7 fun t60 =>
 (lock buildSliceD prog false s213 23 3 3 [(0,t58),(1,t59),(2,t60)] fun t61 s214 =>
 (env 82 [(.pv (.str [114,97,110,103,101])),(.pv (.str [])),t61] s214 (fun t62 s215 =>
 (lock storeD prog s215 50 t2 t62 fun s216 =>
 (lock loadD prog s216 50 t2 fun r0 =>
 (retV (.tuple [r0,t57]) s216 K)))) (panV X))))))))))) (panV X))))) (panV X)))) (panV X)))
 (callD env (.clo 77 [] [t1]) [] s206 (fun t66 s217 =>
 (lock extractD t66 0 fun t67 =>
 (lock extractD t66 1 fun t68 =>
 (lock allocD prog s217 50 fun t9 s218 =>
 (lock storeD prog s218 50 t9 t67 fun s219 =>
 (lock loadD prog s219 50 t5 fun t69 =>
 (lock loadD prog s219 50 t9 fun t70 =>
 (lock buildSliceD prog false s219 23 2 2 [(0,t69),(1,t70)] fun t71 s220 =>
 (env 82 [(.pv (.str [114,117,108,101])),(.pv (.str [])),t71] s220 (fun t72 s221 =>
 (lock storeD prog s221 50 t2 t72 fun s222 =>
 (lock loadD prog s222 50 t2 fun r0 =>
 (retV (.tuple [r0,t68]) s222 K)))) (panV X)))))))))) (panV X)))) (panV X))/\True))/\True)) (panV X))/\True))))) (panV X)))))) (panV X))) (panV X))))) (panV X))/\True)) (panV X))/\True))/\((env 81 [(.pv (.str [102,117,110,99,116,105,111,110]))] s126 (fun t30 s131 =>
 ((lock loadD prog s131 83 t1 fun t29 =>
 ((env 80 [t29,t30] s131 (fun t31 s132 =>
 (condD t31
 (lock loadD prog s132 83 t1 fun t32 =>
 (env 83 [t32] s132 (fun t33 s133 =>
 (lock storeD prog s133 50 t2 t33 fun s134 =>
 (lock loadD prog s134 50 t2 fun r0 =>
 (retV (.tuple [r0,(.pv (.bool false))]) s134 K)))) (panV X)))
 (lock loadD prog s132 83 t1 fun t35 =>
 (env 74 [t35,(.pv (.int .i64 0))] s132 (fun t36 s135 =>
 (env 75 [(.pv (.str [123]))] s135 (fun t37 s136 =>
 (lock binD prog .eql 53 t36 t37 fun t38 =>
 (condD t38
 ((env 79 [] s136 (fun t39 s142 =>
 ((lock loadD prog s142 83 t1 fun t40 =>
 ((env 78 [t40] s142 (fun t41 s143 =>
 ((lock buildSliceD prog false s143 23 2 2 [(0,t39),(1,t41)] fun t42 s144 =>
 ((env 82 [(.pv (.str [114,117,108,101])),(.pv (.str [])),t42] s144 (fun t43 s145 =>
 ((lock storeD prog s145 50 t2 t43 fun s146 =>
 (lock loadD prog s146 50 t2 fun r0 =>
 (retV (.tuple [r0,(.pv (.bool false))]) s146 K)))/\True)) (panV X))/\True))/\True)) (panV X))/\True))/\True)) (panV X))/\((lock loadD prog s136 83 t1 fun t40 =>
 ((env 79 [] s136 (fun t39 s137 =>
 ((env 78 [t40] s137 (fun t41 s138 =>
 ((lock buildSliceD prog false s138 23 2 2 [(0,t39),(1,t41)] fun t42 s139 =>
 ((env 82 [(.pv (.str [114,117,108,101])),(.pv (.str [])),t42] s139 (fun t43 s140 =>
 ((lock storeD prog s140 50 t2 t43 fun s141 =>
 (lock loadD prog s141 50 t2 fun r0 =>
 (retV (.tuple [r0,(.pv (.bool false))]) s141 K)))/\True)) (panV X))/\True))/\True)) (panV X))/\True)) (panV X))/\True))/\True))
 (lock loadD prog s136 83 t1 fun t44 =>
 (env 84 [t44,(.pv (.int .i64 1)),(.pv (.bool false))] s136 (fun t45 s147 =>
 (lock allocD prog s147 50 fun t5 s148 =>
 (lock storeD prog s148 50 t5 t45 fun s149 =>
 ((lock loadD prog s149 83 t1 fun t46 =>
 ((env 75 [(.pv (.str [44]))] s149 (fun t47 s168 =>
 ((env 80 [t46,t47] s168 (fun t48 s169 =>
 (condD t48
 (lock loadD prog s169 83 t1 fun t49 =>
 (env 85 [t49] s169 (fun t50 s170 =>
 (lock loadD prog s170 83 t1 fun t51 =>
 (env 84 [t51,(.pv (.int .i64 1)),(.pv (.bool false))] s170 (fun t52 s171 =>
 (lock allocD prog s171 50 fun t6 s172 =>
 (lock storeD prog s172 50 t6 t52 fun s173 =>
 (callD env (.clo 77 [] [t1]) [] s173 (fun t55 s174 =>
 (lock extractD t55 0 fun t56 =>
 (lock extractD t55 1 fun t57 =>
 (lock allocD prog s174 50 fun t7 s175 =>
 (lock storeD prog s175 50 t7 t56 fun s176 =>
 (lock loadD prog s176 50 t5 fun t58 =>
 (lock loadD prog s176 50 t6 fun t59 =>
 (lock loadD prog s176 50 t7 fun t60 =>
 (lock buildSliceD prog false s176 23 3 3 [(0,t58),(1,t59),(2,t60)] fun t61 s177 =>
 (env 82 [(.pv (.str [114,97,110,103,101])),(.pv (.str [])),t61] s177 (fun t62 s178 =>
 (lock storeD prog s178 50 t2 t62 fun s179 =>
 (lock loadD prog s179 50 t2 fun r0 =>
 (retV (.tuple [r0,t57]) s179 K)))) (panV X))))))))))) (panV X))))) (panV X)))) (panV X)))
 (callD env (.clo 77 [] [t1]) [] s169 (fun t66 s180 =>
 (lock extractD t66 0 fun t67 =>
 (lock extractD t66 1 fun t68 =>
 (lock allocD prog s180 50 fun t9 s181 =>
 (lock storeD prog s181 50 t9 t67 fun s182 =>
 (lock loadD prog s182 50 t5 fun t69 =>
 (lock loadD prog s182 50 t9 fun t70 =>
 (lock buildSliceD prog false s182 23 2 2 [(0,t69),(1,t70)] fun t71 s183 =>
 (env 82 [(.pv (.str [114,117,108,101])),(.pv (.str [])),t71] s183 (fun t72 s184 =>
 (lock storeD prog s184 50 t2 t72 fun s185 =>
 (lock loadD prog s185 50 t2 fun r0 =>
 (retV (.tuple [r0,t68]) s185 K)))) (panV X)))))))))) (panV X)))) (panV X))/\True)) (panV X))/\True))/\((env 75 [(.pv (.str [44]))] s149 (fun t47 s150 =>
 ((lock loadD prog s150 83 t1 fun t46 =>
 ((env 80 [t46,t47] s150 (fun t48 s151 =>
 (condD t48
 (lock loadD prog s151 83 t1 fun t49 =>
 (env 85 [t49] s151 (fun t50 s152 =>
 (lock loadD prog s152 83 t1 fun t51 =>
 (env 84 [t51,(.pv (.int .i64 1)),(.pv (.bool false))] s152 (fun t52 s153 =>
 (lock allocD prog s153 50 fun t6 s154 =>
 (lock storeD prog s154 50 t6 t52 fun s155 =>
 (callD env (.clo 77 [] [t1]) [] s155 (fun t55 s156 =>
 (lock extractD t55 0 fun t56 =>
 (lock extractD t55 1 fun t57 =>
 (lock allocD prog s156 50 fun t7 s157 =>
 (lock storeD prog s157 50 t7 t56 fun s158 =>
 (lock loadD prog s158 50 t5 fun t58 =>
 (lock loadD prog s158 50 t6 fun t59 =>
 (lock loadD prog s158 50 t7 fun t60 =>
 (lock buildSliceD prog false s158 23 3 3 [(0,t58),(1,t59),(2,t60)] fun t61 s159 =>
 (env 82 [(.pv (.str [114,97,110,103,101])),(.pv (.str [])),t61] s159 (fun t62 s160 =>
 (lock storeD prog s160 50 t2 t62 fun s161 =>
 (lock loadD prog s161 50 t2 fun r0 =>
 (retV (.tuple [r0,t57]) s161 K)))) (panV X))))))))))) (panV X))))) (panV X)))) (panV X)))
 (callD env (.clo 77 [] [t1]) [] s151 (fun t66 s162 =>
 (lock extractD t66 0 fun t67 =>
 (lock extractD t66 1 fun t68 =>
 (lock allocD prog s162 50 fun t9 s163 =>
 (lock storeD prog s163 50 t9 t67 fun s164 =>
 (lock loadD prog s164 50 t5 fun t69 =>
 (lock loadD prog s164 50 t9 fun t70 =>
 (lock buildSliceD prog false s164 23 2 2 [(0,t69),(1,t70)] fun t71 s165 =>
 (env 82 [(.pv (.str [114,117,108,101])),(.pv (.str [])),t71] s165 (fun t72 s166 =>
 (lock storeD prog s166 50 t2 t72 fun s167 =>
 (lock loadD prog s167 50 t2 fun r0 =>
 (retV (.tuple [r0,t68]) s167 K)))) (panV X)))))))))) (panV X)))) (panV X))/\True))/\True)) (panV X))/\True))))) (panV X)))))) (panV X))) (panV X))))) (panV X))/\True))/\True)) (panV X))/\True)))) (panV X))/\True)) (panV X))/\True))/\((env 81 [(.pv (.str [69,78,68]))] s4 (fun t22 s9 =>
 ((lock loadD prog s9 83 t1 fun t21 =>
 ((env 80 [t21,t22] s9 (fun t23 s10 =>
 (condD t23
 (lock loadD prog s10 83 t1 fun t24 =>
 (env 78 [t24] s10 (fun t25 s11 =>
 (lock buildSliceD prog false s11 23 1 1 [(0,t25)] fun t26 s12 =>
 (env 82 [(.pv (.str [69,78,68])),(.pv (.str [])),t26] s12 (fun t27 s13 =>
 (lock storeD prog s13 50 t2 t27 fun s14 =>
 (lock loadD prog s14 50 t2 fun r0 =>
 (retV (.tuple [r0,(.pv (.bool false))]) s14 K)))) (panV X)))) (panV X)))
 ((lock loadD prog s10 83 t1 fun t29 =>
 ((env 81 [(.pv (.str [102,117,110,99,116,105,111,110]))] s10 (fun t30 s70 =>
 ((env 80 [t29,t30] s70 (fun t31 s71 =>
 (condD t31
 (lock loadD prog s71 83 t1 fun t32 =>
 (env 83 [t32] s71 (fun t33 s72 =>
 (lock storeD prog s72 50 t2 t33 fun s73 =>
 (lock loadD prog s73 50 t2 fun r0 =>
 (retV (.tuple [r0,(.pv (.bool false))]) s73 K)))) (panV X)))
 (lock loadD prog s71 83 t1 fun t35 =>
 (env 74 [t35,(.pv (.int .i64 0))] s71 (fun t36 s74 =>
 (env 75 [(.pv (.str [123]))] s74 (fun t37 s75 =>
 (lock binD prog .eql 53 t36 t37 fun t38 =>
 (condD t38
 ((env 79 [] s75 (fun t39 s81 =>
 ((lock loadD prog s81 83 t1 fun t40 =>
 ((env 78 [t40] s81 (fun t41 s82 =>
 ((lock buildSliceD prog false s82 23 2 2 [(0,t39),(1,t41)] fun t42 s83 =>
 ((env 82 [(.pv (.str [114,117,108,101])),(.pv (.str [])),t42] s83 (fun t43 s84 =>
 ((lock storeD prog s84 50 t2 t43 fun s85 =>
 (lock loadD prog s85 50 t2 fun r0 =>
 (retV (.tuple [r0,(.pv (.bool false))]) s85 K)))/\True)) (panV X))/\True))/\True)) (panV X))/\True))/\True)) (panV X))/\((lock loadD prog s75 83 t1 fun t40 =>
 ((env 79 [] s75 (fun t39 s76 =>
 ((env 78 [t40] s76 (fun t41 s77 =>
 ((lock buildSliceD prog false s77 23 2 2 [(0,t39),(1,t41)] fun t42 s78 =>
 ((env 82 [(.pv (.str [114,117,108,101])),(.pv (.str [])),t42] s78 (fun t43 s79 =>
 ((lock storeD prog s79 50 t2 t43 fun s80 =>
 (lock loadD prog s80 50 t2 fun r0 =>
 (retV (.tuple [r0,(.pv (.bool false))]) s80 K)))/\True)) (panV X))/\True))/\True)) (panV X))/\True)) (panV X))/\True))/\True))
 (lock loadD prog s75 83 t1 fun t44 =>
 (env 84 [t44,(.pv (.int .i64 1)),(.pv (.bool false))] s75 (fun t45 s86 =>
 (lock allocD prog s86 50 fun t5 s87 =>
 (lock storeD prog s87 50 t5 t45 fun s88 =>
 ((lock loadD prog s88 83 t1 fun t46 =>
 ((env 75 [(.pv (.str [44]))] s88 (fun t47 s107 =>
 ((env 80 [t46,t47] s107 (fun t48 s108 =>
 (condD t48
 (lock loadD prog s108 83 t1 fun t49 =>
 (env 85 [t49] s108 (fun t50 s109 =>
 (lock loadD prog s109 83 t1 fun t51 =>
 (env 84 [t51,(.pv (.int .i64 1)),(.pv (.bool false))] s109 (fun t52 s110 =>
 (lock allocD prog s110 50 fun t6 s111 =>
 (lock storeD prog s111 50 t6 t52 fun s112 =>
 (callD env (.clo 77 [] [t1]) [] s112 (fun t55 s113 =>
 (lock extractD t55 0 fun t56 =>
 (lock extractD t55 1 fun t57 =>
 (lock allocD prog s113 50 fun t7 s114 =>
 (lock storeD prog s114 50 t7 t56 fun s115 =>
 (lock loadD prog s115 50 t5 fun t58 =>
 (lock loadD prog s115 50 t6 fun t59 =>
 (lock loadD prog s115 50 t7 fun t60 =>
 (lock buildSliceD prog false s115 23 3 3 [(0,t58),(1,t59),(2,t60)] fun t61 s116 =>
 (env 82 [(.pv (.str [114,97,110,103,101])),(.pv (.str [])),t61] s116 (fun t62 s117 =>
 (lock storeD prog s117 50 t2 t62 fun s118 =>
 (lock loadD prog s118 50 t2 fun r0 =>
 (retV (.tuple [r0,t57]) s118 K)))) (panV X))))))))))) (panV X))))) (panV X)))) (panV X)))
 (callD env (.clo 77 [] [t1]) [] s108 (fun t66 s119 =>
 (lock extractD t66 0 fun t67 =>
 (lock extractD t66 1 fun t68 =>
 (lock allocD prog s119 50 fun t9 s120 =>
 (lock storeD prog s120 50 t9 t67 fun s121 =>
 (lock loadD prog s121 50 t5 fun t69 =>
 (lock loadD prog s121 50 t9 fun t70 =>
 (lock buildSliceD prog false s121 23 2 2 [(0,t69),(1,t70)] fun t71 s122 =>
 (env 82 [(.pv (.str [114,117,108,101])),(.pv (.str [])),t71] s122 (fun t72 s123 =>
 (lock storeD prog s123 50 t2 t72 fun s124 =>
 (lock loadD prog s124 50 t2 fun r0 =>
 (retV (.tuple [r0,t68]) s124 K)))) (panV X)))))))))) (panV X)))) (panV X))/\True)) (panV X))/\True))/\((env 75 [(.pv (.str [44]))] s88 (fun t47 s89 =>
 ((lock loadD prog s89 83 t1 fun t46 =>
 ((env 80 [t46,t47] s89 (fun t48 s90 =>
 (condD t48
 (lock loadD prog s90 83 t1 fun t49 =>
 (env 85 [t49] s90 (fun t50 s91 =>
 (lock loadD prog s91 83 t1 fun t51 =>
 (env 84 [t51,(.pv (.int .i64 1)),(.pv (.bool false))] s91 (fun t52 s92 =>
 (lock allocD prog s92 50 fun t6 s93 =>
 (lock storeD prog s93 50 t6 t52 fun s94 =>
 (callD env (.clo 77 [] [t1]) [] s94 (fun t55 s95 =>
 (lock extractD t55 0 fun t56 =>
 (lock extractD t55 1 fun t57 =>
 (lock allocD prog s95 50 fun t7 s96 =>
 (lock storeD prog s96 50 t7 t56 fun s97 =>
 (lock loadD prog s97 50 t5 fun t58 =>
 (lock loadD prog s97 50 t6 fun t59 =>
 (lock loadD prog s97 50 t7 fun t60 =>
 (lock buildSliceD prog false s97 23 3 3 [(0,t58),(1,t59),(2,t60)] fun t61 s98 =>
 (env 82 [(.pv (.str [114,97,110,103,101])),(.pv (.str [])),t61] s98 (fun t62 s99 =>
 (lock storeD prog s99 50 t2 t62 fun s100 =>
 (lock loadD prog s100 50 t2 fun r0 =>
 (retV (.tuple [r0,t57]) s100 K)))) (panV X))))))))))) (panV X))))) (panV X)))) (panV X)))
 (callD env (.clo 77 [] [t1]) [] s90 (fun t66 s101 =>
 (lock extractD t66 0 fun t67 =>
 (lock extractD t66 1 fun t68 =>
 (lock allocD prog s101 50 fun t9 s102 =>
 (lock storeD prog s102 50 t9 t67 fun s103 =>
 (lock loadD prog s103 50 t5 fun t69 =>
 (lock loadD prog s103 50 t9 fun t70 =>
 (lock buildSliceD prog false s103 23 2 2 [(0,t69),(1,t70)] fun t71 s104 =>
 (env 82 [(.pv (.str [114,117,108,101])),(.pv (.str [])),t71] s104 (fun t72 s105 =>
 (lock storeD prog s105 50 t2 t72 fun s106 =>
 (lock loadD prog s106 50 t2 fun r0 =>
 (retV (.tuple [r0,t68]) s106 K)))) (panV X)))))))))) (panV X)))) (panV X))/\True))/\True)) (panV X))/\True))))) (panV X)))))) (panV X))) (panV X))))) (panV X))/\True)) (panV X))/\True))/\((env 81 [(.pv (.str [102,117,110,99,116,105,111,110]))] s10 (fun t30 s15 =>
 ((lock loadD prog s15 83 t1 fun t29 =>
 ((env 80 [t29,t30] s15 (fun t31 s16 =>
 (condD t31
 (lock loadD prog s16 83 t1 fun t32 =>
 (env 83 [t32] s16 (fun t33 s17 =>
 (lock storeD prog s17 50 t2 t33 fun s18 =>
 (lock loadD prog s18 50 t2 fun r0 =>
 (retV (.tuple [r0,(.pv (.bool false))]) s18 K)))) (panV X)))
 (lock loadD prog s16 83 t1 fun t35 =>
 (env 74 [t35,(.pv (.int .i64 0))] s16 (fun t36 s19 =>
 (env 75 [(.pv (.str [123]))] s19 (fun t37 s20 =>
 (lock binD prog .eql 53 t36 t37 fun t38 =>
 (condD t38
 ((env 79 [] s20 (fun t39 s26 =>
 ((lock loadD prog s26 83 t1 fun t40 =>
 ((env 78 [t40] s26 (fun t41 s27 =>
 ((lock buildSliceD prog false s27 23 2 2 [(0,t39),(1,t41)] fun t42 s28 =>
 ((env 82 [(.pv (.str [114,117,108,101])),(.pv (.str [])),t42] s28 (fun t43 s29 =>
 ((lock storeD prog s29 50 t2 t43 fun s30 =>
 (lock loadD prog s30 50 t2 fun r0 =>
 (retV (.tuple [r0,(.pv (.bool false))]) s30 K)))/\True)) (panV X))/\True))/\True)) (panV X))/\True))/\True)) (panV X))/\((lock loadD prog s20 83 t1 fun t40 =>
 ((env 79 [] s20 (fun t39 s21 =>
 ((env 78 [t40] s21 (fun t41 s22 =>
 ((lock buildSliceD prog false s22 23 2 2 [(0,t39),(1,t41)] fun t42 s23 =>
 ((env 82 [(.pv (.str [114,117,108,101])),(.pv (.str [])),t42] s23 (fun t43 s24 =>
 ((lock storeD prog s24 50 t2 t43 fun s25 =>
 (lock loadD prog s25 50 t2 fun r0 =>
 (retV (.tuple [r0,(.pv (.bool false))]) s25 K)))/\True)) (panV X))/\True))/\True)) (panV X))/\True)) (panV X))/\True))/\True))
 (lock loadD prog s20 83 t1 fun t44 =>
 (env 84 [t44,(.pv (.int .i64 1)),(.pv (.bool false))] s20 (fun t45 s31 =>
 (lock allocD prog s31 50 fun t5 s32 =>
 (lock storeD prog s32 50 t5 t45 fun s33 =>
 ((lock loadD prog s33 83 t1 fun t46 =>
 ((env 75 [(.pv (.str [44]))] s33 (fun t47 s52 =>
 ((env 80 [t46,t47] s52 (fun t48 s53 =>
 (condD t48
 (lock loadD prog s53 83 t1 fun t49 =>
 (env 85 [t49] s53 (fun t50 s54 =>
 (lock loadD prog s54 83 t1 fun t51 =>
 (env 84 [t51,(.pv (.int .i64 1)),(.pv (.bool false))] s54 (fun t52 s55 =>
 (lock allocD prog s55 50 fun t6 s56 =>
 (lock storeD prog s56 50 t6 t52 fun s57 =>
 (callD env (.clo 77 [] [t1]) [] s57 (fun t55 s58 =>
 (lock extractD t55 0 fun t56 =>
 (lock extractD t55 1 fun t57 =>
 (lock allocD prog s58 50 fun t7 s59 =>
 (lock storeD prog s59 50 t7 t56 fun s60 =>
 (lock loadD prog s60 50 t5 fun t58 =>
 (lock loadD prog s60 50 t6 fun t59 =>
 (lock loadD prog s60 50 t7 fun t60 =>
 (lock buildSliceD prog false s60 23 3 3 [(0,t58),(1,t59),(2,t60)] fun t61 s61 =>
 (env 82 [(.pv (.str [114,97,110,103,101])),(.pv (.str [])),t61] s61 (fun t62 s62 =>
 (lock storeD prog s62 50 t2 t62 fun s63 =>
 (lock loadD prog s63 50 t2 fun r0 =>
 (retV (.tuple [r0,t57]) s63 K)))) (panV X))))))))))) (panV X))))) (panV X)))) (panV X)))
 (callD env (.clo 77 [] [t1]) [] s53 (fun t66 s64 =>
 (lock extractD t66 0 fun t67 =>
 (lock extractD t66 1 fun t68 =>
 (lock allocD prog s64 50 fun t9 s65 =>
 (lock storeD prog s65 50 t9 t67 fun s66 =>
 (lock loadD prog s66 50 t5 fun t69 =>
 (lock loadD prog s66 50 t9 fun t70 =>
 (lock buildSliceD prog false s66 23 2 2 [(0,t69),(1,t70)] fun t71 s67 =>
 (env 82 [(.pv (.str [114,117,108,101])),(.pv (.str [])),t71] s67 (fun t72 s68 =>
 (lock storeD prog s68 50 t2 t72 fun s69 =>
 (lock loadD prog s69 50 t2 fun r0 =>
 (retV (.tuple [r0,t68]) s69 K)))) (panV X)))))))))) (panV X)))) (panV X))/\True)) (panV X))/\True))/\((env 75 [(.pv (.str [44]))] s33 (fun t47 s34 =>
 ((lock loadD prog s34 83 t1 fun t46 =>
 ((env 80 [t46,t47] s34 (fun t48 s35 =>
 (condD t48
 (lock loadD prog s35 83 t1 fun t49 =>
 (env 85 [t49] s35 (fun t50 s36 =>
 (lock loadD prog s36 83 t1 fun t51 =>
 (env 84 [t51,(.pv (.int .i64 1)),(.pv (.bool false))] s36 (fun t52 s37 =>
 (lock allocD prog s37 50 fun t6 s38 =>
 (lock storeD prog s38 50 t6 t52 fun s39 =>
 (callD env (.clo 77 [] [t1]) [] s39 (fun t55 s40 =>
 (lock extractD t55 0 fun t56 =>
 (lock extractD t55 1 fun t57 =>
 (lock allocD prog s40 50 fun t7 s41 =>
 (lock storeD prog s41 50 t7 t56 fun s42 =>
 (lock loadD prog s42 50 t5 fun t58 =>
 (lock loadD prog s42 50 t6 fun t59 =>
 (lock loadD prog s42 50 t7 fun t60 =>
 (lock buildSliceD prog false s42 23 3 3 [(0,t58),(1,t59),(2,t60)] fun t61 s43 =>
 (env 82 [(.pv (.str [114,97,110,103,101])),(.pv (.str [])),t61] s43 (fun t62 s44 =>
 (lock storeD prog s44 50 t2 t62 fun s45 =>
 (lock loadD prog s45 50 t2 fun r0 =>
 (retV (.tuple [r0,t57]) s45 K)))) (panV X))))))))))) (panV X))))) (panV X)))) (panV X)))
 (callD env (.clo 77 [] [t1]) [] s35 (fun t66 s46 =>
 (lock extractD t66 0 fun t67 =>
 (lock extractD t66 1 fun t68 =>
 (lock allocD prog s46 50 fun t9 s47 =>
 (lock storeD prog s47 50 t9 t67 fun s48 =>
 (lock loadD prog s48 50 t5 fun t69 =>
 (lock loadD prog s48 50 t9 fun t70 =>
 (lock buildSliceD prog false s48 23 2 2 [(0,t69),(1,t70)] fun t71 s49 =>
 (env 82 [(.pv (.str [114,117,108,101])),(.pv (.str [])),t71] s49 (fun t72 s50 =>
 (lock storeD prog s50 50 t2 t72 fun s51 =>
 (lock loadD prog s51 50 t2 fun r0 =>
 (retV (.tuple [r0,t68]) s51 K)))) (panV X)))))))))) (panV X)))) (panV X))/\True))/\True)) (panV X))/\True))))) (panV X)))))) (panV X))) (panV X))))) (panV X))/\True))/\True)) (panV X))/\True)))) (panV X))/\True))/\True)) (panV X))/\True)))) (panV X))/\True))/\True)) (panV X))/\True))))
theorem S37_eq (env:Env) (p0_a:AV) (s:AS) (K:AV->AS->Prop) (X:PV->AS->Prop):S37 env p0_a s K X=bodyD prog env an37 f37 [p0_a] s K X:=by
  unfold S37
  kernel_rfl
theorem S37_ok:(match f37.body with | some c=>okCode an37 prog f37.ntmps c | none=>false)=true:=by kernel_rfl
def an77:An:={ mu:=[],cut:=[],loop:=[] }
def S77 (env:Env) (t0_a:AV) (s:AS) (K:AV->AS->Prop) (X:PV->AS->Prop):Prop :=
 (lock allocD prog s 50 fun t1 s1 =>
 (lock loadD prog s1 83 t0_a fun t3 =>
 (env 74 [t3,(.pv (.int .i64 0))] s1 (fun t4 s2 =>
 (env 75 [(.pv (.str [123]))] s2 (fun t5 s3 =>
 (lock binD prog .eql 53 t4 t5 fun t6 =>
 (condD t6
 (lock loadD prog s3 83 t0_a fun t7 =>
 (env 78 [t7] s3 (fun t8 s4 =>
 (lock storeD prog s4 50 t1 t8 fun s5 =>
 (lock loadD prog s5 50 t1 fun r0 =>
 (retV (.tuple [r0,(.pv (.bool false))]) s5 K)))) (panV X)))
 (env 79 [] s3 (fun t9 s6 =>
 (lock storeD prog s6 50 t1 t9 fun s7 =>
 (lock loadD prog s7 50 t1 fun r0 =>
 (retV (.tuple [r0,(.pv (.bool true))]) s7 K)))) (panV X))))) (panV X))) (panV X))))
theorem S77_eq (env:Env) (t0_a:AV) (s:AS) (K:AV->AS->Prop) (X:PV->AS->Prop):S77 env t0_a s K X=bodyD prog env an77 f77 [t0_a] s K X:=by
  unfold S77
  kernel_rfl
theorem S77_ok:(match f77.body with | some c=>okCode an77 prog f77.ntmps c | none=>false)=true:=by kernel_rfl
end Go.AD
