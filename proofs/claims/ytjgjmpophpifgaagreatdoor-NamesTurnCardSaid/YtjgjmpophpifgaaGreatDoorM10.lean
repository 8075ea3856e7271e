import Derived.Test.YtjgjmpophpifgaaGreatDoorM7
import Derived.Test.YtjgjmpophpifgaaGreatDoorM9
set_option linter.unusedVariables false
set_option maxRecDepth 100000
namespace Go.AD
open Go.Proofs.Tryz
def an152:An:={ mu:=[],cut:=[],loop:=[] }
def S152 (env:Env) (c0_a:AV) (s:AS) (K:AV->AS->Prop) (X:PV->AS->Prop):Prop :=
 (lock binD prog .leq 5 (.pv (.int .u8 48)) c0_a fun t4 =>
 (guardD t4 true
 (lock binD prog .leq 5 c0_a (.pv (.int .u8 57)) fun t7 =>
 (retV (t7) s K))
 (retV ((.pv (.bool false))) s K)))
theorem S152_eq (env:Env) (c0_a:AV) (s:AS) (K:AV->AS->Prop) (X:PV->AS->Prop):S152 env c0_a s K X=bodyD prog env an152 f152 [c0_a] s K X:=by
  unfold S152
  kernel_rfl
theorem S152_ok:(match f152.body with | some c=>okCode an152 prog f152.ntmps c | none=>false)=true:=by kernel_rfl
def an156:An:={ mu:=[],cut:=[],loop:=[] }
def S156 (env:Env) (c0_a:AV) (s:AS) (K:AV->AS->Prop) (X:PV->AS->Prop):Prop :=
 (lock binD prog .leq 5 (.pv (.int .u8 48)) c0_a fun t4 =>
 (guardD t4 true
 (lock binD prog .leq 5 c0_a (.pv (.int .u8 55)) fun t7 =>
 (retV (t7) s K))
 (retV ((.pv (.bool false))) s K)))
theorem S156_eq (env:Env) (c0_a:AV) (s:AS) (K:AV->AS->Prop) (X:PV->AS->Prop):S156 env c0_a s K X=bodyD prog env an156 f156 [c0_a] s K X:=by
  unfold S156
  kernel_rfl
theorem S156_ok:(match f156.body with | some c=>okCode an156 prog f156.ntmps c | none=>false)=true:=by kernel_rfl
def an122:An:={ mu:=[],cut:=[],loop:=[] }
def S122 (env:Env) (c0_a:AV) (s:AS) (K:AV->AS->Prop) (X:PV->AS->Prop):Prop :=
 (lock binD prog .or 5 c0_a (.pv (.int .u8 32)) fun t4 =>
 (lock binD prog .leq 5 (.pv (.int .u8 97)) t4 fun t5 =>
 (guardD t5 true
 (lock binD prog .or 5 c0_a (.pv (.int .u8 32)) fun t8 =>
 (lock binD prog .leq 5 t8 (.pv (.int .u8 122)) fun t9 =>
 (guardD t9 false
 (lock binD prog .eql 5 c0_a (.pv (.int .u8 95)) fun t13 =>
 (retV (t13) s K))
 (retV ((.pv (.bool true))) s K))))
 (lock binD prog .eql 5 c0_a (.pv (.int .u8 95)) fun t13 =>
 (retV (t13) s K)))))
theorem S122_eq (env:Env) (c0_a:AV) (s:AS) (K:AV->AS->Prop) (X:PV->AS->Prop):S122 env c0_a s K X=bodyD prog env an122 f122 [c0_a] s K X:=by
  unfold S122
  kernel_rfl
theorem S122_ok:(match f122.body with | some c=>okCode an122 prog f122.ntmps c | none=>false)=true:=by kernel_rfl
def an157:An:={ mu:=[],cut:=[],loop:=[] }
def S157 (env:Env) (c0_a:AV) (s:AS) (K:AV->AS->Prop) (X:PV->AS->Prop):Prop :=
 (env 122 [c0_a] s (fun t4 s1 =>
 (guardD t4 false
 (env 152 [c0_a] s1 (fun t7 s2 =>
 (retV (t7) s2 K)) (panV X))
 (retV ((.pv (.bool true))) s1 K))) (panV X))
theorem S157_eq (env:Env) (c0_a:AV) (s:AS) (K:AV->AS->Prop) (X:PV->AS->Prop):S157 env c0_a s K X=bodyD prog env an157 f157 [c0_a] s K X:=by
  unfold S157
  kernel_rfl
theorem S157_ok:(match f157.body with | some c=>okCode an157 prog f157.ntmps c | none=>false)=true:=by kernel_rfl
def an116:An:={ mu:=[],cut:=[],loop:=[] }
def S116 (env:Env) (c0_a:AV) (s:AS) (K:AV->AS->Prop) (X:PV->AS->Prop):Prop :=
 (lock binD prog .neq 5 c0_a (.pv (.int .u8 10)) fun t4 =>
 (retV (t4) s K))
theorem S116_eq (env:Env) (c0_a:AV) (s:AS) (K:AV->AS->Prop) (X:PV->AS->Prop):S116 env c0_a s K X=bodyD prog env an116 f116 [c0_a] s K X:=by
  unfold S116
  kernel_rfl
theorem S116_ok:(match f116.body with | some c=>okCode an116 prog f116.ntmps c | none=>false)=true:=by kernel_rfl
def an115:An:={ mu:=[],cut:=[],loop:=[(2,[0,1,5])] }
def L115_2 (env:Env) (I2:Nat->List AV->AS->Prop) (m2:Nat) (s0_l2 is1_l2 n5_l2:AV) (s:AS) (K:AV->AS->Prop) (X:PV->AS->Prop):Prop :=
 (lock lenD prog 9 s0_l2 fun t8 =>
 (lock binD prog .lss 3 n5_l2 t8 fun t9 =>
 (guardD t9 true
 (lock indexD prog 9 s0_l2 n5_l2 fun t14 =>
 (callD env is1_l2 [t14] s (fun t15 s2 =>
 (condD t15
 (lock binD prog .add 3 n5_l2 (.pv (.int .i64 1)) fun t18 =>
 (∃ m',m' < m2/\I2 m' [s0_l2,is1_l2,t18] s2))
 (retV (n5_l2) s2 K))) (panV X)))
 (retV (n5_l2) s K))))
theorem L115_2_eq (env:Env) (I2:Nat->List AV->AS->Prop) (m2:Nat) (s0_l2 is1_l2 n5_l2:AV) (s:AS) (K:AV->AS->Prop) (X:PV->AS->Prop):L115_2 env I2 m2 s0_l2 is1_l2 n5_l2 s K X=wpD prog env an115 (subC (bodyC f115) [1,1,0,0,0]) (contQ prog env an115 (bodyC f115) [1,1,0,0,0] [(I2,m2)] (rootQ prog f115 K X)) [(0,s0_l2),(1,is1_l2),(5,n5_l2)] s:=by
  unfold L115_2
  kernel_rfl
theorem lp115_2 {α:Type} {env:Env}  {s0_l2 is1_l2:AV} {s:AS} {K:AV->AS->Prop} {X:PV->AS->Prop} (μ:α->AS->Nat) (I:α->AS->Prop) (en5_l2:α->AV) (a0:α) (h0:I a0 s)
 (h:∀ a s,I a s->L115_2 env  (Inv (fun a=>[s0_l2,is1_l2,en5_l2 a]) μ I) (μ a s) s0_l2 is1_l2 (en5_l2 a) s K X) :
 ∃ I2:Nat->List AV->AS->Prop,(∃ m,I2 m [s0_l2,is1_l2,en5_l2 a0] s)/\∀ (m:Nat) (x0 x1 x2:AV),∀ s,I2 m [x0,x1,x2] s ->
 L115_2 env  I2 m x0 x1 x2 s K X:=by
  refine ⟨Inv (fun a=>[s0_l2,is1_l2,en5_l2 a]) μ I,⟨_,a0,rfl,rfl,h0⟩,?_⟩
  rintro m x0 x1 x2 s' ⟨a,hv,rfl,hI⟩
  simp only [List.cons.injEq,and_true] at hv
  obtain ⟨rfl,rfl,rfl⟩:=hv
  exact h a s' hI
def S115 (env:Env) (s0_a is1_a:AV) (s:AS) (K:AV->AS->Prop) (X:PV->AS->Prop):Prop :=
 (∃ I2:Nat->List AV->AS->Prop,(∃ m,I2 m [s0_a,is1_a,(.pv (.int .i64 0))] s)/\∀ (m2:Nat) (s0_l2 is1_l2 n5_l2:AV),∀ s1,I2 m2 [s0_l2,is1_l2,n5_l2] s1 ->
 (L115_2 env I2 m2 s0_l2 is1_l2 n5_l2 s1 K X))
theorem S115_eq (env:Env) (s0_a is1_a:AV) (s:AS) (K:AV->AS->Prop) (X:PV->AS->Prop):S115 env s0_a is1_a s K X=bodyD prog env an115 f115 [s0_a,is1_a] s K X:=by
  unfold S115
  simp only [L115_2_eq]
  kernel_rfl
theorem S115_ok:(match f115.body with | some c=>okCode an115 prog f115.ntmps c | none=>false)=true:=by kernel_rfl
def an112:An:={ mu:=[],cut:=[(4,[0,3,4,20]),(7,[0,3,4]),(10,[0,3,49]),(13,[0,3,6])],loop:=[] }
def J112_13 (env:Env)  (s0_j13 n3_j13 at6_j13:AV) (s:AS) (K:AV->AS->Prop) (X:PV->AS->Prop):Prop :=
 (lock sliceD prog 9 s0_j13 (some at6_j13) none fun t72 =>
 (env 115 [t72,(.pv (.func 152))] s (fun t73 s3 =>
 (lock binD prog .gtr 3 t73 (.pv (.int .i64 0)) fun t75 =>
 (condD t75
 (lock binD prog .add 3 at6_j13 t73 fun t78 =>
 (retV (t78) s3 K))
 (retV (n3_j13) s3 K)))) (panV X)))
def J112_10 (env:Env)  (s0_j10 n3_j10 t49_j10:AV) (s:AS) (K:AV->AS->Prop) (X:PV->AS->Prop):Prop :=
 (condD t49_j10
 (lock binD prog .add 3 n3_j10 (.pv (.int .i64 1)) fun t51 =>
 (lock lenD prog 9 s0_j10 fun t54 =>
 (lock binD prog .lss 3 t51 t54 fun t55 =>
 (guardD t55 true
 (lock indexD prog 9 s0_j10 t51 fun t59 =>
 (lock binD prog .eql 5 t59 (.pv (.int .u8 43)) fun t60 =>
 (guardD t60 false
 (lock indexD prog 9 s0_j10 t51 fun t64 =>
 (lock binD prog .eql 5 t64 (.pv (.int .u8 45)) fun t65 =>
 (condD t65
 (lock binD prog .add 3 t51 (.pv (.int .i64 1)) fun t69 =>
 (J112_13 env  (s0_j10) (n3_j10) (t69) s K X))
 (J112_13 env  (s0_j10) (n3_j10) (t51) s K X))))
 (lock binD prog .add 3 t51 (.pv (.int .i64 1)) fun t69 =>
 (J112_13 env  (s0_j10) (n3_j10) (t69) s K X)))))
 (J112_13 env  (s0_j10) (n3_j10) (t51) s K X)))))
 (retV (n3_j10) s K))
def J112_7 (env:Env)  (s0_j7 n3_j7 some4_j7:AV) (s:AS) (K:AV->AS->Prop) (X:PV->AS->Prop):Prop :=
 (lock binD prog .eql 3 some4_j7 (.pv (.int .i64 0)) fun t38 =>
 (condD t38
 (retV ((.pv (.int .i64 0))) s K)
 (lock lenD prog 9 s0_j7 fun t41 =>
 (lock binD prog .lss 3 n3_j7 t41 fun t42 =>
 (guardD t42 true
 (lock indexD prog 9 s0_j7 n3_j7 fun t46 =>
 (lock binD prog .or 5 t46 (.pv (.int .u8 32)) fun t47 =>
 (lock binD prog .eql 5 t47 (.pv (.int .u8 101)) fun t48 =>
 (J112_10 env  (s0_j7) (n3_j7) (t48) s K X))))
 (J112_10 env  (s0_j7) (n3_j7) (.pv (.bool false)) s K X))))))
def J112_4 (env:Env)  (s0_j4 n3_j4 some4_j4 t20_j4:AV) (s:AS) (K:AV->AS->Prop) (X:PV->AS->Prop):Prop :=
 (condD t20_j4
 (lock binD prog .add 3 n3_j4 (.pv (.int .i64 1)) fun t23 =>
 (lock sliceD prog 9 s0_j4 (some t23) none fun t24 =>
 (env 115 [t24,(.pv (.func 152))] s (fun t25 s2 =>
 (lock binD prog .add 3 some4_j4 t25 fun t28 =>
 (lock binD prog .gtr 3 t28 (.pv (.int .i64 0)) fun t29 =>
 (condD t29
 (lock binD prog .add 3 n3_j4 (.pv (.int .i64 1)) fun t31 =>
 (lock binD prog .add 3 t31 t25 fun t33 =>
 (lock binD prog .add 3 some4_j4 t25 fun t36 =>
 (J112_7 env  (s0_j4) (t33) (t36) s2 K X))))
 (J112_7 env  (s0_j4) (n3_j4) (some4_j4) s2 K X))))) (panV X))))
 (J112_7 env  (s0_j4) (n3_j4) (some4_j4) s K X))
def S112 (env:Env) (s0_a:AV) (s:AS) (K:AV->AS->Prop) (X:PV->AS->Prop):Prop :=
 (env 115 [s0_a,(.pv (.func 152))] s (fun t9 s1 =>
 (lock lenD prog 9 s0_a fun t13 =>
 (lock binD prog .lss 3 t9 t13 fun t14 =>
 (guardD t14 true
 (lock indexD prog 9 s0_a t9 fun t18 =>
 (lock binD prog .eql 5 t18 (.pv (.int .u8 46)) fun t19 =>
 (J112_4 env  (s0_a) (t9) (t9) (t19) s1 K X)))
 (J112_4 env  (s0_a) (t9) (t9) (.pv (.bool false)) s1 K X))))) (panV X))
theorem S112_eq (env:Env) (s0_a:AV) (s:AS) (K:AV->AS->Prop) (X:PV->AS->Prop):S112 env s0_a s K X=bodyD prog env an112 f112 [s0_a] s K X:=by
  unfold S112
  kernel_rfl
theorem S112_ok:(match f112.body with | some c=>okCode an112 prog f112.ntmps c | none=>false)=true:=by kernel_rfl
def an113:An:={ mu:=[],cut:=[],loop:=[] }
def S113 (env:Env) (l0_a n1_a:AV) (s:AS) (K:AV->AS->Prop) (X:PV->AS->Prop):Prop :=
 (lock nilD l0_a fun t7 =>
 (lock fieldAddrD prog 123 t7 0 fun t8 =>
 (lock loadD prog s 9 t8 fun t9 =>
 (lock sliceD prog 9 t9 none (some n1_a) fun t11 =>
 (lock nilD l0_a fun t14 =>
 (lock fieldAddrD prog 123 t14 0 fun t15 =>
 (lock loadD prog s 9 t15 fun t16 =>
 (lock sliceD prog 9 t16 (some n1_a) none fun t18 =>
 (lock nilD l0_a fun t19 =>
 (lock fieldAddrD prog 123 t19 0 fun t20 =>
 (lock storeD prog s 9 t20 t18 fun s1 =>
 (retV (t11) s1 K))))))))))))
theorem S113_eq (env:Env) (l0_a n1_a:AV) (s:AS) (K:AV->AS->Prop) (X:PV->AS->Prop):S113 env l0_a n1_a s K X=bodyD prog env an113 f113 [l0_a,n1_a] s K X:=by
  unfold S113
  kernel_rfl
theorem S113_ok:(match f113.body with | some c=>okCode an113 prog f113.ntmps c | none=>false)=true:=by kernel_rfl
def an117:An:={ mu:=[],cut:=[],loop:=[] }
def S117 (env:Env) (l0_a kind1_a text2_a:AV) (s:AS) (K:AV->AS->Prop) (X:PV->AS->Prop):Prop :=
 (lock nilD l0_a fun t8 =>
 (lock fieldAddrD prog 123 t8 1 fun t9 =>
 (lock loadD prog s 42 t9 fun t10 =>
 (lock buildD prog 53 [(0,kind1_a),(1,text2_a)] fun t13 =>
 (lock buildSliceD prog false s 42 1 1 [(0,t13)] fun t14 s1 =>
 (lock appendD prog false s1 42 t10 t14 fun t15 s2 =>
 (lock nilD l0_a fun t16 =>
 (lock fieldAddrD prog 123 t16 1 fun t17 =>
 (lock storeD prog s2 42 t17 t15 fun s3 =>
 (retV (.tuple []) s3 K))))))))))
theorem S117_eq (env:Env) (l0_a kind1_a text2_a:AV) (s:AS) (K:AV->AS->Prop) (X:PV->AS->Prop):S117 env l0_a kind1_a text2_a s K X=bodyD prog env an117 f117 [l0_a,kind1_a,text2_a] s K X:=by
  unfold S117
  kernel_rfl
theorem S117_ok:(match f117.body with | some c=>okCode an117 prog f117.ntmps c | none=>false)=true:=by kernel_rfl
def an124:An:={ mu:=[],cut:=[],loop:=[] }
def S124 (env:Env) (list0_a w1_a:AV) (s:AS) (K:AV->AS->Prop) (X:PV->AS->Prop):Prop :=
 (lock binD prog .add 9 (.pv (.str [32])) w1_a fun t7 =>
 (lock binD prog .add 9 t7 (.pv (.str [32])) fun t8 =>
 (env 24 [list0_a,t8] s (fun t9 s1 =>
 (retV (t9) s1 K)) (panV X))))
theorem S124_eq (env:Env) (list0_a w1_a:AV) (s:AS) (K:AV->AS->Prop) (X:PV->AS->Prop):S124 env list0_a w1_a s K X=bodyD prog env an124 f124 [list0_a,w1_a] s K X:=by
  unfold S124
  kernel_rfl
theorem S124_ok:(match f124.body with | some c=>okCode an124 prog f124.ntmps c | none=>false)=true:=by kernel_rfl
def an120:An:={ mu:=[],cut:=[(9,[3,23,24])],loop:=[],any:=[3] }
def J120_9 (env:Env)  (t3_j9 t23_j9 t24_j9:AV) (s:AS) (K:AV->AS->Prop) (X:PV->AS->Prop):Prop :=
 (condD t24_j9
 (retV ((.pv (.bool true))) s K)
 (lock binD prog .eql 9 t23_j9 (.pv (.str [98,117,105,108,116])) fun t30 =>
 (condD t30
 (lock fieldAddrD prog 53 t3_j9 1 fun t31 =>
 (lock loadD prog s 9 t31 fun t32 =>
 (lock binD prog .eql 9 t32 (.pv (.str [108,101,110,103,116,104])) fun t33 =>
 (retV (t33) s K))))
 (lock binD prog .eql 9 t23_j9 (.pv (.str [111,112])) fun t35 =>
 (condD t35
 (lock fieldAddrD prog 53 t3_j9 1 fun t36 =>
 (lock loadD prog s 9 t36 fun t37 =>
 (env 124 [(.pv (.str [32,41,32,93,32,36,32,43,43,32,45,45,32])),t37] s (fun t38 s3 =>
 (retV (t38) s3 K)) (panV X))))
 (retV ((.pv (.bool false))) s K))))))
def S120 (env:Env) (l0_a:AV) (s:AS) (K:AV->AS->Prop) (X:PV->AS->Prop):Prop :=
 (lock nilD l0_a fun t5 =>
 (lock fieldAddrD prog 123 t5 1 fun t6 =>
 (lock loadD prog s 42 t6 fun t7 =>
 (lock lenD prog 42 t7 fun t8 =>
 (lock binD prog .eql 3 t8 (.pv (.int .i64 0)) fun t9 =>
 (condD t9
 (retV ((.pv (.bool false))) s K)
 (lock nilD l0_a fun t11 =>
 (lock fieldAddrD prog 123 t11 1 fun t12 =>
 (lock nilD l0_a fun t15 =>
 (lock fieldAddrD prog 123 t15 1 fun t16 =>
 ((lock loadD prog s 42 t12 fun t13 =>
 ((lock loadD prog s 42 t16 fun t17 =>
 (lock lenD prog 42 t17 fun t18 =>
 (lock binD prog .sub 3 t18 (.pv (.int .i64 1)) fun t19 =>
 (lock indexAddrD prog 42 t13 t19 fun t20 =>
 ((lock loadD prog s 53 t20 fun t21 =>
 ((lock allocD prog s 53 fun t3 s15 =>
 ((lock storeD prog s15 53 t3 t21 fun s16 =>
 (lock fieldAddrD prog 53 t3 0 fun t22 =>
 (lock loadD prog s16 9 t22 fun t23 =>
 (lock binD prog .eql 9 t23 (.pv (.str [110,117,109])) fun t25 =>
 (condD t25
 (J120_9 env  (t3) (t23) (t25) s16 K X)
 (lock binD prog .eql 9 t23 (.pv (.str [115,116,114])) fun t26 =>
 (condD t26
 (J120_9 env  (t3) (t23) (t26) s16 K X)
 (lock binD prog .eql 9 t23 (.pv (.str [101,114,101])) fun t27 =>
 (condD t27
 (J120_9 env  (t3) (t23) (t27) s16 K X)
 (lock binD prog .eql 9 t23 (.pv (.str [110,97,109,101])) fun t28 =>
 (J120_9 env  (t3) (t23) (t28) s16 K X)))))))))))/\True))/\True))/\((lock allocD prog s 53 fun t3 s13 =>
 ((lock loadD prog s13 53 t20 fun t21 =>
 ((lock storeD prog s13 53 t3 t21 fun s14 =>
 (lock fieldAddrD prog 53 t3 0 fun t22 =>
 (lock loadD prog s14 9 t22 fun t23 =>
 (lock binD prog .eql 9 t23 (.pv (.str [110,117,109])) fun t25 =>
 (condD t25
 (J120_9 env  (t3) (t23) (t25) s14 K X)
 (lock binD prog .eql 9 t23 (.pv (.str [115,116,114])) fun t26 =>
 (condD t26
 (J120_9 env  (t3) (t23) (t26) s14 K X)
 (lock binD prog .eql 9 t23 (.pv (.str [101,114,101])) fun t27 =>
 (condD t27
 (J120_9 env  (t3) (t23) (t27) s14 K X)
 (lock binD prog .eql 9 t23 (.pv (.str [110,97,109,101])) fun t28 =>
 (J120_9 env  (t3) (t23) (t28) s14 K X)))))))))))/\True))/\True))/\True))))))/\((lock allocD prog s 53 fun t3 s11 =>
 ((lock loadD prog s11 42 t16 fun t17 =>
 (lock lenD prog 42 t17 fun t18 =>
 (lock binD prog .sub 3 t18 (.pv (.int .i64 1)) fun t19 =>
 (lock indexAddrD prog 42 t13 t19 fun t20 =>
 ((lock loadD prog s11 53 t20 fun t21 =>
 ((lock storeD prog s11 53 t3 t21 fun s12 =>
 (lock fieldAddrD prog 53 t3 0 fun t22 =>
 (lock loadD prog s12 9 t22 fun t23 =>
 (lock binD prog .eql 9 t23 (.pv (.str [110,117,109])) fun t25 =>
 (condD t25
 (J120_9 env  (t3) (t23) (t25) s12 K X)
 (lock binD prog .eql 9 t23 (.pv (.str [115,116,114])) fun t26 =>
 (condD t26
 (J120_9 env  (t3) (t23) (t26) s12 K X)
 (lock binD prog .eql 9 t23 (.pv (.str [101,114,101])) fun t27 =>
 (condD t27
 (J120_9 env  (t3) (t23) (t27) s12 K X)
 (lock binD prog .eql 9 t23 (.pv (.str [110,97,109,101])) fun t28 =>
 (J120_9 env  (t3) (t23) (t28) s12 K X)))))))))))/\True))/\True)))))/\True))/\True)))/\((lock loadD prog s 42 t16 fun t17 =>
 (lock lenD prog 42 t17 fun t18 =>
 (lock binD prog .sub 3 t18 (.pv (.int .i64 1)) fun t19 =>
 ((lock loadD prog s 42 t12 fun t13 =>
 (lock indexAddrD prog 42 t13 t19 fun t20 =>
 ((lock loadD prog s 53 t20 fun t21 =>
 ((lock allocD prog s 53 fun t3 s9 =>
 ((lock storeD prog s9 53 t3 t21 fun s10 =>
 (lock fieldAddrD prog 53 t3 0 fun t22 =>
 (lock loadD prog s10 9 t22 fun t23 =>
 (lock binD prog .eql 9 t23 (.pv (.str [110,117,109])) fun t25 =>
 (condD t25
 (J120_9 env  (t3) (t23) (t25) s10 K X)
 (lock binD prog .eql 9 t23 (.pv (.str [115,116,114])) fun t26 =>
 (condD t26
 (J120_9 env  (t3) (t23) (t26) s10 K X)
 (lock binD prog .eql 9 t23 (.pv (.str [101,114,101])) fun t27 =>
 (condD t27
 (J120_9 env  (t3) (t23) (t27) s10 K X)
 (lock binD prog .eql 9 t23 (.pv (.str [110,97,109,101])) fun t28 =>
 (J120_9 env  (t3) (t23) (t28) s10 K X)))))))))))/\True))/\True))/\((lock allocD prog s 53 fun t3 s7 =>
 ((lock loadD prog s7 53 t20 fun t21 =>
 ((lock storeD prog s7 53 t3 t21 fun s8 =>
 (lock fieldAddrD prog 53 t3 0 fun t22 =>
 (lock loadD prog s8 9 t22 fun t23 =>
 (lock binD prog .eql 9 t23 (.pv (.str [110,117,109])) fun t25 =>
 (condD t25
 (J120_9 env  (t3) (t23) (t25) s8 K X)
 (lock binD prog .eql 9 t23 (.pv (.str [115,116,114])) fun t26 =>
 (condD t26
 (J120_9 env  (t3) (t23) (t26) s8 K X)
 (lock binD prog .eql 9 t23 (.pv (.str [101,114,101])) fun t27 =>
 (condD t27
 (J120_9 env  (t3) (t23) (t27) s8 K X)
 (lock binD prog .eql 9 t23 (.pv (.str [110,97,109,101])) fun t28 =>
 (J120_9 env  (t3) (t23) (t28) s8 K X)))))))))))/\True))/\True))/\True))))/\((lock allocD prog s 53 fun t3 s5 =>
 ((lock loadD prog s5 42 t12 fun t13 =>
 (lock indexAddrD prog 42 t13 t19 fun t20 =>
 ((lock loadD prog s5 53 t20 fun t21 =>
 ((lock storeD prog s5 53 t3 t21 fun s6 =>
 (lock fieldAddrD prog 53 t3 0 fun t22 =>
 (lock loadD prog s6 9 t22 fun t23 =>
 (lock binD prog .eql 9 t23 (.pv (.str [110,117,109])) fun t25 =>
 (condD t25
 (J120_9 env  (t3) (t23) (t25) s6 K X)
 (lock binD prog .eql 9 t23 (.pv (.str [115,116,114])) fun t26 =>
 (condD t26
 (J120_9 env  (t3) (t23) (t26) s6 K X)
 (lock binD prog .eql 9 t23 (.pv (.str [101,114,101])) fun t27 =>
 (condD t27
 (J120_9 env  (t3) (t23) (t27) s6 K X)
 (lock binD prog .eql 9 t23 (.pv (.str [110,97,109,101])) fun t28 =>
 (J120_9 env  (t3) (t23) (t28) s6 K X)))))))))))/\True))/\True)))/\True))/\True)))))/\((lock allocD prog s 53 fun t3 s1 =>
 ((lock loadD prog s1 42 t12 fun t13 =>
 ((lock loadD prog s1 42 t16 fun t17 =>
 (lock lenD prog 42 t17 fun t18 =>
 (lock binD prog .sub 3 t18 (.pv (.int .i64 1)) fun t19 =>
 (lock indexAddrD prog 42 t13 t19 fun t20 =>
 ((lock loadD prog s1 53 t20 fun t21 =>
 ((lock storeD prog s1 53 t3 t21 fun s4 =>
 (lock fieldAddrD prog 53 t3 0 fun t22 =>
 (lock loadD prog s4 9 t22 fun t23 =>
 (lock binD prog .eql 9 t23 (.pv (.str [110,117,109])) fun t25 =>
 (condD t25
 (J120_9 env  (t3) (t23) (t25) s4 K X)
 (lock binD prog .eql 9 t23 (.pv (.str [115,116,114])) fun t26 =>
 (condD t26
 (J120_9 env  (t3) (t23) (t26) s4 K X)
 (lock binD prog .eql 9 t23 (.pv (.str [101,114,101])) fun t27 =>
 (condD t27
 (J120_9 env  (t3) (t23) (t27) s4 K X)
 (lock binD prog .eql 9 t23 (.pv (.str [110,97,109,101])) fun t28 =>
 (J120_9 env  (t3) (t23) (t28) s4 K X)))))))))))/\True))/\True)))))/\True))/\((lock loadD prog s1 42 t16 fun t17 =>
 (lock lenD prog 42 t17 fun t18 =>
 (lock binD prog .sub 3 t18 (.pv (.int .i64 1)) fun t19 =>
 ((lock loadD prog s1 42 t12 fun t13 =>
 (lock indexAddrD prog 42 t13 t19 fun t20 =>
 ((lock loadD prog s1 53 t20 fun t21 =>
 ((lock storeD prog s1 53 t3 t21 fun s2 =>
 (lock fieldAddrD prog 53 t3 0 fun t22 =>
 (lock loadD prog s2 9 t22 fun t23 =>
 (lock binD prog .eql 9 t23 (.pv (.str [110,117,109])) fun t25 =>
 (condD t25
 (J120_9 env  (t3) (t23) (t25) s2 K X)
 (lock binD prog .eql 9 t23 (.pv (.str [115,116,114])) fun t26 =>
 (condD t26
 (J120_9 env  (t3) (t23) (t26) s2 K X)
 (lock binD prog .eql 9 t23 (.pv (.str [101,114,101])) fun t27 =>
 (condD t27
 (J120_9 env  (t3) (t23) (t27) s2 K X)
 (lock binD prog .eql 9 t23 (.pv (.str [110,97,109,101])) fun t28 =>
 (J120_9 env  (t3) (t23) (t28) s2 K X)))))))))))/\True))/\True)))/\True))))/\True)))/\True)))))))))))))
theorem S120_eq (env:Env) (l0_a:AV) (s:AS) (K:AV->AS->Prop) (X:PV->AS->Prop):S120 env l0_a s K X=bodyD prog env an120 f120 [l0_a] s K X:=by
  unfold S120
  kernel_rfl
theorem S120_ok:(match f120.body with | some c=>okCode an120 prog f120.ntmps c | none=>false)=true:=by kernel_rfl
def an123:An:={ mu:=[],cut:=[],loop:=[] }
def S123 (env:Env) (l0_a:AV) (s:AS) (K:AV->AS->Prop) (X:PV->AS->Prop):Prop :=
 (lock nilD l0_a fun t6 =>
 (lock fieldAddrD prog 123 t6 0 fun t7 =>
 (lock loadD prog s 9 t7 fun t8 =>
 (env 115 [t8,(.pv (.func 157))] s (fun t9 s1 =>
 (env 113 [l0_a,t9] s1 (fun t10 s2 =>
 (env 124 [(.pv (.str [32,103,101,116,108,105,110,101,32,115,121,115,116,101,109,32,99,108,111,115,101,32,102,102,108,117,115,104,32,110,101,120,116,102,105,108,101,32,114,97,110,100,32,115,114,97,110,100,32,115,105,110,32,99,111,115,32,97,116,97,110,50,32,101,120,112,32,108,111,103,32,115,113,114,116,32,102,117,110,99,32,69,78,86,73,82,79,78,32,65,82,71,86,32,65,82,71,67,32])),t10] s2 (fun t16 s3 =>
 (condD t16
 (retV ((.pv (.bool false))) s3 K)
 (env 124 [(.pv (.str [32,66,69,71,73,78,32,69,78,68,32,102,117,110,99,116,105,111,110,32,100,101,108,101,116,101,32,105,110,32,105,102,32,101,108,115,101,32,119,104,105,108,101,32,100,111,32,102,111,114,32,98,114,101,97,107,32,99,111,110,116,105,110,117,101,32,110,101,120,116,32,101,120,105,116,32,114,101,116,117,114,110,32,112,114,105,110,116,32,112,114,105,110,116,102,32])),t10] s3 (fun t19 s4 =>
 (condD t19
 (env 117 [l0_a,(.pv (.str [119,111,114,100])),t10] s4 (fun t22 s5 =>
 (retV ((.pv (.bool true))) s5 K)) (panV X))
 (env 124 [(.pv (.str [32,108,101,110,103,116,104,32,115,117,98,115,116,114,32,105,110,100,101,120,32,115,112,108,105,116,32,115,117,98,32,103,115,117,98,32,109,97,116,99,104,32,115,112,114,105,110,116,102,32,116,111,108,111,119,101,114,32,116,111,117,112,112,101,114,32,105,110,116,32])),t10] s4 (fun t25 s6 =>
 (condD t25
 (env 117 [l0_a,(.pv (.str [98,117,105,108,116])),t10] s6 (fun t28 s7 =>
 (retV ((.pv (.bool true))) s7 K)) (panV X))
 (lock nilD l0_a fun t31 =>
 (lock fieldAddrD prog 123 t31 0 fun t32 =>
 (lock loadD prog s6 9 t32 fun t33 =>
 (env 114 [t33,(.pv (.str [40]))] s6 (fun t34 s8 =>
 (condD t34
 (env 117 [l0_a,(.pv (.str [102,117,110,99])),t10] s8 (fun t37 s9 =>
 (retV ((.pv (.bool true))) s9 K)) (panV X))
 (env 117 [l0_a,(.pv (.str [110,97,109,101])),t10] s8 (fun t13 s10 =>
 (retV ((.pv (.bool true))) s10 K)) (panV X)))) (panV X))))))) (panV X)))) (panV X)))) (panV X))) (panV X))) (panV X)))))
theorem S123_eq (env:Env) (l0_a:AV) (s:AS) (K:AV->AS->Prop) (X:PV->AS->Prop):S123 env l0_a s K X=bodyD prog env an123 f123 [l0_a] s K X:=by
  unfold S123
  kernel_rfl
theorem S123_ok:(match f123.body with | some c=>okCode an123 prog f123.ntmps c | none=>false)=true:=by kernel_rfl
end Go.AD

set_option linter.unusedVariables false
set_option linter.unusedSimpArgs false
set_option maxRecDepth 100000
namespace Go.AD.Lx
open Go.Proofs
theorem or32 (c:UInt8):IntKind.u8.wrap ((BitVec.ofInt 8 (c.toNat:Int) ||| BitVec.ofInt 8 32).toNat:Nat)=(((c ||| 32).toNat:Nat):Int):=allU8 (p:=fun c=>IntKind.u8.wrap ((BitVec.ofInt 8 (c.toNat:Int) ||| BitVec.ofInt 8 32).toNat:Nat)=(((c ||| 32).toNat:Nat):Int)) (by decide +kernel) c
theorem bor32 {t:Nat} (c:UInt8) {K:AV->Prop}:binD PS .or t (.pv (.int .u8 c.toNat)) (.pv (.int .u8 32)) K=K (.pv (.int .u8 (c ||| 32).toNat)):=by
  rw [bin_or]
  exact congrArg (fun z=>K (.pv (.int .u8 z))) (or32 c)
def byteT (p:UInt8->Bool):Tr:=fun args σ K _=>∃ c:UInt8,args=[.pv (.int .u8 c.toNat)]/\K (.pv (.bool (p c))) σ
theorem T_digit_ok {env:Env} (args:List AV) (σ:AS) (K:AV->AS->Prop) (X:PV->AS->Prop) (h:byteT digitB args σ K X):bodyD PS env an152 Tryz.f152 args σ K X:=by
  obtain ⟨c,rfl,h⟩:=h
  rw [<- S152_eq env,S152]
  simp only [go_sem]
  unfold digitB at h
  refine iteI (fun h1=>?_) (fun h1=>?_)
  · rw [decide_eq_true h1,Bool.true_and] at h
    exact retV_self h
  · rw [decide_eq_false h1,Bool.false_and] at h
    exact retV_self h
theorem T_octal_ok {env:Env} (args:List AV) (σ:AS) (K:AV->AS->Prop) (X:PV->AS->Prop) (h:byteT octalB args σ K X):bodyD PS env an156 Tryz.f156 args σ K X:=by
  obtain ⟨c,rfl,h⟩:=h
  rw [<- S156_eq env,S156]
  simp only [go_sem]
  unfold octalB at h
  refine iteI (fun h1=>?_) (fun h1=>?_)
  · rw [decide_eq_true h1,Bool.true_and] at h
    exact retV_self h
  · rw [decide_eq_false h1,Bool.false_and] at h
    exact retV_self h
theorem T_letter_ok {env:Env} (args:List AV) (σ:AS) (K:AV->AS->Prop) (X:PV->AS->Prop) (h:byteT letterB args σ K X):bodyD PS env an122 Tryz.f122 args σ K X:=by
  obtain ⟨c,rfl,h⟩:=h
  rw [<- S122_eq env,S122]
  simp only [lock_eq,bor32]
  simp only [go_sem]
  unfold letterB at h
  refine iteI (fun h1=>?_) (fun h1=>?_)
  · rw [decide_eq_true h1,Bool.true_and] at h
    refine iteI (fun h2=>?_) (fun h2=>?_)
    · rw [decide_eq_true h2,Bool.true_or] at h
      exact retV_self h
    · rw [decide_eq_false h2,Bool.false_or] at h
      exact retV_self h
  · rw [decide_eq_false h1,Bool.false_and,Bool.false_or] at h
    exact retV_self h
theorem T_token1_ok {env:Env} (args:List AV) (σ:AS) (K:AV->AS->Prop) (X:PV->AS->Prop) (h:byteT lineB args σ K X):bodyD PS env an116 Tryz.f116 args σ K X:=by
  obtain ⟨c,rfl,h⟩:=h
  rw [<- S116_eq env,S116]
  simp only [go_sem]
  have e:(((c.toNat:Int) != 10):Bool)=lineB c:=by unfold lineB; rw [bne,nBeqL]
  rw [e]
  exact retV_self h
theorem T_inner_ok {env:Env} (h1:env 122=byteT letterB) (h2:env 152=byteT digitB) (args:List AV) (σ:AS) (K:AV->AS->Prop) (X:PV->AS->Prop) (h:byteT innerB args σ K X):bodyD PS env an157 Tryz.f157 args σ K X:=by
  obtain ⟨c,rfl,h⟩:=h
  rw [<- S157_eq env,S157,h1]
  refine ⟨c,rfl,?_⟩
  unfold innerB at h
  simp only [go_sem]
  refine iteI (fun h3=>?_) (fun h3=>?_)
  · rw [h3,Bool.true_or] at h
    exact retV_self h
  · rw [Bool.eq_false_iff.2 h3,Bool.false_or] at h
    rw [h2]
    exact ⟨c,rfl,retV_self h⟩
def predOf (f:Nat):Option (UInt8->Bool):=if f=152 then some digitB else if f=156 then some octalB else if f=157 then some innerB else if f=116 then some lineB else none
structure Preds (env:Env):Prop where
  h1:env 152=byteT digitB
  h2:env 156=byteT octalB
  h3:env 157=byteT innerB
  h4:env 116=byteT lineB
theorem Preds.at {env:Env} (E:Preds env) {f:Nat} {p:UInt8->Bool} (h:predOf f=some p):env f=byteT p:=by
  unfold predOf at h
  split at h
  · rename_i e; cases h; rw [e]; exact E.h1
  split at h
  · rename_i e; cases h; rw [e]; exact E.h2
  split at h
  · rename_i e; cases h; rw [e]; exact E.h3
  split at h
  · rename_i e; cases h; rw [e]; exact E.h4
  cases h
theorem span_drop {p:UInt8->Bool} {s:Bytes} {n:Nat} (h:n < s.length):spanL p (s.drop n)=if p (s.getD n 0)=true then spanL p (s.drop (n + 1)) + 1 else 0:=by
  rw [drop_consD (d:=0) h,spanL]
def T_span:Tr:=fun args σ K _=>∃ (s:Bytes) (f:Nat) (p:UInt8->Bool),args=[.pv (.str s),.pv (.func f)]/\predOf f=some p/\s.length <= 1000000/\K (.pv (.int .i64 (spanL p s))) σ
theorem T_span_ok {env:Env} (E:Preds env) (args:List AV) (σ:AS) (K:AV->AS->Prop) (X:PV->AS->Prop) (h:T_span args σ K X):bodyD PS env an115 Tryz.f115 args σ K X:=by
  obtain ⟨s,f,p,rfl,hp,hl,hK⟩:=h
  rw [<- S115_eq env,S115]
  refine lp115_2 (fun (n:Nat) _=>s.length - n) (fun n τ=>τ=σ/\n <= s.length/\spanL p s=n + spanL p (s.drop n)) (fun n=>.pv (.int .i64 n)) 0 ⟨rfl,Nat.zero_le _,by simp⟩ ?_
  rintro n τ ⟨rfl,hn,he⟩
  unfold L115_2
  simp (disch:=omega) only [go_sem]
  refine iteI (fun h1=>?_) (fun h1=>?_)
  · simp (disch:=omega) only [T.is9,callD,E.at hp]
    refine ⟨_,rfl,?_⟩
    rw [span_drop h1] at he
    simp only [go_sem]
    refine iteI (fun h2=>?_) (fun h2=>?_)
    · rw [if_pos h2] at he
      exact back (n + 1) rfl (by omega) ⟨rfl,h1,by omega⟩
    · rw [if_neg h2] at he
      rw [he] at hK
      exact retV_self hK
  · have:n=s.length:=by omega
    subst this
    rw [List.drop_length] at he
    rw [he] at hK
    exact retV_self hK
def T_number:Tr:=fun args σ K _=>∃ s:Bytes,args=[.pv (.str s)]/\s.length <= 900000/\K (.pv (.int .i64 (numberL s))) σ
theorem isAt_eq {s:Bytes} {n:Nat} (h:n < s.length) (k:Nat):isAt s n k=((s.getD n 0).toNat == k):=by unfold isAt; rw [decide_eq_true h,Bool.true_and]
theorem isAt_ge {s:Bytes} {n:Nat} (h:¬ n < s.length) (k:Nat):isAt s n k=false:=by unfold isAt; rw [decide_eq_false h,Bool.false_and]
theorem T_number_ok {env:Env} (hs:env 115=T_span) (args:List AV) (σ:AS) (K:AV->AS->Prop) (X:PV->AS->Prop) (h:T_number args σ K X):bodyD PS env an112 Tryz.f112 args σ K X:=by
  obtain ⟨s,rfl,hl,hK⟩:=h
  rw [<- S112_eq env,S112]
  have j13:∀ n a:Nat,a <= s.length->K (.pv (.int .i64 ((if 0 < spanL digitB (s.drop a) then a + spanL digitB (s.drop a) else n:Nat)))) σ->J112_13 env (.pv (.str s)) (.pv (.int .i64 n)) (.pv (.int .i64 a)) σ K X:=by
    intro n a ha hK
    have hb:=span_le digitB (s.drop a)
    rw [List.length_drop] at hb
    unfold J112_13
    simp (disch:=omega) only [go_sem,T.ss9,hs]
    refine ⟨_,_,digitB,rfl,rfl,by rw [List.length_drop]; omega,?_⟩
    simp (disch:=omega) only [go_sem]
    refine iteI (fun h1=>?_) (fun h1=>?_)
    · rw [if_pos h1] at hK; exact retV_self hK
    · rw [if_neg h1] at hK; exact retV_self hK
  have j10:∀ (n:Nat) (b:Bool),n <= s.length->b=(decide (n < s.length) && (s.getD n 0 ||| 32).toNat == 101)->K (.pv (.int .i64 (expL s n))) σ->J112_10 env (.pv (.str s)) (.pv (.int .i64 n)) (.pv (.bool b)) σ K X:=by
    intro n b hn hb hK
    unfold J112_10
    simp only [go_sem]
    unfold expL at hK
    refine iteI (fun h1=>?_) (fun h1=>?_)
    · subst h1
      rw [<- hb] at hK
      have hlt:n < s.length:=by
        have:=hb.symm
        rw [Bool.and_eq_true] at this
        exact of_decide_eq_true this.1
      simp only [if_true] at hK
      have hexp:∀ a,expAt s n=a->J112_13 env (.pv (.str s)) (.pv (.int .i64 n)) (.pv (.int .i64 a)) σ K X:=by
        intro a ha
        rw [ha] at hK
        exact j13 n a (by rw [<- ha]; exact expAt_le hlt) hK
      simp (disch:=omega) only [go_sem]
      refine iteI (fun h2=>?_) (fun h2=>?_)
      · simp (disch:=omega) only [T.is9]
        simp (disch:=omega) only [go_sem,beq_iff_eq]
        refine iteI (fun h3=>?_) (fun h3=>?_)
        · refine hexp _ ?_
          unfold expAt
          rw [isAt_eq h2,h3]; rfl
        · refine iteI (fun h4=>?_) (fun h4=>?_)
          · refine hexp _ ?_
            unfold expAt
            rw [isAt_eq h2,isAt_eq h2,h4]; rfl
          · refine hexp _ ?_
            unfold expAt
            rw [isAt_eq h2,isAt_eq h2,if_neg (by rw [Bool.or_eq_true,beq_iff_eq,beq_iff_eq]; omega)]
      · refine hexp _ ?_
        unfold expAt
        rw [isAt_ge h2,isAt_ge h2]; rfl
    · rw [<- hb,if_neg h1] at hK
      exact retV_self hK
  have j7:∀ n m:Nat,n <= s.length->K (.pv (.int .i64 ((if m=0 then 0 else expL s n:Nat)))) σ->J112_7 env (.pv (.str s)) (.pv (.int .i64 n)) (.pv (.int .i64 m)) σ K X:=by
    intro n m hn hK
    unfold J112_7
    simp only [go_sem,beq_iff_eq]
    refine iteI (fun h1=>?_) (fun h1=>?_)
    · rw [if_pos h1] at hK; exact retV_self hK
    · rw [if_neg h1] at hK
      refine iteI (fun h2=>?_) (fun h2=>?_)
      · simp (disch:=omega) only [T.is9,bor32]
        simp only [go_sem]
        exact j10 n _ hn (by rw [decide_eq_true h2,Bool.true_and]) hK
      · exact j10 n _ hn (by rw [decide_eq_false h2,Bool.false_and]) hK
  have j4:∀ (n:Nat) (b:Bool),n <= s.length->b=isAt s n 46->K (.pv (.int .i64 ((if (fracL s n).2=0 then 0 else expL s (fracL s n).1:Nat)))) σ->J112_4 env (.pv (.str s)) (.pv (.int .i64 n)) (.pv (.int .i64 n)) (.pv (.bool b)) σ K X:=by
    intro n b hn hb hK
    unfold J112_4
    simp only [go_sem]
    unfold fracL at hK
    refine iteI (fun h1=>?_) (fun h1=>?_)
    · subst h1
      have hlt:=isAt_lt hb.symm
      rw [<- hb] at hK
      simp only [if_true] at hK
      have hbd:=span_le digitB (s.drop (n + 1))
      rw [List.length_drop] at hbd
      simp (disch:=omega) only [go_sem,T.ss9,hs]
      refine ⟨_,_,digitB,rfl,rfl,by rw [List.length_drop]; omega,?_⟩
      simp (disch:=omega) only [go_sem]
      refine iteI (fun h2=>?_) (fun h2=>?_)
      · rw [if_pos h2] at hK
        exact j7 _ _ (by omega) hK
      · rw [if_neg h2] at hK
        exact j7 _ _ hn hK
    · rw [<- hb,if_neg h1] at hK
      exact j7 _ _ hn hK
  have hb:=span_le digitB s
  rw [hs]
  refine ⟨s,_,digitB,rfl,rfl,by omega,?_⟩
  unfold numberL at hK
  simp (disch:=omega) only [go_sem]
  refine iteI (fun h1=>?_) (fun h1=>?_)
  · simp (disch:=omega) only [T.is9]
    simp only [go_sem]
    exact j4 _ _ hb (isAt_eq h1 46).symm hK
  · exact j4 _ _ hb (isAt_ge h1 46).symm hK
def T_listed:Tr:=fun args σ K _=>∃ l w:Bytes,args=[.pv (.str l),.pv (.str w)]/\l.length <= 1000/\w.length <= 1000000/\K (.pv (.bool (listedS l w))) σ
theorem T_listed_ok {env:Env} (hc:env 24=strT2 fun s t=>.pv (.bool (Lib.contains s t))) (args:List AV) (σ:AS) (K:AV->AS->Prop) (X:PV->AS->Prop) (h:T_listed args σ K X):bodyD PS env an124 Tryz.f124 args σ K X:=by
  obtain ⟨l,w,rfl,h1,h2,hK⟩:=h
  rw [<- S124_eq env,S124]
  simp only [go_sem]
  refine ⟨by simp; omega,by simp; omega,?_⟩
  rw [hc]
  exact ⟨l,[32] ++ w ++ [32],rfl,by omega,retV_self hK⟩
end Go.AD.Lx

set_option linter.unusedVariables false
set_option linter.unusedSimpArgs false
set_option maxRecDepth 100000
namespace Go.AD.Lx
open Go.Proofs
def tokPV (t:Tok):List PV:=[.str t.1,.str t.2]
def flatT:List Tok->List PV
  | []=>[]
  | t :: l=>tokPV t ++ flatT l
theorem flatT_app (a b:List Tok):flatT (a ++ b)=flatT a ++ flatT b:=by
  induction a with
  | nil=>rfl
  | cons s a ih=>simp [flatT,ih]
theorem flatT_len (a:List Tok):(flatT a).length=a.length * 2:=by
  induction a with
  | nil=>rfl
  | cons s a ih=>simp [flatT,tokPV,ih]; omega
theorem flatT_get:∀ (l:List Tok) (i:Nat) (h:i < l.length),((flatT l).drop (i * 2)).take 2=tokPV l[i]
  | s :: l,0,_=>by simp [flatT,tokPV]
  | s :: l,i + 1,h=>by
    have:(i + 1) * 2=i * 2 + 2:=by omega
    rw [this]
    have:=flatT_get l i (by simpa using h)
    simpa [flatT,tokPV] using this
theorem rowTT:RowT PS 42 53:=⟨T.el42,by rw [T.sz53]; decide,_,T.zo53,by rw [T.sz53]; rfl⟩
structure LexAt (σ0 σ:AS) (l:Nat) (s:Bytes) (ts:List Tok) (X:Objs):Prop where
  row:∃ ov ol,RowV PS 53 ov ol ts.length (flatT ts)/\Sep σ0 σ ((l,.cells [.pv (.str s),ov] none) :: (ol ++ X))
section
variable {env:Env} {args:List AV} {σ0 σ:AS} {K:AV->AS->Prop} {X:PV->AS->Prop} {l:Nat} {s:Bytes} {ts:List Tok} {Y:Objs}
def T_take:Tr:=fun args σ K _=>∃ (σ0:AS) (l n:Nat) (s:Bytes) (ts:List Tok) (Y:Objs),args=[.addr l 0,.pv (.int .i64 n)]/\LexAt σ0 σ l s ts Y/\n <= s.length/\∀ σ',LexAt σ0 σ' l (s.drop n) ts Y->K (.pv (.str (s.take n))) σ'
theorem T_take_ok (h:T_take args σ K X):bodyD PS env an113 Tryz.f113 args σ K X:=by
  obtain ⟨σ0,l,n,s,ts,Y,rfl,⟨ov,ol,hR,hS⟩,hn,hK⟩:=h
  rw [<- S113_eq env,S113]
  have hl:σ l=some (.cells [.pv (.str s),ov] none):=hS.get (by simp)
  simp (disch:=omega) only [go_sem,hl,ldM_cells,stM_cells,List.getElem?_cons_zero,T.ss9,T.st9,List.set_cons_zero]
  refine ⟨by simp,retV_self (hK _ ⟨ov,ol,hR,Sep.set1 hS _⟩)⟩
theorem take_call (ht:env 113=T_take) (hL:LexAt σ0 σ l s ts Y) {n:Nat} (hn:n <= s.length) (hK:∀ σ',LexAt σ0 σ' l (s.drop n) ts Y->K (.pv (.str (s.take n))) σ'):env 113 [.addr l 0,.pv (.int .i64 n)] σ K X:=by
  rw [ht]; exact ⟨σ0,l,n,s,ts,Y,rfl,hL,hn,hK⟩
def T_put:Tr:=fun args σ K _=>∃ (σ0:AS) (l:Nat) (k t s:Bytes) (ts:List Tok) (Y:Objs),args=[.addr l 0,.pv (.str k),.pv (.str t)]/\LexAt σ0 σ l s ts Y/\ts.length <= 1000000/\∀ σ',LexAt σ0 σ' l s (ts ++ [(k,t)]) Y->K (.tuple []) σ'
theorem bdT {a b:PV} {K:AV->Prop}:buildD PS 53 [(0,.pv a),(1,.pv b)] K=K (.agg [.pv a,.pv b]):=by
  simp [buildD,buildFill,go_sem,AV.cells,AV.cellOk,setAll]
theorem T_put_ok (h:T_put args σ K X):bodyD PS env an117 Tryz.f117 args σ K X:=by
  obtain ⟨σ0,l,k,t,s,ts,Y,rfl,⟨ov,ol,hR,hS⟩,hn,hK⟩:=h
  rw [<- S117_eq env,S117]
  have hl:σ l=some (.cells [.pv (.str s),ov] none):=hS.get (by simp)
  simp (disch:=omega) only [go_sem,hl,ldM_cells,List.getElem?_cons_zero,List.getElem?_cons_succ,bdT]
  have e:AV.agg [.pv (.str k),.pv (.str t)]=.agg ((tokPV (k,t)).map .pv):=rfl
  rw [e,build1 (ys:=tokPV (k,t)) rowTT T.hT53 (by rw [T.sz53]; rfl) rfl rfl (by rw [T.sz53]; decide)]
  have hS1:Sep σ0 σ (((l,.cells [.pv (.str s),ov] none) :: Y) ++ ol):=hS.perm (List.Perm.cons _ List.perm_append_comm)
  refine hR.append hS1 rowTT rfl (by rw [T.sz53]; rfl) (by omega) (by rw [T.by53]; omega) (by omega) ?_
  intro v' L' σ' hR' hS'
  have hl':σ' l=some (.cells [.pv (.str s),ov] none):=hS'.get (by simp)
  rw [T.stv42 hR'.cells hR'.cellOk,hl']
  simp only [stM_cells,List.set_cons_succ,List.set_cons_zero]
  refine ⟨by simp,retV_self (hK _ ⟨v',L',?_,?_⟩)⟩
  · rw [flatT_app,List.length_append]
    have:flatT [(k,t)]=tokPV (k,t):=by simp [flatT]
    rw [this]
    exact hR'
  · have:=Sep.set1 hS' (.cells [.pv (.str s),v'] none)
    exact this.perm (List.Perm.cons _ List.perm_append_comm)
theorem put_call (ht:env 117=T_put) (hL:LexAt σ0 σ l s ts Y) {k t:Bytes} (hn:ts.length <= 1000000) (hK:∀ σ',LexAt σ0 σ' l s (ts ++ [(k,t)]) Y->K (.tuple []) σ'):env 117 [.addr l 0,.pv (.str k),.pv (.str t)] σ K X:=by
  rw [ht]; exact ⟨σ0,l,k,t,s,ts,Y,rfl,hL,hn,hK⟩
theorem LexAt.str (hL:LexAt σ0 σ l s ts Y):∃ ov,σ l=some (.cells [.pv (.str s),ov] none):=by
  obtain ⟨ov,ol,hR,hS⟩:=hL
  exact ⟨ov,hS.get (by simp)⟩
def T_operand:Tr:=fun args σ K _=>∃ (σ0:AS) (l:Nat) (s:Bytes) (ts:List Tok) (Y:Objs),args=[.addr l 0]/\LexAt σ0 σ l s ts Y/\ts.length <= 1000000/\(∀ t ∈ ts,t.2.length <= 100000)/\∀ σ',LexAt σ0 σ' l s ts Y->K (.pv (.bool (operandS ts))) σ'
theorem getLast_ix {ts:List Tok} (h:0 < ts.length):ts.getLast?=some ts[ts.length - 1]:=by
  rw [List.getLast?_eq_getElem?,List.getElem?_eq_getElem (by omega)]
theorem T_operand_ok (hli:env 124=T_listed) (h:T_operand args σ K X):bodyD PS env an120 Tryz.f120 args σ K X:=by
  obtain ⟨σ0,l,s,ts,Y,rfl,hL,hn,hlen,hK⟩:=h
  obtain ⟨ov,ol,hR,hS⟩:=id hL
  rw [<- S120_eq env,S120]
  have hl:σ l=some (.cells [.pv (.str s),ov] none):=hS.get (by simp)
  simp (disch:=omega) only [go_sem,hl,ldM_cells,List.getElem?_cons_zero,List.getElem?_cons_succ,T.lnv42 hR.toPV,beq_iff_eq]
  refine iteI (fun h0=>?_) (fun h0=>?_)
  · have:ts=[]:=List.eq_nil_of_length_eq_zero h0
    have:=hK σ hL
    subst ts
    exact retV_self this
  · have hlast:=getLast_ix (ts:=ts) (by omega)
    have hop:operandS ts=tokOperand ts[ts.length - 1]:=by unfold operandS; rw [hlast]
    have hbt:=hlen ts[ts.length - 1] (List.getElem_mem _)
    rw [hop] at hK
    have hle:ts.length - 1 < ts.length:=by omega
    generalize hte:ts[ts.length - 1]=t at hK hbt
    have j9:∀ (t3:Nat) (σ':AS) (b:Bool),σ' t3=some (.cells ((tokPV t).map .pv) (some 53))->LexAt σ0 σ' l s ts Y->b=(decide (t.1=kNum) || decide (t.1=kStr) || decide (t.1=kEre) || decide (t.1=kName))->J120_9 env (.addr t3 0) (.pv (.str t.1)) (.pv (.bool b)) σ' K X:=by
      intro t3 σ' b hg hL' hb
      have hK:=hK σ' hL'
      unfold tokOperand at hK
      unfold J120_9
      simp only [go_sem]
      refine iteI (fun h1=>?_) (fun h1=>?_)
      · subst h1
        rw [if_pos (by simpa [or_assoc] using hb.symm)] at hK
        exact retV_self hK
      · have hb':b=false:=Bool.eq_false_iff.2 h1
        rw [hb'] at hb
        have hno:¬ (t.1=kNum \/ t.1=kStr \/ t.1=kEre \/ t.1=kName):=by
          intro h
          have:=hb.symm
          simp only [Bool.or_eq_false_iff,decide_eq_false_iff_not] at this
          rcases h with h | h | h | h
          · exact this.1.1.1 h
          · exact this.1.1.2 h
          · exact this.1.2 h
          · exact this.2 h
        rw [if_neg hno] at hK
        simp only [tokPV,List.map_cons,List.map_nil] at hg
        simp (disch:=omega) only [go_sem,hg,ldM_cells,Nat.reduceAdd,List.getElem?_cons_zero,List.getElem?_cons_succ,someEx,beq_iff_eq]
        refine iteI (fun h2=>?_) (fun h2=>?_)
        · rw [if_pos (show t.1=kBuilt from h2)] at hK
          exact retV_self hK
        · rw [if_neg (show ¬ t.1=kBuilt from h2)] at hK
          refine iteI (fun h3=>?_) (fun h3=>?_)
          · rw [if_pos (show t.1=kOp from h3)] at hK
            rw [hli]
            exact ⟨lAfter,t.2,rfl,by decide,by omega,retV_self hK⟩
          · rw [if_neg (show ¬ t.1=kOp from h3)] at hK
            exact retV_self hK
    have hk1:t.1=[110,117,109]->(t.1 == [110,117,109])=(decide (t.1=kNum) || decide (t.1=kStr) || decide (t.1=kEre) || decide (t.1=kName)):=by
      intro h1; rw [beq_iff_eq.2 h1]; simp [kNum,h1]
    have hk2:t.1=[115,116,114]->(t.1 == [115,116,114])=(decide (t.1=kNum) || decide (t.1=kStr) || decide (t.1=kEre) || decide (t.1=kName)):=by
      intro h2; rw [beq_iff_eq.2 h2]; simp [kStr,h2]
    have hk3:t.1=[101,114,101]->(t.1 == [101,114,101])=(decide (t.1=kNum) || decide (t.1=kStr) || decide (t.1=kEre) || decide (t.1=kName)):=by
      intro h3; rw [beq_iff_eq.2 h3]; simp [kEre,h3]
    have hk4:¬ t.1=[110,117,109]->¬ t.1=[115,116,114]->¬ t.1=[101,114,101]->(t.1 == [110,97,109,101])=(decide (t.1=kNum) || decide (t.1=kStr) || decide (t.1=kEre) || decide (t.1=kName)):=by
      intro h1 h2 h3
      have a1:decide (t.1=kNum)=false:=decide_eq_false h1
      have a2:decide (t.1=kStr)=false:=decide_eq_false h2
      have a3:decide (t.1=kEre)=false:=decide_eq_false h3
      rw [a1,a2,a3]
      simp only [Bool.false_or]
      rw [Bool.eq_iff_iff,beq_iff_eq,decide_eq_true_eq]
      exact Iff.rfl
    have hix:∀ K,indexAddrD PS 42 ov (.pv (.int .i64 (ts.length - 1:Nat))) K=K (.elemP (flatT ts) ((ts.length - 1) * 2)):=by
      intro K
      have:=hR.ix (t:=42) (k:=.i64) (i:=ts.length - 1) (K:=K) T.el42 T.iS53 (by rw [T.sz53]; decide) hle
      rwa [T.sz53] at this
    have hld:∀ σ' K,loadD PS σ' 53 (.elemP (flatT ts) ((ts.length - 1) * 2)) K=K (.agg ((tokPV t).map .pv)):=by
      intro σ' K
      rw [load_elemA T.hT53 T.ag53,T.sz53,flatT_get ts _ hle,hte]
      exact propext ⟨fun h=>h.2,fun h=>⟨by rw [flatT_len]; omega,h⟩⟩
    have hst:∀ (t3:Nat) (σ':AS) (KS:AS->Prop),Sep σ0 σ' ((t3,.cells [.pv (.str []),.pv (.str [])] (some 53)) :: (l,.cells [.pv (.str s),ov] none) :: (ol ++ Y))->(∀ σ'',Sep σ0 σ'' ((t3,.cells ((tokPV t).map .pv) (some 53)) :: (l,.cells [.pv (.str s),ov] none) :: (ol ++ Y))->KS σ'')->storeD PS σ' 53 (.addr t3 0) (.agg ((tokPV t).map .pv)) KS:=by
      intro t3 σ' KS h1 h2
      have hg:σ' t3=some (.cells [.pv (.str []),.pv (.str [])] (some 53)):=h1.get (by simp)
      rw [storeD]
      simp only [hg]
      refine ⟨T.hT53,by rw [T.sz53]; rfl,rfl,by simp [AV.cells,tokPV],h2 _ (Sep.set1 h1 _)⟩
    have e1:((ts.length:Int) - 1)=((ts.length - 1:Nat):Int):=by omega
    try rw [e1]
    simp only [hix,hld]
    repeat' (first
      | exact trivial
      | (refine alloc_of T.zo53 rfl ?_
         intro t3 ht3
         have hS3:=hS.alloc ht3 (.cells [.pv (.str []),.pv (.str [])] (some 53))
         have hl3:=hS3.get (i:=l) (o:=.cells [.pv (.str s),ov] none) (by simp)
         simp (disch:=omega) only [go_sem,hl3,ldM_cells,List.getElem?_cons_zero,List.getElem?_cons_succ,T.lnv42 hR.toPV,hix,hld])
      | (refine hst _ _ _ hS3 ?_
         intro σ3 hS4
         have hg:σ3 t3=some (.cells ((tokPV t).map .pv) (some 53)):=hS4.get (by simp)
         have hg':=hg
         have hL':LexAt σ0 σ3 l s ts Y:=⟨ov,ol,hR,hS4.drop⟩
         simp only [tokPV,List.map_cons,List.map_nil] at hg'
         simp (disch:=omega) only [go_sem,hg',ldM_cells,List.getElem?_cons_zero,List.getElem?_cons_succ,someEx,beq_iff_eq]
         refine iteI (fun h1=>j9 t3 σ3 _ hg hL' (hk1 h1)) (fun h1=>?_)
         refine iteI (fun h2=>j9 t3 σ3 _ hg hL' (hk2 h2)) (fun h2=>?_)
         exact iteI (fun h3=>j9 t3 σ3 _ hg hL' (hk3 h3)) (fun h3=>j9 t3 σ3 _ hg hL' (hk4 h1 h2 h3)))
      | refine And.intro ?_ ?_)
end
end Go.AD.Lx
