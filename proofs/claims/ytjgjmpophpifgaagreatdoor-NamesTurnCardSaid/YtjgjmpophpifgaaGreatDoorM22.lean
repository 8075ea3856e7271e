import Derived.Test.YtjgjmpophpifgaaGreatDoorM7
import Derived.Test.YtjgjmpophpifgaaGreatDoorM20
import Derived.Test.YtjgjmpophpifgaaGreatDoorNm1
import Derived.Test.YtjgjmpophpifgaaGreatDoorM19
set_option linter.unusedVariables false
set_option maxRecDepth 100000
namespace Go.AD
open Go.Proofs.Tryz
def an64:An:={ mu:=[],cut:=[],loop:=[] }
def S64 (env:Env) (f0_a:AV) (s:AS) (K:AV->AS->Prop) (X:PV->AS->Prop):Prop :=
 (lock boxD s f0_a fun t1 s1 =>
 (lock fieldAddrD prog 50 t1 2 fun t3 =>
 (lock loadD prog s1 23 t3 fun t4 =>
 (lock lenD prog 23 t4 fun t5 =>
 (lock binD prog .eql 3 t5 (.pv (.int .i64 0)) fun t6 =>
 (condD t6
 (retV ((.nilS)) s1 K)
 (lock fieldAddrD prog 50 t1 2 fun t7 =>
 (lock loadD prog s1 23 t7 fun t8 =>
 (lock indexAddrD prog 23 t8 (.pv (.int .i64 0)) fun t9 =>
 (lock fieldAddrD prog 50 t9 2 fun t10 =>
 (lock loadD prog s1 23 t10 fun t11 =>
 (retV (t11) s1 K))))))))))))
theorem S64_eq (env:Env) (f0_a:AV) (s:AS) (K:AV->AS->Prop) (X:PV->AS->Prop):S64 env f0_a s K X=bodyD prog env an64 f64 [f0_a] s K X:=by
  unfold S64
  kernel_rfl
theorem S64_ok:(match f64.body with | some c=>okCode an64 prog f64.ntmps c | none=>false)=true:=by kernel_rfl
def an99:An:={ mu:=[],cut:=[],loop:=[] }
def S99 (env:Env) (p0_a t1_a:AV) (s:AS) (K:AV->AS->Prop) (X:PV->AS->Prop):Prop :=
 (lock boxD s p0_a fun t2 s1 =>
 (lock fieldAddrD prog 50 t2 1 fun t4 =>
 (lock loadD prog s1 9 t4 fun t5 =>
 (lock loadD prog s1 9 t1_a fun t6 =>
 (lock binD prog .eql 9 t5 t6 fun t7 =>
 (retV (t7) s1 K))))))
theorem S99_eq (env:Env) (p0_a t1_a:AV) (s:AS) (K:AV->AS->Prop) (X:PV->AS->Prop):S99 env p0_a t1_a s K X=bodyD prog env an99 f99 [p0_a,t1_a] s K X:=by
  unfold S99
  kernel_rfl
theorem S99_ok:(match f99.body with | some c=>okCode an99 prog f99.ntmps c | none=>false)=true:=by kernel_rfl
def an66:An:={ mu:=[],cut:=[(3,[0,5])],loop:=[] }
def J66_3 (env:Env)  (t0_j3 name5_j3:AV) (s:AS) (K:AV->AS->Prop) (X:PV->AS->Prop):Prop :=
 (lock nilD t0_j3 fun t18 =>
 (lock fieldAddrD prog 59 t18 1 fun t19 =>
 (lock loadD prog s 57 t19 fun t20 =>
 (lock loadD prog s 9 name5_j3 fun t21 =>
 (lock lookupD prog s 57 t20 t21 false fun t22 =>
 (lock binD prog .eql 63 t22 (.pv .nilPtr) fun t24 =>
 (condD t24
 (lock loadD prog s 9 name5_j3 fun t25 =>
 (lock buildD prog 65 [(0,t25)] fun t26 =>
 (lock boxD s t26 fun t27 s6 =>
 (lock nilD t0_j3 fun t29 =>
 (lock fieldAddrD prog 59 t29 1 fun t30 =>
 (lock loadD prog s6 57 t30 fun t31 =>
 (lock loadD prog s6 9 name5_j3 fun t32 =>
 (lock mapUpdateD prog s6 57 t31 t32 t27 fun s7 =>
 (retV (t27) s7 K)))))))))
 (retV (t22) s K))))))))
def S66 (env:Env) (t0_a f1_a name2_a:AV) (s:AS) (K:AV->AS->Prop) (X:PV->AS->Prop):Prop :=
 (lock boxD s f1_a fun t4 s1 =>
 (lock boxD s1 name2_a fun t5 s2 =>
 (lock loadD prog s2 50 t4 fun t8 =>
 (env 64 [t8] s2 (fun t9 s3 =>
 (env 98 [t9,(.clo 99 [] [t5])] s3 (fun t11 s4 =>
 (condD t11
 (lock fieldAddrD prog 50 t4 1 fun t12 =>
 (lock loadD prog s4 9 t12 fun t13 =>
 (lock binD prog .add 9 t13 (.pv (.str [46])) fun t14 =>
 (lock loadD prog s4 9 t5 fun t15 =>
 (lock binD prog .add 9 t14 t15 fun t16 =>
 (lock storeD prog s4 9 t5 t16 fun s5 =>
 (J66_3 env  (t0_a) (t5) s5 K X)))))))
 (J66_3 env  (t0_a) (t5) s4 K X))) (panV X))) (panV X)))))
theorem S66_eq (env:Env) (t0_a f1_a name2_a:AV) (s:AS) (K:AV->AS->Prop) (X:PV->AS->Prop):S66 env t0_a f1_a name2_a s K X=bodyD prog env an66 f66 [t0_a,f1_a,name2_a] s K X:=by
  unfold S66
  kernel_rfl
theorem S66_ok:(match f66.body with | some c=>okCode an66 prog f66.ntmps c | none=>false)=true:=by kernel_rfl
def an97:An:={ mu:=[10,11,20,21],cut:=[],loop:=[] }
def S97 (env:Env) (a0_a b1_a:AV) (s:AS) (K:AV->AS->Prop) (X:PV->AS->Prop):Prop :=
 (lock nilD a0_a fun t6 =>
 (lock fieldAddrD prog 65 t6 3 fun t7 =>
 (lock loadD prog s 62 t7 fun t8 =>
 (lock buildSliceD prog true s 62 1 1 [(0,b1_a)] fun t10 s1 =>
 (lock appendD prog true s1 62 t8 t10 fun t11 s2 =>
 (lock nilD a0_a fun t12 =>
 (lock fieldAddrD prog 65 t12 3 fun t13 =>
 (lock storeD prog s2 62 t13 t11 fun s3 =>
 (lock nilD b1_a fun t16 =>
 (lock fieldAddrD prog 65 t16 3 fun t17 =>
 (lock loadD prog s3 62 t17 fun t18 =>
 (lock buildSliceD prog true s3 62 1 1 [(0,a0_a)] fun t20 s4 =>
 (lock appendD prog true s4 62 t18 t20 fun t21 s5 =>
 (lock nilD b1_a fun t22 =>
 (lock fieldAddrD prog 65 t22 3 fun t23 =>
 (lock storeD prog s5 62 t23 t21 fun s6 =>
 (retV (.tuple []) s6 K)))))))))))))))))
theorem S97_eq (env:Env) (a0_a b1_a:AV) (s:AS) (K:AV->AS->Prop) (X:PV->AS->Prop):S97 env a0_a b1_a s K X=bodyD prog env an97 f97 [a0_a,b1_a] s K X:=by
  unfold S97
  kernel_rfl
theorem S97_ok:(match f97.body with | some c=>okCode an97 prog f97.ntmps c | none=>false)=true:=by kernel_rfl
def an23:An:={ mu:=[68,69],cut:=[(5,[0,1,6,10,11,12,39]),(6,[0,1,6,10,11,12])],loop:=[(2,[0,1,10,11,12])],any:=[5] }
def J23_6 (env:Env) (I2:Nat->List AV->AS->Prop) (m2:Nat) (v0_j6 todo1_j6 o6_j6 t10_j6 t11_j6 t12_j6:AV) (s:AS) (K:AV->AS->Prop) (X:PV->AS->Prop):Prop :=
 (lock buildSliceD prog true s 62 1 1 [(0,o6_j6)] fun t68 s4 =>
 (lock appendD prog true s4 62 todo1_j6 t68 fun t69 s5 =>
 (lock binD prog .add 3 t12_j6 (.pv (.int .i64 1)) fun t70 =>
 (∃ m',m' < m2/\I2 m' [v0_j6,t69,t10_j6,t11_j6,t70] s5))))
def J23_5 (env:Env) (I2:Nat->List AV->AS->Prop) (m2:Nat) (v0_j5 todo1_j5 o6_j5 t10_j5 t11_j5 t12_j5 t39_j5:AV) (s:AS) (K:AV->AS->Prop) (X:PV->AS->Prop):Prop :=
 (condD t39_j5
 (lock nilD o6_j5 fun t43 =>
 (lock fieldAddrD prog 65 t43 1 fun t44 =>
 (lock nilD o6_j5 fun t53 =>
 (lock fieldAddrD prog 65 t53 2 fun t54 =>
 ((lock loadD prog s 4 t44 fun t45 =>
 (guardD t45 false
 (lock nilD v0_j5 fun t48 =>
 (lock fieldAddrD prog 65 t48 1 fun t49 =>
 ((lock loadD prog s 4 t49 fun t50 =>
 ((lock loadD prog s 4 t54 fun t55 =>
 (guardD t55 false
 (lock nilD v0_j5 fun t58 =>
 (lock fieldAddrD prog 65 t58 2 fun t59 =>
 ((lock loadD prog s 4 t59 fun t60 =>
 (lock nilD o6_j5 fun t62 =>
 (lock fieldAddrD prog 65 t62 1 fun t63 =>
 ((lock storeD prog s 4 t63 t50 fun s28 =>
 (lock nilD o6_j5 fun t64 =>
 (lock fieldAddrD prog 65 t64 2 fun t65 =>
 ((lock storeD prog s28 4 t65 t60 fun s29 =>
 (J23_6 env I2 m2 (v0_j5) (todo1_j5) (o6_j5) (t10_j5) (t11_j5) (t12_j5) s29 K X))/\True))))/\True))))/\True)))
 ((lock nilD o6_j5 fun t62 =>
 (lock fieldAddrD prog 65 t62 1 fun t63 =>
 ((lock storeD prog s 4 t63 t50 fun s30 =>
 (lock nilD o6_j5 fun t64 =>
 (lock fieldAddrD prog 65 t64 2 fun t65 =>
 ((lock storeD prog s30 4 t65 (.pv (.bool true)) fun s31 =>
 (J23_6 env I2 m2 (v0_j5) (todo1_j5) (o6_j5) (t10_j5) (t11_j5) (t12_j5) s31 K X))/\True))))/\True)))/\True)))/\True))/\((lock loadD prog s 4 t54 fun t55 =>
 (guardD t55 false
 (lock nilD v0_j5 fun t58 =>
 (lock fieldAddrD prog 65 t58 2 fun t59 =>
 ((lock loadD prog s 4 t49 fun t50 =>
 ((lock loadD prog s 4 t59 fun t60 =>
 (lock nilD o6_j5 fun t62 =>
 (lock fieldAddrD prog 65 t62 1 fun t63 =>
 ((lock storeD prog s 4 t63 t50 fun s22 =>
 (lock nilD o6_j5 fun t64 =>
 (lock fieldAddrD prog 65 t64 2 fun t65 =>
 ((lock storeD prog s22 4 t65 t60 fun s23 =>
 (J23_6 env I2 m2 (v0_j5) (todo1_j5) (o6_j5) (t10_j5) (t11_j5) (t12_j5) s23 K X))/\True))))/\True))))/\True))/\((lock loadD prog s 4 t59 fun t60 =>
 ((lock loadD prog s 4 t49 fun t50 =>
 (lock nilD o6_j5 fun t62 =>
 (lock fieldAddrD prog 65 t62 1 fun t63 =>
 ((lock storeD prog s 4 t63 t50 fun s20 =>
 (lock nilD o6_j5 fun t64 =>
 (lock fieldAddrD prog 65 t64 2 fun t65 =>
 ((lock storeD prog s20 4 t65 t60 fun s21 =>
 (J23_6 env I2 m2 (v0_j5) (todo1_j5) (o6_j5) (t10_j5) (t11_j5) (t12_j5) s21 K X))/\True))))/\True))))/\True))/\True))))
 ((lock loadD prog s 4 t49 fun t50 =>
 ((lock nilD o6_j5 fun t62 =>
 (lock fieldAddrD prog 65 t62 1 fun t63 =>
 ((lock storeD prog s 4 t63 t50 fun s26 =>
 (lock nilD o6_j5 fun t64 =>
 (lock fieldAddrD prog 65 t64 2 fun t65 =>
 ((lock storeD prog s26 4 t65 (.pv (.bool true)) fun s27 =>
 (J23_6 env I2 m2 (v0_j5) (todo1_j5) (o6_j5) (t10_j5) (t11_j5) (t12_j5) s27 K X))/\True))))/\True)))/\True))/\(((lock loadD prog s 4 t49 fun t50 =>
 (lock nilD o6_j5 fun t62 =>
 (lock fieldAddrD prog 65 t62 1 fun t63 =>
 ((lock storeD prog s 4 t63 t50 fun s24 =>
 (lock nilD o6_j5 fun t64 =>
 (lock fieldAddrD prog 65 t64 2 fun t65 =>
 ((lock storeD prog s24 4 t65 (.pv (.bool true)) fun s25 =>
 (J23_6 env I2 m2 (v0_j5) (todo1_j5) (o6_j5) (t10_j5) (t11_j5) (t12_j5) s25 K X))/\True))))/\True))))/\True)/\True))))/\True))))
 (((lock loadD prog s 4 t54 fun t55 =>
 (guardD t55 false
 (lock nilD v0_j5 fun t58 =>
 (lock fieldAddrD prog 65 t58 2 fun t59 =>
 ((lock loadD prog s 4 t59 fun t60 =>
 (lock nilD o6_j5 fun t62 =>
 (lock fieldAddrD prog 65 t62 1 fun t63 =>
 ((lock storeD prog s 4 t63 (.pv (.bool true)) fun s40 =>
 (lock nilD o6_j5 fun t64 =>
 (lock fieldAddrD prog 65 t64 2 fun t65 =>
 ((lock storeD prog s40 4 t65 t60 fun s41 =>
 (J23_6 env I2 m2 (v0_j5) (todo1_j5) (o6_j5) (t10_j5) (t11_j5) (t12_j5) s41 K X))/\True))))/\True))))/\True)))
 ((lock nilD o6_j5 fun t62 =>
 (lock fieldAddrD prog 65 t62 1 fun t63 =>
 ((lock storeD prog s 4 t63 (.pv (.bool true)) fun s42 =>
 (lock nilD o6_j5 fun t64 =>
 (lock fieldAddrD prog 65 t64 2 fun t65 =>
 ((lock storeD prog s42 4 t65 (.pv (.bool true)) fun s43 =>
 (J23_6 env I2 m2 (v0_j5) (todo1_j5) (o6_j5) (t10_j5) (t11_j5) (t12_j5) s43 K X))/\True))))/\True)))/\True)))/\True)/\((lock loadD prog s 4 t54 fun t55 =>
 (guardD t55 false
 (lock nilD v0_j5 fun t58 =>
 (lock fieldAddrD prog 65 t58 2 fun t59 =>
 (((lock loadD prog s 4 t59 fun t60 =>
 (lock nilD o6_j5 fun t62 =>
 (lock fieldAddrD prog 65 t62 1 fun t63 =>
 ((lock storeD prog s 4 t63 (.pv (.bool true)) fun s34 =>
 (lock nilD o6_j5 fun t64 =>
 (lock fieldAddrD prog 65 t64 2 fun t65 =>
 ((lock storeD prog s34 4 t65 t60 fun s35 =>
 (J23_6 env I2 m2 (v0_j5) (todo1_j5) (o6_j5) (t10_j5) (t11_j5) (t12_j5) s35 K X))/\True))))/\True))))/\True)/\((lock loadD prog s 4 t59 fun t60 =>
 ((lock nilD o6_j5 fun t62 =>
 (lock fieldAddrD prog 65 t62 1 fun t63 =>
 ((lock storeD prog s 4 t63 (.pv (.bool true)) fun s32 =>
 (lock nilD o6_j5 fun t64 =>
 (lock fieldAddrD prog 65 t64 2 fun t65 =>
 ((lock storeD prog s32 4 t65 t60 fun s33 =>
 (J23_6 env I2 m2 (v0_j5) (todo1_j5) (o6_j5) (t10_j5) (t11_j5) (t12_j5) s33 K X))/\True))))/\True)))/\True))/\True))))
 (((lock nilD o6_j5 fun t62 =>
 (lock fieldAddrD prog 65 t62 1 fun t63 =>
 ((lock storeD prog s 4 t63 (.pv (.bool true)) fun s38 =>
 (lock nilD o6_j5 fun t64 =>
 (lock fieldAddrD prog 65 t64 2 fun t65 =>
 ((lock storeD prog s38 4 t65 (.pv (.bool true)) fun s39 =>
 (J23_6 env I2 m2 (v0_j5) (todo1_j5) (o6_j5) (t10_j5) (t11_j5) (t12_j5) s39 K X))/\True))))/\True)))/\True)/\(((lock nilD o6_j5 fun t62 =>
 (lock fieldAddrD prog 65 t62 1 fun t63 =>
 ((lock storeD prog s 4 t63 (.pv (.bool true)) fun s36 =>
 (lock nilD o6_j5 fun t64 =>
 (lock fieldAddrD prog 65 t64 2 fun t65 =>
 ((lock storeD prog s36 4 t65 (.pv (.bool true)) fun s37 =>
 (J23_6 env I2 m2 (v0_j5) (todo1_j5) (o6_j5) (t10_j5) (t11_j5) (t12_j5) s37 K X))/\True))))/\True)))/\True)/\True))))/\True))))/\((lock loadD prog s 4 t54 fun t55 =>
 ((lock loadD prog s 4 t44 fun t45 =>
 (guardD t45 false
 (lock nilD v0_j5 fun t48 =>
 (lock fieldAddrD prog 65 t48 1 fun t49 =>
 (guardD t55 false
 (lock nilD v0_j5 fun t58 =>
 (lock fieldAddrD prog 65 t58 2 fun t59 =>
 ((lock loadD prog s 4 t49 fun t50 =>
 ((lock loadD prog s 4 t59 fun t60 =>
 (lock nilD o6_j5 fun t62 =>
 (lock fieldAddrD prog 65 t62 1 fun t63 =>
 ((lock storeD prog s 4 t63 t50 fun s6 =>
 (lock nilD o6_j5 fun t64 =>
 (lock fieldAddrD prog 65 t64 2 fun t65 =>
 ((lock storeD prog s6 4 t65 t60 fun s7 =>
 (J23_6 env I2 m2 (v0_j5) (todo1_j5) (o6_j5) (t10_j5) (t11_j5) (t12_j5) s7 K X))/\True))))/\True))))/\True))/\((lock loadD prog s 4 t59 fun t60 =>
 ((lock loadD prog s 4 t49 fun t50 =>
 (lock nilD o6_j5 fun t62 =>
 (lock fieldAddrD prog 65 t62 1 fun t63 =>
 ((lock storeD prog s 4 t63 t50 fun s2 =>
 (lock nilD o6_j5 fun t64 =>
 (lock fieldAddrD prog 65 t64 2 fun t65 =>
 ((lock storeD prog s2 4 t65 t60 fun s3 =>
 (J23_6 env I2 m2 (v0_j5) (todo1_j5) (o6_j5) (t10_j5) (t11_j5) (t12_j5) s3 K X))/\True))))/\True))))/\True))/\True))))
 ((lock loadD prog s 4 t49 fun t50 =>
 ((lock nilD o6_j5 fun t62 =>
 (lock fieldAddrD prog 65 t62 1 fun t63 =>
 ((lock storeD prog s 4 t63 t50 fun s10 =>
 (lock nilD o6_j5 fun t64 =>
 (lock fieldAddrD prog 65 t64 2 fun t65 =>
 ((lock storeD prog s10 4 t65 (.pv (.bool true)) fun s11 =>
 (J23_6 env I2 m2 (v0_j5) (todo1_j5) (o6_j5) (t10_j5) (t11_j5) (t12_j5) s11 K X))/\True))))/\True)))/\True))/\(((lock loadD prog s 4 t49 fun t50 =>
 (lock nilD o6_j5 fun t62 =>
 (lock fieldAddrD prog 65 t62 1 fun t63 =>
 ((lock storeD prog s 4 t63 t50 fun s8 =>
 (lock nilD o6_j5 fun t64 =>
 (lock fieldAddrD prog 65 t64 2 fun t65 =>
 ((lock storeD prog s8 4 t65 (.pv (.bool true)) fun s9 =>
 (J23_6 env I2 m2 (v0_j5) (todo1_j5) (o6_j5) (t10_j5) (t11_j5) (t12_j5) s9 K X))/\True))))/\True))))/\True)/\True)))))
 (guardD t55 false
 (lock nilD v0_j5 fun t58 =>
 (lock fieldAddrD prog 65 t58 2 fun t59 =>
 (((lock loadD prog s 4 t59 fun t60 =>
 (lock nilD o6_j5 fun t62 =>
 (lock fieldAddrD prog 65 t62 1 fun t63 =>
 ((lock storeD prog s 4 t63 (.pv (.bool true)) fun s14 =>
 (lock nilD o6_j5 fun t64 =>
 (lock fieldAddrD prog 65 t64 2 fun t65 =>
 ((lock storeD prog s14 4 t65 t60 fun s15 =>
 (J23_6 env I2 m2 (v0_j5) (todo1_j5) (o6_j5) (t10_j5) (t11_j5) (t12_j5) s15 K X))/\True))))/\True))))/\True)/\((lock loadD prog s 4 t59 fun t60 =>
 ((lock nilD o6_j5 fun t62 =>
 (lock fieldAddrD prog 65 t62 1 fun t63 =>
 ((lock storeD prog s 4 t63 (.pv (.bool true)) fun s12 =>
 (lock nilD o6_j5 fun t64 =>
 (lock fieldAddrD prog 65 t64 2 fun t65 =>
 ((lock storeD prog s12 4 t65 t60 fun s13 =>
 (J23_6 env I2 m2 (v0_j5) (todo1_j5) (o6_j5) (t10_j5) (t11_j5) (t12_j5) s13 K X))/\True))))/\True)))/\True))/\True))))
 (((lock nilD o6_j5 fun t62 =>
 (lock fieldAddrD prog 65 t62 1 fun t63 =>
 ((lock storeD prog s 4 t63 (.pv (.bool true)) fun s18 =>
 (lock nilD o6_j5 fun t64 =>
 (lock fieldAddrD prog 65 t64 2 fun t65 =>
 ((lock storeD prog s18 4 t65 (.pv (.bool true)) fun s19 =>
 (J23_6 env I2 m2 (v0_j5) (todo1_j5) (o6_j5) (t10_j5) (t11_j5) (t12_j5) s19 K X))/\True))))/\True)))/\True)/\(((lock nilD o6_j5 fun t62 =>
 (lock fieldAddrD prog 65 t62 1 fun t63 =>
 ((lock storeD prog s 4 t63 (.pv (.bool true)) fun s16 =>
 (lock nilD o6_j5 fun t64 =>
 (lock fieldAddrD prog 65 t64 2 fun t65 =>
 ((lock storeD prog s16 4 t65 (.pv (.bool true)) fun s17 =>
 (J23_6 env I2 m2 (v0_j5) (todo1_j5) (o6_j5) (t10_j5) (t11_j5) (t12_j5) s17 K X))/\True))))/\True)))/\True)/\True)))))/\True))/\True))))))
 (lock binD prog .add 3 t12_j5 (.pv (.int .i64 1)) fun t70 =>
 (∃ m',m' < m2/\I2 m' [v0_j5,todo1_j5,t10_j5,t11_j5,t70] s)))
def L23_2 (env:Env) (I2:Nat->List AV->AS->Prop) (m2:Nat) (v0_l2 todo1_l2 t10_l2 t11_l2 t12_l2:AV) (s:AS) (K:AV->AS->Prop) (X:PV->AS->Prop):Prop :=
 (lock binD prog .lss 3 t12_l2 t11_l2 fun t13 =>
 (condD t13
 (lock indexAddrD prog 62 t10_l2 t12_l2 fun t14 =>
 (lock loadD prog s 63 t14 fun t15 =>
 (lock nilD v0_l2 fun t17 =>
 (lock fieldAddrD prog 65 t17 1 fun t18 =>
 (lock loadD prog s 4 t18 fun t19 =>
 (guardD t19 true
 (lock nilD t15 fun t22 =>
 (lock fieldAddrD prog 65 t22 1 fun t23 =>
 (lock loadD prog s 4 t23 fun t24 =>
 (unD .not t24 fun t25 =>
 (guardD t25 false
 (lock nilD v0_l2 fun t29 =>
 (lock fieldAddrD prog 65 t29 2 fun t30 =>
 (lock loadD prog s 4 t30 fun t31 =>
 (guardD t31 true
 (lock nilD t15 fun t34 =>
 (lock fieldAddrD prog 65 t34 2 fun t35 =>
 (lock loadD prog s 4 t35 fun t36 =>
 (unD .not t36 fun t37 =>
 (J23_5 env I2 m2 (v0_l2) (todo1_l2) (t15) (t10_l2) (t11_l2) (t12_l2) (t37) s K X)))))
 (J23_5 env I2 m2 (v0_l2) (todo1_l2) (t15) (t10_l2) (t11_l2) (t12_l2) (.pv (.bool false)) s K X)))))
 (J23_5 env I2 m2 (v0_l2) (todo1_l2) (t15) (t10_l2) (t11_l2) (t12_l2) (.pv (.bool true)) s K X))))))
 (lock nilD v0_l2 fun t29 =>
 (lock fieldAddrD prog 65 t29 2 fun t30 =>
 (lock loadD prog s 4 t30 fun t31 =>
 (guardD t31 true
 (lock nilD t15 fun t34 =>
 (lock fieldAddrD prog 65 t34 2 fun t35 =>
 (lock loadD prog s 4 t35 fun t36 =>
 (unD .not t36 fun t37 =>
 (J23_5 env I2 m2 (v0_l2) (todo1_l2) (t15) (t10_l2) (t11_l2) (t12_l2) (t37) s K X)))))
 (J23_5 env I2 m2 (v0_l2) (todo1_l2) (t15) (t10_l2) (t11_l2) (t12_l2) (.pv (.bool false)) s K X)))))))))))
 (retV (todo1_l2) s K)))
theorem L23_2_eq (env:Env) (I2:Nat->List AV->AS->Prop) (m2:Nat) (v0_l2 todo1_l2 t10_l2 t11_l2 t12_l2:AV) (s:AS) (K:AV->AS->Prop) (X:PV->AS->Prop):L23_2 env I2 m2 v0_l2 todo1_l2 t10_l2 t11_l2 t12_l2 s K X=wpD prog env an23 (subC (bodyC f23) [1,0,1,0,0]) (contQ prog env an23 (bodyC f23) [1,0,1,0,0] [(I2,m2)] (rootQ prog f23 K X)) [(0,v0_l2),(1,todo1_l2),(10,t10_l2),(11,t11_l2),(12,t12_l2)] s:=by
  unfold L23_2
  kernel_rfl
theorem lp23_2 {α:Type} {env:Env}  {v0_l2 t10_l2 t11_l2:AV} {s:AS} {K:AV->AS->Prop} {X:PV->AS->Prop} (μ:α->AS->Nat) (I:α->AS->Prop) (etodo1_l2 et12_l2:α->AV) (a0:α) (h0:I a0 s)
 (h:∀ a s,I a s->L23_2 env  (Inv (fun a=>[v0_l2,etodo1_l2 a,t10_l2,t11_l2,et12_l2 a]) μ I) (μ a s) v0_l2 (etodo1_l2 a) t10_l2 t11_l2 (et12_l2 a) s K X) :
 ∃ I2:Nat->List AV->AS->Prop,(∃ m,I2 m [v0_l2,etodo1_l2 a0,t10_l2,t11_l2,et12_l2 a0] s)/\∀ (m:Nat) (x0 x1 x2 x3 x4:AV),∀ s,I2 m [x0,x1,x2,x3,x4] s ->
 L23_2 env  I2 m x0 x1 x2 x3 x4 s K X:=by
  refine ⟨Inv (fun a=>[v0_l2,etodo1_l2 a,t10_l2,t11_l2,et12_l2 a]) μ I,⟨_,a0,rfl,rfl,h0⟩,?_⟩
  rintro m x0 x1 x2 x3 x4 s' ⟨a,hv,rfl,hI⟩
  simp only [List.cons.injEq,and_true] at hv
  obtain ⟨rfl,rfl,rfl,rfl,rfl⟩:=hv
  exact h a s' hI
def S23 (env:Env) (v0_a todo1_a:AV) (s:AS) (K:AV->AS->Prop) (X:PV->AS->Prop):Prop :=
 (lock nilD v0_a fun t8 =>
 (lock fieldAddrD prog 65 t8 3 fun t9 =>
 (lock loadD prog s 62 t9 fun t10 =>
 (lock lenD prog 62 t10 fun t11 =>
 (∃ I2:Nat->List AV->AS->Prop,(∃ m,I2 m [v0_a,todo1_a,t10,t11,(.pv (.int .i64 0))] s)/\∀ (m2:Nat) (v0_l2 todo1_l2 t10_l2 t11_l2 t12_l2:AV),∀ s1,I2 m2 [v0_l2,todo1_l2,t10_l2,t11_l2,t12_l2] s1 ->
 (L23_2 env I2 m2 v0_l2 todo1_l2 t10_l2 t11_l2 t12_l2 s1 K X))))))
theorem S23_eq (env:Env) (v0_a todo1_a:AV) (s:AS) (K:AV->AS->Prop) (X:PV->AS->Prop):S23 env v0_a todo1_a s K X=bodyD prog env an23 f23 [v0_a,todo1_a] s K X:=by
  unfold S23
  simp only [L23_2_eq]
  kernel_rfl
theorem S23_ok:(match f23.body with | some c=>okCode an23 prog f23.ntmps c | none=>false)=true:=by kernel_rfl
def an65:An:={ mu:=[],cut:=[(1,[0,4,5]),(2,[0,4,5,6,7]),(3,[0,4,5,6,31]),(4,[0,4,5,6]),(5,[0,5,6,36,37,38]),(6,[0,5,6,36,37,38,39]),(7,[0,5,6,8,9,36,37,38]),(8,[0,5,6,9,10,36,37,38]),(9,[0,5,6,9,10,36,37,38,54]),(10,[0,5,6,9,10,36,37,38]),(11,[0,5,6,9,36,37,38])],loop:=[(5,[0,5,6,36,37,38])],any:=[1,2,7] }
def J65_11 (env:Env) (I5:Nat->List AV->AS->Prop) (m5:Nat) (t0_j11 f5_j11 g6_j11 k9_j11 t36_j11 t37_j11 t38_j11:AV) (s:AS) (K:AV->AS->Prop) (X:PV->AS->Prop):Prop :=
 (lock loadD prog s 50 k9_j11 fun t66 =>
 (lock loadD prog s 50 f5_j11 fun t67 =>
 (env 21 [t0_j11,t66,t67] s (fun t68 s15 =>
 (lock binD prog .add 3 t38_j11 (.pv (.int .i64 1)) fun t69 =>
 (∃ m',m' < m5/\I5 m' [t0_j11,f5_j11,g6_j11,t36_j11,t37_j11,t69] s15))) (panV X))))
def J65_10 (env:Env) (I5:Nat->List AV->AS->Prop) (m5:Nat) (t0_j10 f5_j10 g6_j10 k9_j10 to10_j10 t36_j10 t37_j10 t38_j10:AV) (s:AS) (K:AV->AS->Prop) (X:PV->AS->Prop):Prop :=
 (lock nilD to10_j10 fun t63 =>
 (lock fieldAddrD prog 65 t63 1 fun t64 =>
 (lock storeD prog s 4 t64 (.pv (.bool true)) fun s14 =>
 (J65_11 env I5 m5 (t0_j10) (f5_j10) (g6_j10) (k9_j10) (t36_j10) (t37_j10) (t38_j10) s14 K X))))
def J65_9 (env:Env) (I5:Nat->List AV->AS->Prop) (m5:Nat) (t0_j9 f5_j9 g6_j9 k9_j9 to10_j9 t36_j9 t37_j9 t38_j9 t54_j9:AV) (s:AS) (K:AV->AS->Prop) (X:PV->AS->Prop):Prop :=
 (condD t54_j9
 (lock loadD prog s 50 f5_j9 fun t56 =>
 (lock fieldAddrD prog 50 k9_j9 1 fun t57 =>
 (lock loadD prog s 9 t57 fun t58 =>
 (env 66 [t0_j9,t56,t58] s (fun t59 s12 =>
 (env 97 [t59,to10_j9] s12 (fun t61 s13 =>
 (lock binD prog .add 3 t38_j9 (.pv (.int .i64 1)) fun t69 =>
 (∃ m',m' < m5/\I5 m' [t0_j9,f5_j9,g6_j9,t36_j9,t37_j9,t69] s13))) (panV X))) (panV X)))))
 (J65_10 env I5 m5 (t0_j9) (f5_j9) (g6_j9) (k9_j9) (to10_j9) (t36_j9) (t37_j9) (t38_j9) s K X))
def J65_8 (env:Env) (I5:Nat->List AV->AS->Prop) (m5:Nat) (t0_j8 f5_j8 g6_j8 k9_j8 to10_j8 t36_j8 t37_j8 t38_j8:AV) (s:AS) (K:AV->AS->Prop) (X:PV->AS->Prop):Prop :=
 (lock fieldAddrD prog 50 k9_j8 0 fun t52 =>
 (lock loadD prog s 9 t52 fun t53 =>
 (lock binD prog .eql 9 t53 (.pv (.str [118,97,114])) fun t54 =>
 (J65_9 env I5 m5 (t0_j8) (f5_j8) (g6_j8) (k9_j8) (to10_j8) (t36_j8) (t37_j8) (t38_j8) (t54) s K X))))
def J65_7 (env:Env) (I5:Nat->List AV->AS->Prop) (m5:Nat) (t0_j7 f5_j7 g6_j7 i8_j7 k9_j7 t36_j7 t37_j7 t38_j7:AV) (s:AS) (K:AV->AS->Prop) (X:PV->AS->Prop):Prop :=
 ((lock loadD prog s 50 g6_j7 fun t44 =>
 ((lock loadD prog s 50 g6_j7 fun t45 =>
 ((env 64 [t45] s (fun t46 s19 =>
 (lock indexAddrD prog 23 t46 i8_j7 fun t48 =>
 (lock fieldAddrD prog 50 t48 1 fun t49 =>
 ((lock loadD prog s19 9 t49 fun t50 =>
 ((env 66 [t0_j7,t44,t50] s19 (fun t51 s20 =>
 (J65_8 env I5 m5 (t0_j7) (f5_j7) (g6_j7) (k9_j7) (t51) (t36_j7) (t37_j7) (t38_j7) s20 K X)) (panV X))/\True))/\True)))) (panV X))/\True))/\True))/\((lock loadD prog s 50 g6_j7 fun t45 =>
 ((lock loadD prog s 50 g6_j7 fun t44 =>
 ((env 64 [t45] s (fun t46 s17 =>
 (lock indexAddrD prog 23 t46 i8_j7 fun t48 =>
 (lock fieldAddrD prog 50 t48 1 fun t49 =>
 ((lock loadD prog s17 9 t49 fun t50 =>
 ((env 66 [t0_j7,t44,t50] s17 (fun t51 s18 =>
 (J65_8 env I5 m5 (t0_j7) (f5_j7) (g6_j7) (k9_j7) (t51) (t36_j7) (t37_j7) (t38_j7) s18 K X)) (panV X))/\True))/\True)))) (panV X))/\True))/\((env 64 [t45] s (fun t46 s10 =>
 (lock indexAddrD prog 23 t46 i8_j7 fun t48 =>
 (lock fieldAddrD prog 50 t48 1 fun t49 =>
 ((lock loadD prog s10 50 g6_j7 fun t44 =>
 ((lock loadD prog s10 9 t49 fun t50 =>
 ((env 66 [t0_j7,t44,t50] s10 (fun t51 s16 =>
 (J65_8 env I5 m5 (t0_j7) (f5_j7) (g6_j7) (k9_j7) (t51) (t36_j7) (t37_j7) (t38_j7) s16 K X)) (panV X))/\True))/\True))/\((lock loadD prog s10 9 t49 fun t50 =>
 ((lock loadD prog s10 50 g6_j7 fun t44 =>
 ((env 66 [t0_j7,t44,t50] s10 (fun t51 s11 =>
 (J65_8 env I5 m5 (t0_j7) (f5_j7) (g6_j7) (k9_j7) (t51) (t36_j7) (t37_j7) (t38_j7) s11 K X)) (panV X))/\True))/\True))/\True))))) (panV X))/\True)))/\True))
def J65_6x (env:Env) (I5:Nat->List AV->AS->Prop) (m5:Nat) (t0_j6 f5_j6 g6_j6 t36_j6 t37_j6 t38_j6 t39_j6:AV) (s:AS) (K:AV->AS->Prop) (X:PV->AS->Prop):Prop :=
 (lock indexAddrD prog 23 t36_j6 t38_j6 fun t41 =>
 (lock loadD prog s 50 t41 fun t42 =>
 (lock allocD prog s 50 fun t9 s8 =>
 (lock storeD prog s8 50 t9 t42 fun s9 =>
 (J65_7 env I5 m5 (t0_j6) (f5_j6) (g6_j6) (t38_j6) (t9) (t36_j6) (t37_j6) (t38_j6) s9 K X)))))
def J65_6 (env:Env) (I5:Nat->List AV->AS->Prop) (m5:Nat) (t0_j6 f5_j6 g6_j6 t36_j6 t37_j6 t38_j6 t39_j6:AV) (s:AS) (K:AV->AS->Prop) (X:PV->AS->Prop):Prop :=
 (condD t39_j6
 (J65_6x env I5 m5 (t0_j6) (f5_j6) (g6_j6) (t36_j6) (t37_j6) (t38_j6) (t39_j6) s K X)
 (retV (.tuple []) s K))
def L65_5 (env:Env) (I5:Nat->List AV->AS->Prop) (m5:Nat) (t0_l5 f5_l5 g6_l5 t36_l5 t37_l5 t38_l5:AV) (s:AS) (K:AV->AS->Prop) (X:PV->AS->Prop):Prop :=
 (lock binD prog .lss 3 t38_l5 t37_l5 fun t39 =>
 (J65_6 env I5 m5 (t0_l5) (f5_l5) (g6_l5) (t36_l5) (t37_l5) (t38_l5) (t39) s K X))
theorem lp65_5 {α:Type} {env:Env}  {t0_l5 f5_l5 g6_l5 t36_l5 t37_l5:AV} {s:AS} {K:AV->AS->Prop} {X:PV->AS->Prop} (μ:α->AS->Nat) (I:α->AS->Prop) (et38_l5:α->AV) (a0:α) (h0:I a0 s)
 (h:∀ a s,I a s->L65_5 env  (Inv (fun a=>[t0_l5,f5_l5,g6_l5,t36_l5,t37_l5,et38_l5 a]) μ I) (μ a s) t0_l5 f5_l5 g6_l5 t36_l5 t37_l5 (et38_l5 a) s K X) :
 ∃ I5:Nat->List AV->AS->Prop,(∃ m,I5 m [t0_l5,f5_l5,g6_l5,t36_l5,t37_l5,et38_l5 a0] s)/\∀ (m:Nat) (x0 x1 x2 x3 x4 x5:AV),∀ s,I5 m [x0,x1,x2,x3,x4,x5] s ->
 L65_5 env  I5 m x0 x1 x2 x3 x4 x5 s K X:=by
  refine ⟨Inv (fun a=>[t0_l5,f5_l5,g6_l5,t36_l5,t37_l5,et38_l5 a]) μ I,⟨_,a0,rfl,rfl,h0⟩,?_⟩
  rintro m x0 x1 x2 x3 x4 x5 s' ⟨a,hv,rfl,hI⟩
  simp only [List.cons.injEq,and_true] at hv
  obtain ⟨rfl,rfl,rfl,rfl,rfl,rfl⟩:=hv
  exact h a s' hI
def J65_5 (env:Env)  (t0_j5 f5_j5 g6_j5 t36_j5 t37_j5 t38_j5:AV) (s:AS) (K:AV->AS->Prop) (X:PV->AS->Prop):Prop :=
 (∃ I5:Nat->List AV->AS->Prop,(∃ m,I5 m [t0_j5,f5_j5,g6_j5,t36_j5,t37_j5,t38_j5] s)/\∀ (m5:Nat) (t0_l5 f5_l5 g6_l5 t36_l5 t37_l5 t38_l5:AV),∀ s7,I5 m5 [t0_l5,f5_l5,g6_l5,t36_l5,t37_l5,t38_l5] s7 ->
 (L65_5 env I5 m5 t0_l5 f5_l5 g6_l5 t36_l5 t37_l5 t38_l5 s7 K X))
def J65_4 (env:Env)  (t0_j4 n4_j4 f5_j4 g6_j4:AV) (s:AS) (K:AV->AS->Prop) (X:PV->AS->Prop):Prop :=
 (lock fieldAddrD prog 50 n4_j4 2 fun t35 =>
 (lock loadD prog s 23 t35 fun t36 =>
 (lock lenD prog 23 t36 fun t37 =>
 (J65_5 env  (t0_j4) (f5_j4) (g6_j4) (t36) (t37) (.pv (.int .i64 0)) s K X))))
def J65_3 (env:Env)  (t0_j3 n4_j3 f5_j3 g6_j3 t31_j3:AV) (s:AS) (K:AV->AS->Prop) (X:PV->AS->Prop):Prop :=
 (condD t31_j3
 (lock nilD t0_j3 fun t33 =>
 (lock fieldAddrD prog 59 t33 2 fun t34 =>
 (lock storeD prog s 4 t34 (.pv (.bool true)) fun s6 =>
 (retV (.tuple []) s6 K))))
 (J65_4 env  (t0_j3) (n4_j3) (f5_j3) (g6_j3) s K X))
def J65_2 (env:Env)  (t0_j2 n4_j2 f5_j2 g6_j2 ok7_j2:AV) (s:AS) (K:AV->AS->Prop) (X:PV->AS->Prop):Prop :=
 (unD .not ok7_j2 fun t22 =>
 (guardD t22 false
 (lock fieldAddrD prog 50 n4_j2 2 fun t24 =>
 ((lock loadD prog s 23 t24 fun t25 =>
 (lock lenD prog 23 t25 fun t26 =>
 ((lock loadD prog s 50 g6_j2 fun t27 =>
 ((env 64 [t27] s (fun t28 s22 =>
 (lock lenD prog 23 t28 fun t29 =>
 (lock binD prog .gtr 3 t26 t29 fun t30 =>
 (J65_3 env  (t0_j2) (n4_j2) (f5_j2) (g6_j2) (t30) s22 K X)))) (panV X))/\True))/\True)))/\((lock loadD prog s 50 g6_j2 fun t27 =>
 ((lock loadD prog s 23 t24 fun t25 =>
 (lock lenD prog 23 t25 fun t26 =>
 ((env 64 [t27] s (fun t28 s21 =>
 (lock lenD prog 23 t28 fun t29 =>
 (lock binD prog .gtr 3 t26 t29 fun t30 =>
 (J65_3 env  (t0_j2) (n4_j2) (f5_j2) (g6_j2) (t30) s21 K X)))) (panV X))/\True)))/\((env 64 [t27] s (fun t28 s5 =>
 (lock lenD prog 23 t28 fun t29 =>
 ((lock loadD prog s5 23 t24 fun t25 =>
 (lock lenD prog 23 t25 fun t26 =>
 (lock binD prog .gtr 3 t26 t29 fun t30 =>
 (J65_3 env  (t0_j2) (n4_j2) (f5_j2) (g6_j2) (t30) s5 K X))))/\True))) (panV X))/\True)))/\True)))
 ((((J65_3 env  (t0_j2) (n4_j2) (f5_j2) (g6_j2) (.pv (.bool true)) s K X)/\True)/\True)/\((((J65_3 env  (t0_j2) (n4_j2) (f5_j2) (g6_j2) (.pv (.bool true)) s K X)/\True)/\(((J65_3 env  (t0_j2) (n4_j2) (f5_j2) (g6_j2) (.pv (.bool true)) s K X)/\True)/\True))/\True))))
def J65_1 (env:Env)  (t0_j1 n4_j1 f5_j1:AV) (s:AS) (K:AV->AS->Prop) (X:PV->AS->Prop):Prop :=
 (lock nilD t0_j1 fun t13 =>
 (lock fieldAddrD prog 59 t13 0 fun t14 =>
 (lock fieldAddrD prog 50 n4_j1 1 fun t16 =>
 ((lock loadD prog s 56 t14 fun t15 =>
 ((lock loadD prog s 9 t16 fun t17 =>
 ((lock lookupD prog s 56 t15 t17 true fun t18 =>
 (lock extractD t18 0 fun t19 =>
 (lock extractD t18 1 fun t20 =>
 ((lock allocD prog s 50 fun t6 s34 =>
 ((lock storeD prog s34 50 t6 t19 fun s35 =>
 (J65_2 env  (t0_j1) (n4_j1) (f5_j1) (t6) (t20) s35 K X))/\True))/\True))))/\((lock allocD prog s 50 fun t6 s32 =>
 ((lock lookupD prog s32 56 t15 t17 true fun t18 =>
 (lock extractD t18 0 fun t19 =>
 (lock extractD t18 1 fun t20 =>
 ((lock storeD prog s32 50 t6 t19 fun s33 =>
 (J65_2 env  (t0_j1) (n4_j1) (f5_j1) (t6) (t20) s33 K X))/\True))))/\True))/\True)))/\((lock allocD prog s 50 fun t6 s30 =>
 ((lock loadD prog s30 9 t16 fun t17 =>
 ((lock lookupD prog s30 56 t15 t17 true fun t18 =>
 (lock extractD t18 0 fun t19 =>
 (lock extractD t18 1 fun t20 =>
 ((lock storeD prog s30 50 t6 t19 fun s31 =>
 (J65_2 env  (t0_j1) (n4_j1) (f5_j1) (t6) (t20) s31 K X))/\True))))/\True))/\True))/\True)))/\((lock loadD prog s 9 t16 fun t17 =>
 ((lock loadD prog s 56 t14 fun t15 =>
 ((lock lookupD prog s 56 t15 t17 true fun t18 =>
 (lock extractD t18 0 fun t19 =>
 (lock extractD t18 1 fun t20 =>
 ((lock allocD prog s 50 fun t6 s28 =>
 ((lock storeD prog s28 50 t6 t19 fun s29 =>
 (J65_2 env  (t0_j1) (n4_j1) (f5_j1) (t6) (t20) s29 K X))/\True))/\True))))/\((lock allocD prog s 50 fun t6 s26 =>
 ((lock lookupD prog s26 56 t15 t17 true fun t18 =>
 (lock extractD t18 0 fun t19 =>
 (lock extractD t18 1 fun t20 =>
 ((lock storeD prog s26 50 t6 t19 fun s27 =>
 (J65_2 env  (t0_j1) (n4_j1) (f5_j1) (t6) (t20) s27 K X))/\True))))/\True))/\True)))/\((lock allocD prog s 50 fun t6 s24 =>
 ((lock loadD prog s24 56 t14 fun t15 =>
 ((lock lookupD prog s24 56 t15 t17 true fun t18 =>
 (lock extractD t18 0 fun t19 =>
 (lock extractD t18 1 fun t20 =>
 ((lock storeD prog s24 50 t6 t19 fun s25 =>
 (J65_2 env  (t0_j1) (n4_j1) (f5_j1) (t6) (t20) s25 K X))/\True))))/\True))/\True))/\True)))/\((lock allocD prog s 50 fun t6 s3 =>
 ((lock loadD prog s3 56 t14 fun t15 =>
 ((lock loadD prog s3 9 t16 fun t17 =>
 ((lock lookupD prog s3 56 t15 t17 true fun t18 =>
 (lock extractD t18 0 fun t19 =>
 (lock extractD t18 1 fun t20 =>
 ((lock storeD prog s3 50 t6 t19 fun s23 =>
 (J65_2 env  (t0_j1) (n4_j1) (f5_j1) (t6) (t20) s23 K X))/\True))))/\True))/\True))/\((lock loadD prog s3 9 t16 fun t17 =>
 ((lock loadD prog s3 56 t14 fun t15 =>
 ((lock lookupD prog s3 56 t15 t17 true fun t18 =>
 (lock extractD t18 0 fun t19 =>
 (lock extractD t18 1 fun t20 =>
 ((lock storeD prog s3 50 t6 t19 fun s4 =>
 (J65_2 env  (t0_j1) (n4_j1) (f5_j1) (t6) (t20) s4 K X))/\True))))/\True))/\True))/\True)))/\True))))))
def S65 (env:Env) (t0_a n1_a f2_a:AV) (s:AS) (K:AV->AS->Prop) (X:PV->AS->Prop):Prop :=
 (lock boxD s n1_a fun t4 s1 =>
 (lock boxD s1 f2_a fun t5 s2 =>
 (J65_1 env  (t0_a) (t4) (t5) s2 K X)))
theorem S65_eq (env:Env) (t0_a n1_a f2_a:AV) (s:AS) (K:AV->AS->Prop) (X:PV->AS->Prop):S65 env t0_a n1_a f2_a s K X=bodyD prog env an65 f65 [t0_a,n1_a,f2_a] s K X:=by
  unfold S65
  kernel_rfl
theorem S65_ok:(match f65.body with | some c=>okCode an65 prog f65.ntmps c | none=>false)=true:=by kernel_rfl
end Go.AD

set_option linter.unusedVariables false
set_option linter.unusedSimpArgs false
set_option maxRecDepth 100000
namespace Go.AD.Lx
open Go.Proofs RowKit
theorem lenW:∀ l:List NTree,l.length <= wNs l
  | []=>Nat.zero_le _
  | n :: l=>by have:=wN_pos n; have:=lenW l; rw [wNs,List.length_cons]; omega
mutual
theorem okX_of:∀ n:NTree,txN 131074 n->wN n <= 1000000->okX n
  | .mk op text kids,h,hw=>by
    rw [txN] at h
    rw [wN] at hw
    have:=lenW kids
    rw [okX]
    exact ⟨by omega,by omega,okXs_of kids h.2 (by omega)⟩
theorem okXs_of:∀ l:List NTree,txNs 131074 l->wNs l <= 1000000->okXs l
  | [],_,_=>by rw [okXs]; trivial
  | n :: l,h,hw=>by
    rw [txNs] at h
    rw [wNs] at hw
    rw [okXs]
    exact ⟨okX_of n h.1 (by omega),okXs_of l h.2 (by omega)⟩
end
theorem okX_mk {op text:Bytes} {l:List NTree}:okX (.mk op text l) ↔ text.length <= 1000000/\l.length <= 1000000/\okXs l:=by rw [okX]
theorem paramsOk {n:NTree} (h:okX n):(paramsN n).length <= 1000000/\okXs (paramsN n):=by
  unfold paramsN
  have:=okX_kids h
  cases hk:n.kids with
  | nil=>exact ⟨Nat.zero_le _,by rw [okXs]; trivial⟩
  | cons k ks =>
    rw [hk,okXs] at this
    have:=okX_kids this.2.2.1
    exact this.2
def adrs (l:List Nat):List AV:=l.map fun o=>.addr o 0
def RowA (v:AV) (R:Objs) (l:List Nat):Prop:=(v=.nilS/\R=[]/\l=[]) \/ ∃ k,v=.msl k 0 l.length 1/\R=[(k,.cells (adrs l) none)]
section
variable {env:Env} {args:List AV} {σ0 σ τ:AS} {K:AV->AS->Prop} {X:PV->AS->Prop} {L Y M A B:Objs}
theorem adrs_len (l:List Nat):(adrs l).length=l.length:=by unfold adrs; simp
theorem RowA.push {v:AV} {R:Objs} {l:List Nat} (G:RowA v R l) (hS:Sep σ0 σ (A ++ (R ++ B))) (hn:l.length < 1000000000) {o:Nat} {KS:AV->AS->Prop}
    (hK:∀ σ' k p,Sep σ0 σ' ((k,.cells (adrs (l ++ [o])) none) :: p :: (A ++ B))->KS (.msl k 0 (l.length + 1) 1) σ') :
    buildSliceD PS true σ 62 1 1 [(0,.addr o 0)] fun t σ1=>appendD PS true σ1 62 v t KS:=by
  unfold buildSliceD
  rw [T.el62]
  simp only [T.hT63,T.sz63,elemsFill,AV.cells,AV.cellOk,newRowD,List.length_cons,List.length_nil,List.all_cons,List.all_nil,Bool.and_self,Bool.and_true,and_self,if_true,Option.map_some,List.append_nil,true_and,and_true,Nat.one_mul]
  refine ⟨by decide,by rw [T.zo63]; rfl,by decide,fun t ht=>?_⟩
  have h1:=hS.alloc ht (.cells [.addr o 0] none)
  have g1:(σ.set t (.cells [.addr o 0] none)) t=some (.cells [.addr o 0] none):=set_same _ _ _
  generalize (σ.set t (.cells [.addr o 0] none))=σ1 at h1 g1
  unfold appendD
  rw [T.el62]
  have hsh:shown PS σ1 63 (.msl t 0 1 1)=none:=by
    unfold shown
    simp only [g1,T.sz63]
    rfl
  simp only [hsh]
  refine ⟨by rw [T.sz63]; decide,by rw [T.zo63,T.sz63]; rfl,?_⟩
  simp only [true_and]
  unfold appendA
  simp only [g1,T.sz63]
  refine ⟨by simp,by decide,?_⟩
  rcases G with ⟨rfl,rfl,rfl⟩ | ⟨k,rfl,rfl⟩
  · refine ⟨by rw [T.by63]; decide,by decide,?_⟩
    unfold newRowD
    rw [if_pos rfl]
    refine ⟨rfl,fun k hk=>?_⟩
    exact hK _ k _ (h1.alloc hk _)
  · have hg:σ1 k=some (.cells (adrs l) none):=h1.get (by simp)
    simp only [hg]
    refine ⟨trivial,by rw [adrs_len]; omega,by rw [T.by63]; omega,by omega,fun k2 hk2=>?_⟩
    have hdel:(σ1.del k) k2=none:=by
      by_cases e:k2=k
      · subst e; exact del_same _ _
      · rw [del_ne _ e]; exact hk2
    have h2:Sep σ0 σ1 ((k,.cells (adrs l) none) :: (t,.cells [.addr o 0] none) :: (A ++ B)):=h1.perm (by
      refine (List.Perm.cons _ (List.perm_middle (a:=(k,AObj.cells (adrs l) none)) (l₁:=A) (l₂:=B))).trans ?_
      exact List.Perm.swap _ _ _)
    have h3:=h2.del.alloc hdel (.cells (adrs (l ++ [o])) none)
    have e1:List.drop 0 (adrs l) ++ List.take (1 * 1) (List.drop 0 [AV.addr o 0])=adrs (l ++ [o]):=by unfold adrs; simp
    rw [e1]
    exact hK _ k2 _ h3
theorem RowA.len {v:AV} {R:Objs} {l:List Nat} (G:RowA v R l) {K:AV->Prop}:lenD PS 62 v K=K (.pv (.int .i64 (l.length:Nat))):=by
  rcases G with ⟨rfl,rfl,rfl⟩ | ⟨k,rfl,rfl⟩
  · exact T.lnn62
  · exact T.lnm62
theorem RowA.ix {v:AV} {R:Objs} {l:List Nat} (G:RowA v R l) {i:Nat} (hi:i < l.length):∃ k,v=.msl k 0 l.length 1/\R=[(k,.cells (adrs l) none)]/\∀ K:AV->Prop,indexAddrD PS 62 v (.pv (.int .i64 (i:Nat))) K=K (.addr k i):=by
  rcases G with ⟨rfl,rfl,rfl⟩ | ⟨k,rfl,rfl⟩
  · simp at hi
  · refine ⟨k,rfl,rfl,fun K=>?_⟩
    rw [T.ixm62 hi,Nat.zero_add,Nat.mul_one]
theorem adrs_get {l:List Nat} {i:Nat} (hi:i < l.length):(adrs l)[i]?=some (.addr l[i] 0):=by unfold adrs; rw [List.getElem?_map,List.getElem?_eq_getElem hi]; rfl
def lkV (r:VR):AV:=match r.row with
  | none=>.nilS
  | some i=>.msl i 0 r.lks.length 1
def lkO (r:VR):Objs:=match r.row with
  | none=>[]
  | some i=>[(i,.cells (adrs r.lks) none)]
def varC (fl:Marks) (r:VR):AObj:=.cells [.pv (.str r.name),.pv (.bool (fl r.id).1),.pv (.bool (fl r.id).2),lkV r] none
def VObj (fl:Marks) (r:VR):Objs:=(r.id,varC fl r) :: lkO r
def VObjs (fl:Marks) (rs:List VR):Objs:=rs.flatMap (VObj fl)
def rowOk (r:VR):Prop:=r.row=none->r.lks=[]
theorem rowA_of {r:VR} (h:rowOk r):RowA (lkV r) (lkO r) r.lks:=by
  unfold lkV lkO rowOk at *
  cases hr:r.row with
  | none=>exact .inl ⟨rfl,rfl,h hr⟩
  | some i=>exact .inr ⟨i,rfl,rfl⟩
def funE (fs:List NTree):List (Bytes × AV):=fs.map fun f=>(f.text,nodeAV f)
def varE (rs:List VR):List (Bytes × AV):=rs.map fun r=>(r.name,.addr r.id 0)
def TObj (t F V:Nat) (bad:Bool):Nat × AObj:=(t,.cells [.amap F,.amap V,.pv (.bool bad)] none)
def NObjs (t F V:Nat) (fs:List NTree) (bad:Bool) (rs:List VR) (fl:Marks):Objs:=TObj t F V bad :: mapA F (funE fs) :: mapA V (varE rs) :: VObjs fl rs
structure NM (σ0 σ:AS) (t F V:Nat) (fs:List NTree) (bad:Bool) (rs:List VR) (fl:Marks) (L:Objs):Prop where
  sep:Sep σ0 σ (L ++ NObjs t F V fs bad rs fl)
  rows:∀ r ∈ rs,rowOk r
variable {t F V:Nat} {fs:List NTree} {bad:Bool} {rs l1 l2:List VR} {fl:Marks} {r:VR}
theorem VObjs_mid:VObjs fl (l1 ++ r :: l2)=VObjs fl l1 ++ (r.id,varC fl r) :: (lkO r ++ VObjs fl l2):=by
  unfold VObjs
  rw [List.flatMap_append,List.flatMap_cons]
  rfl
theorem NM.sub (h:NM σ0 σ t F V fs bad rs fl L):σ0.sub σ:=h.sep.sub
theorem NM.up (h:NM σ0 σ t F V fs bad rs fl L) {σ':AS} (hs:σ.sub σ'):NM σ0 σ' t F V fs bad rs fl L:=⟨upS h.sep hs,h.rows⟩
theorem NM.alloc (h:NM σ0 σ t F V fs bad rs fl L) {i:Nat} (hi:σ i=none) (o:AObj):NM σ0 (σ.set i o) t F V fs bad rs fl ((i,o) :: L):=⟨h.sep.alloc hi o,h.rows⟩
theorem NM.at (h:NM σ0 σ t F V fs bad rs fl L) {i:Nat} {o:AObj} (hi:(i,o) ∈ L):σ i=some o:=h.sep.get (List.mem_append_left _ hi)
theorem NM.part {L':Objs} (h:NM σ0 σ t F V fs bad rs fl L) (hs:L'.Sublist L):NM σ0 σ t F V fs bad rs fl L':=⟨h.sep.sublist (hs.append (List.Sublist.refl _)),h.rows⟩
theorem NM.gT (h:NM σ0 σ t F V fs bad rs fl L):σ t=some (.cells [.amap F,.amap V,.pv (.bool bad)] none):=h.sep.get (by simp [NObjs,TObj])
theorem NM.gF (h:NM σ0 σ t F V fs bad rs fl L):σ F=some (.mapO 1 (mapEs (funE fs)) (funE fs).length):=h.sep.get (by simp [NObjs,mapA])
theorem NM.gV (h:NM σ0 σ t F V fs bad rs fl L):σ V=some (.mapO 1 (mapEs (varE rs)) (varE rs).length):=h.sep.get (by simp [NObjs,mapA])
theorem NM.gR (h:NM σ0 σ t F V fs bad rs fl L) (hr:r ∈ rs):σ r.id=some (.cells [.pv (.str r.name),.pv (.bool (fl r.id).1),.pv (.bool (fl r.id).2),lkV r] none):=by
  refine h.sep.get (o:=varC fl r) (List.mem_append_right _ ?_)
  unfold NObjs VObjs
  simp only [List.mem_cons,List.mem_flatMap]
  exact .inr (.inr (.inr ⟨r,hr,by unfold VObj; simp⟩))
theorem NM.gL (h:NM σ0 σ t F V fs bad rs fl L) (hr:r ∈ rs) {k:Nat} (hk:(k,AObj.cells (adrs r.lks) none) ∈ lkO r):σ k=some (.cells (adrs r.lks) none):=by
  refine h.sep.get (List.mem_append_right _ ?_)
  unfold NObjs VObjs
  simp only [List.mem_cons,List.mem_flatMap]
  exact .inr (.inr (.inr ⟨r,hr,by unfold VObj; simp [hk]⟩))
theorem NM.setBad {b:Bool} {KS:AS->Prop} (h:NM σ0 σ t F V fs bad rs fl L) (hK:∀ σ',NM σ0 σ' t F V fs b rs fl L->KS σ'):storeD PS σ 4 (.addr t 2) (.pv (.bool b)) KS:=by
  simp only [T.stp4,h.gT,stM_cells,Nat.zero_add,List.set_cons_succ,List.set_cons_zero]
  exact ⟨by simp,hK _ ⟨Sep.set h.sep _,h.rows⟩⟩
theorem NM.turn {p:Nat × AObj} {o:AObj} (h:NM σ0 σ t F V fs bad rs fl (A ++ p :: B)):NM σ0 (σ.set p.1 o) t F V fs bad rs fl (A ++ (p.1,o) :: B):=by
  have hs:Sep σ0 σ (A ++ p :: (B ++ NObjs t F V fs bad rs fl)):=by simpa using h.sep
  refine ⟨?_,h.rows⟩
  have:=Sep.set (i:=p.1) (o:=p.2) hs o
  simpa using this
theorem VObjs_ne {i:Nat} {v:Bool × Bool}:∀ {l:List VR},i ∉ l.map (·.id)->VObjs (fset fl i v) l=VObjs fl l
  | [],_=>rfl
  | q :: l,h=>by
    simp only [List.map_cons,List.mem_cons,not_or] at h
    have e:VObj (fset fl i v) q=VObj fl q:=by
      unfold VObj varC
      rw [fset_ne _ _ (fun e=>h.1 e.symm)]
    show VObj (fset fl i v) q ++ VObjs (fset fl i v) l=VObj fl q ++ VObjs fl l
    rw [e,VObjs_ne h.2]
theorem ids_mid {l1 l2:List VR} {r:VR} (h:((l1 ++ r :: l2).map (·.id)).Nodup):r.id ∉ l1.map (·.id)/\r.id ∉ l2.map (·.id):=by
  rw [List.map_append,List.map_cons,List.nodup_append] at h
  obtain ⟨_,h2,h3⟩:=h
  rw [List.nodup_cons] at h2
  exact ⟨fun hm=>h3 _ hm _ (List.mem_cons_self ..) rfl,h2.1⟩
theorem NM.markS {KS:AS->Prop} (h:NM σ0 σ t F V fs bad rs fl L) (hn:(rs.map (·.id)).Nodup) (hr:r ∈ rs) {b:Bool} (hK:∀ σ',NM σ0 σ' t F V fs bad rs (fset fl r.id (b,(fl r.id).2)) L->KS σ'):storeD PS σ 4 (.addr r.id 1) (.pv (.bool b)) KS:=by
  simp only [T.stp4,h.gR hr,stM_cells,Nat.zero_add,List.set_cons_succ,List.set_cons_zero]
  refine ⟨by simp,hK _ ⟨?_,h.rows⟩⟩
  obtain ⟨l1,l2,rfl⟩:=List.append_of_mem hr
  have hi:=ids_mid hn
  have hs:=h.sep
  unfold NObjs at hs ⊢
  rw [VObjs_mid] at hs ⊢
  rw [VObjs_ne hi.1,VObjs_ne hi.2]
  have e:varC (fset fl r.id (b,(fl r.id).2)) r=.cells [.pv (.str r.name),.pv (.bool b),.pv (.bool (fl r.id).2),lkV r] none:=by unfold varC; rw [fset_same]
  rw [e]
  have:=Sep.set (l1:=L ++ TObj t F V bad :: mapA F (funE fs) :: mapA V (varE (l1 ++ r :: l2)) :: VObjs fl l1) (i:=r.id) (o:=varC fl r) (l2:=lkO r ++ VObjs fl l2) (by simpa using hs) (.cells [.pv (.str r.name),.pv (.bool b),.pv (.bool (fl r.id).2),lkV r] none)
  simpa using this
theorem NM.markA {KS:AS->Prop} (h:NM σ0 σ t F V fs bad rs fl L) (hn:(rs.map (·.id)).Nodup) (hr:r ∈ rs) {b:Bool} (hK:∀ σ',NM σ0 σ' t F V fs bad rs (fset fl r.id ((fl r.id).1,b)) L->KS σ'):storeD PS σ 4 (.addr r.id 2) (.pv (.bool b)) KS:=by
  simp only [T.stp4,h.gR hr,stM_cells,Nat.zero_add,List.set_cons_succ,List.set_cons_zero]
  refine ⟨by simp,hK _ ⟨?_,h.rows⟩⟩
  obtain ⟨l1,l2,rfl⟩:=List.append_of_mem hr
  have hi:=ids_mid hn
  have hs:=h.sep
  unfold NObjs at hs ⊢
  rw [VObjs_mid] at hs ⊢
  rw [VObjs_ne hi.1,VObjs_ne hi.2]
  have e:varC (fset fl r.id ((fl r.id).1,b)) r=.cells [.pv (.str r.name),.pv (.bool (fl r.id).1),.pv (.bool b),lkV r] none:=by unfold varC; rw [fset_same]
  rw [e]
  have:=Sep.set (l1:=L ++ TObj t F V bad :: mapA F (funE fs) :: mapA V (varE (l1 ++ r :: l2)) :: VObjs fl l1) (i:=r.id) (o:=varC fl r) (l2:=lkO r ++ VObjs fl l2) (by simpa using hs) (.cells [.pv (.str r.name),.pv (.bool (fl r.id).1),.pv (.bool b),lkV r] none)
  simpa using this
theorem NM.half {KS:AS->Prop} (h:NM σ0 σ t F V fs bad (l1 ++ r :: l2) fl L) (hn:r.lks.length < 1000000000) {o:Nat}
    (hK:∀ σ' k,NM σ0 σ' t F V fs bad (l1 ++ { r with lks:=r.lks ++ [o],row:=some k } :: l2) fl L->KS σ') :
    loadD PS σ 62 (.addr r.id 3) fun t8=>buildSliceD PS true σ 62 1 1 [(0,.addr o 0)] fun t10 σ1=>appendD PS true σ1 62 t8 t10 fun t11 σ2=>storeD PS σ2 62 (.addr r.id 3) t11 KS:=by
  have hr:r ∈ l1 ++ r :: l2:=by simp
  rw [T.ld62,h.gR hr,ldM_cells]
  refine ⟨lkV r,rfl,?_⟩
  have hs:=h.sep
  unfold NObjs at hs
  rw [VObjs_mid] at hs
  have G:=rowA_of (h.rows r hr)
  refine G.push (A:=L ++ TObj t F V bad :: mapA F (funE fs) :: mapA V (varE (l1 ++ r :: l2)) :: (VObjs fl l1 ++ [(r.id,varC fl r)])) (B:=VObjs fl l2) (by simpa using hs) hn (fun σ2 k p hS2=>?_)
  have hg:σ2 r.id=some (.cells [.pv (.str r.name),.pv (.bool (fl r.id).1),.pv (.bool (fl r.id).2),lkV r] none):=hS2.get (o:=varC fl r) (by simp)
  rw [T.stv62 rfl rfl,hg,stM_cells]
  refine ⟨by simp,hK _ k ⟨?_,?_⟩⟩
  · have h4:=Sep.set (l1:=(k,.cells (adrs (r.lks ++ [o])) none) :: p :: (L ++ TObj t F V bad :: mapA F (funE fs) :: mapA V (varE (l1 ++ r :: l2)) :: VObjs fl l1)) (i:=r.id) (o:=varC fl r) (l2:=VObjs fl l2) (by simpa using hS2) (.cells [.pv (.str r.name),.pv (.bool (fl r.id).1),.pv (.bool (fl r.id).2),.msl k 0 (r.lks.length + 1) 1] none)
    have h5:=(h4.perm (List.Perm.swap _ _ _)).drop
    have h6:=Sep.back (l1:=L ++ TObj t F V bad :: mapA F (funE fs) :: mapA V (varE (l1 ++ r :: l2)) :: (VObjs fl l1 ++ [(r.id,.cells [.pv (.str r.name),.pv (.bool (fl r.id).1),.pv (.bool (fl r.id).2),.msl k 0 (r.lks.length + 1) 1] none)])) (p:=(k,AObj.cells (adrs (r.lks ++ [o])) none)) (l2:=VObjs fl l2) (by simpa using h5)
    unfold NObjs
    rw [VObjs_mid]
    have e1:varE (l1 ++ { r with lks:=r.lks ++ [o],row:=some k } :: l2)=varE (l1 ++ r :: l2):=by unfold varE; simp
    rw [e1]
    have e2:varC fl { r with lks:=r.lks ++ [o],row:=some k }=.cells [.pv (.str r.name),.pv (.bool (fl r.id).1),.pv (.bool (fl r.id).2),.msl k 0 (r.lks.length + 1) 1] none:=by unfold varC lkV; simp
    rw [e2]
    simpa [lkO] using h6
  · intro q hq
    rcases List.mem_append.1 hq with hq | hq
    · exact h.rows q (by simp [hq])
    · rcases List.mem_cons.1 hq with hq | hq
      · rw [hq]; intro e; cases e
      · exact h.rows q (by simp [hq])
end
end Go.AD.Lx

set_option linter.unusedVariables false
set_option linter.unusedSimpArgs false
set_option maxRecDepth 100000
namespace Go.AD.Lx
open Go.Proofs RowKit
section
variable {env:Env} {args:List AV} {σ0 σ τ:AS} {K:AV->AS->Prop} {X:PV->AS->Prop} {L Y M A B:Objs} {t F V:Nat} {fs:List NTree} {bad:Bool} {rs l1 l2:List VR} {fl:Marks} {r:VR} {E:List Ev}
def rowN (l:List NTree):AV:=.pv (.lst l.length (flatN l))
def T_nParams:Tr:=fun args σ K _=>∃ n:NTree,args=[nodeAV n]/\okX n/\∀ σ',σ.sub σ'->K (rowN (paramsN n)) σ'
theorem T_nParams_ok (h:T_nParams args σ K X):bodyD PS env an64 Tryz.f64 args σ K X:=by
  obtain ⟨n,rfl,hx,hK⟩:=h
  rw [<- S64_eq env,S64]
  simp only [lock_eq]
  refine box_N ?_
  intro t1 σ1 hS
  have hg:=hS.get (i:=t1) (List.mem_singleton.2 rfl)
  have hkl:=(okX_kids hx).2.1
  simp (disch:=omega) only [T.fa50_2,T.ld23,hg,ldM_cells,Nat.zero_add,List.getElem?_cons_zero,List.getElem?_cons_succ,someEx,T.lnl23,bin_eql,cond_bool,beq_iff_eq]
  refine iteI (fun g=>?_) (fun g=>?_)
  · have e:n.kids=[]:=List.eq_nil_of_length_eq_zero (by omega)
    have e2:paramsN n=[]:=by unfold paramsN; rw [e]
    have:=hK σ1 hS.sub
    rw [e2] at this
    exact ⟨_,σ1,.inl (.inr ⟨_,rfl,rfl⟩),sub_refl _,this⟩
  · have i0:0 < n.kids.length:=by omega
    have x0:∀ K:AV->Prop,indexAddrD PS 23 (.pv (.lst n.kids.length (flatN n.kids))) (.pv (.int .i64 0)) K=K (.elemP (flatN n.kids) (0 * 3)):=fun K=>node_ix (i:=0) i0
    simp only [x0,T.fe50_2,T.le23,nc2 i0,someEx]
    refine retV_self ?_
    have e2:paramsN n=n.kids[0].kids:=by
      obtain ⟨op,tx,ks⟩:=n
      cases ks with
      | nil=>simp [NTree.kids] at i0
      | cons k ks=>rfl
    have:=hK σ1 hS.sub
    rw [e2] at this
    exact this
def T_nVar1:Tr:=fun args σ K _=>∃ (n:NTree) (t:Nat) (x:Bytes) (v:Option TypeId),args=[nodeAV n,.addr t 0]/\σ t=some (.cells [.pv (.str x)] v)/\∀ σ',σ.sub σ'->K (.pv (.bool (n.text == x))) σ'
theorem T_nVar1_ok (h:T_nVar1 args σ K X):bodyD PS env an99 Tryz.f99 args σ K X:=by
  obtain ⟨n,t,x,v,rfl,hgt,hK⟩:=h
  rw [<- S99_eq env,S99]
  simp only [lock_eq]
  refine box_N ?_
  intro t1 σ1 hS
  have hg:=hS.get (i:=t1) (List.mem_singleton.2 rfl)
  have hg2:=hS.sub _ _ hgt
  simp (disch:=omega) only [T.fa50_1,T.ld9,hg,hg2,ldM_cells,Nat.zero_add,List.getElem?_cons_zero,List.getElem?_cons_succ,someEx,bin_seql]
  exact retV_self (hK _ hS.sub)
def T_nIndex:Tr:=fun args σ K _=>∃ (l:List NTree) (t:Nat) (x:Bytes) (v:Option TypeId),args=[rowN l,.clo 99 [] [.addr t 0]]/\l.length <= 1000000/\σ t=some (.cells [.pv (.str x)] v)/\∀ σ',σ.sub σ'->K (.pv (.int .i64 (idxS (fun p=>p.text == x) l))) σ'
theorem T_nIndex_ok (h1:env 99=T_nVar1) (h:T_nIndex args σ K X):bodyD PS env an141 Tryz.f141 args σ K X:=by
  obtain ⟨l,t,x,v,rfl,hl,hgt,hK⟩:=h
  rw [<- S141_eq env,S141]
  unfold rowN
  simp only [lock_eq,T.lnl23]
  refine lp141_2 (fun (i:Nat) _=>l.length - i) (fun i τ=>σ.sub τ/\i <= l.length/\∀ j (hj:j < l.length),j < i->(l[j].text == x)=false) (fun i=>.pv (.int .i64 (i:Nat))) 0 ⟨sub_refl _,Nat.zero_le _,fun j hj h=>absurd h (Nat.not_lt_zero _)⟩ ?_
  rintro i τ ⟨hs,hi,hall⟩
  unfold L141_2
  simp (disch:=omega) only [lock_eq,go_sem]
  refine iteI (fun g=>?_) (fun g=>?_)
  · simp only [node_ix g,ldK g]
    have hkd:=kidD g
    rw [hkd]
    show env 99 [nodeAV l[i],.addr t 0] τ _ _
    rw [h1]
    refine ⟨l[i],t,x,v,rfl,hs _ _ hgt,fun σ2 hs2=>?_⟩
    simp only [cond_bool]
    refine iteI (fun g2=>?_) (fun g2=>?_)
    · refine retV_self ?_
      have e:idxS (fun p=>p.text == x) l=(i:Int):=by
        unfold idxS
        have:l.findIdx? (fun p=>p.text == x)=some i:=List.findIdx?_eq_some_iff_getElem.2 ⟨g,g2,fun j hj=>by have:=hall j (by omega) hj; simp [this]⟩
        rw [this]
      rw [<- e]
      exact hK _ (AS.sub_trans hs hs2)
    · rw [Bool.not_eq_true] at g2
      refine back (i + 1) rfl (by omega) ⟨AS.sub_trans hs hs2,g,fun j hj hji=>?_⟩
      rcases Nat.lt_or_ge j i with h | h
      · exact hall j hj h
      · have:j=i:=by omega
        subst this; exact g2
  · refine retV_self ?_
    have e:idxS (fun p=>p.text == x) l=-1:=by
      unfold idxS
      have:l.findIdx? (fun p=>p.text == x)=none:=List.findIdx?_eq_none_iff.2 (fun y hy=>by
        obtain ⟨j,hj,rfl⟩:=List.getElem_of_mem hy
        exact hall j hj (by omega))
      rw [this]
    rw [<- e]
    exact hK _ hs
def T_nContains:Tr:=fun args σ K _=>∃ (l:List NTree) (t:Nat) (x:Bytes) (v:Option TypeId),args=[rowN l,.clo 99 [] [.addr t 0]]/\l.length <= 1000000/\σ t=some (.cells [.pv (.str x)] v)/\∀ σ',σ.sub σ'->K (.pv (.bool (l.any (fun p=>p.text == x)))) σ'
theorem T_nContains_ok (h1:env 141=T_nIndex) (h:T_nContains args σ K X):bodyD PS env an98 Tryz.f98 args σ K X:=by
  obtain ⟨l,t,x,v,rfl,hl,hgt,hK⟩:=h
  rw [<- S98_eq env,S98,h1]
  refine ⟨l,t,x,v,rfl,hl,hgt,fun σ1 hs=>?_⟩
  simp (disch:=omega) only [lock_eq,go_sem]
  refine retV_self ?_
  have e:l.any (fun p=>p.text == x)=decide (idxS (fun p=>p.text == x) l ≥ 0):=by
    unfold idxS
    cases hf:l.findIdx? (fun p=>p.text == x) with
    | some i =>
      obtain ⟨hi,hp,_⟩:=List.findIdx?_eq_some_iff_getElem.1 hf
      rw [List.any_eq_true.2 ⟨l[i],List.getElem_mem hi,hp⟩]
      simp
    | none =>
      have:=List.findIdx?_eq_none_iff.1 hf
      rw [List.any_eq_false.2 (fun y hy=>by have:=this y hy; simp [this])]
      rfl
  rw [<- e]
  exact hK _ hs
theorem mapTV:mapTy PS 57=some (9,63):=by kernel_rfl
theorem mapTN:mapTy PS 56=some (9,50):=by kernel_rfl
theorem zV:zeroV PS 63=some (.pv .nilPtr):=by kernel_rfl
theorem zN:zeroV PS 50=some (.agg zeroN):=by kernel_rfl
theorem pVu:PS.underlying 63=some (.pointer 65):=Tryz.underlying63
theorem eqNilA {i:Nat} {K:AV->Prop}:binD PS .eql 63 (.addr i 0) (.pv .nilPtr) K=K (.pv (.bool false)):=by simp [binD,eqD,pVu]
theorem eqNilN {K:AV->Prop}:binD PS .eql 63 (.pv .nilPtr) (.pv .nilPtr) K=K (.pv (.bool true)):=by simp [binD,eqD,pVu]
theorem bldVar {y:Bytes} {K:AV->Prop}:buildD PS 65 [(0,.pv (.str y))] K=K (.agg [.pv (.str y),.pv (.bool false),.pv (.bool false),.nilS]):=by
  simp [buildD,buildFill,go_sem,AV.cells,AV.cellOk,setAll]
theorem varE_get (x:Bytes):∀ rs:List VR,aGet (varE rs) x=(rs.find? fun q=>q.name == x).map fun q=>.addr q.id 0
  | []=>rfl
  | q :: rs=>by
    have ih:=varE_get x rs
    unfold aGet varE at *
    rw [List.map_cons,List.find?_cons,List.find?_cons]
    cases h:(q.name == x) with
    | true=>simp [h]
    | false=>simp only [h]; exact ih
theorem funE_get (x:Bytes):∀ fs:List NTree,aGet (funE fs) x=(funF fs x).map nodeAV
  | []=>rfl
  | q :: fs=>by
    have ih:=funE_get x fs
    unfold aGet funE funF at *
    rw [List.map_cons,List.find?_cons,List.find?_cons]
    cases h:(q.text == x) with
    | true=>simp [h]
    | false=>simp only [h]; exact ih
theorem varE_put {x:Bytes} {i:Nat}:∀ {rs:List VR},(¬ ∃ q ∈ rs,q.name=x)->aPut (varE rs) x (.addr i 0)=varE (rs ++ [⟨x,i,[],none⟩])
  | [],_=>rfl
  | q :: rs,h=>by
    have hq:q.name ≠ x:=fun e=>h ⟨q,List.mem_cons_self ..,e⟩
    have ih:=varE_put (i:=i) (rs:=rs) (fun ⟨p,hp,e⟩=>h ⟨p,List.mem_cons_of_mem _ hp,e⟩)
    show (if (q.name,AV.addr q.id 0).1=x then _ else _)=_
    rw [if_neg hq]
    show _ :: aPut (varE rs) x (.addr i 0)=_
    rw [ih]
    rfl
def Ext (rs rs':List VR):Prop:=∀ q ∈ rs,∃ q' ∈ rs',q'.id=q.id/\q'.name=q.name
theorem Ext.refl (rs:List VR):Ext rs rs:=fun q hq=>⟨q,hq,rfl,rfl⟩
theorem Ext.trans {a b c:List VR} (h:Ext a b) (k:Ext b c):Ext a c:=fun q hq=>by
  obtain ⟨q1,h1,h2,h3⟩:=h q hq
  obtain ⟨q2,h4,h5,h6⟩:=k q1 h1
  exact ⟨q2,h4,h5.trans h2,h6.trans h3⟩
theorem Ext.app (rs:List VR) (r:VR):Ext rs (rs ++ [r]):=fun q hq=>⟨q,List.mem_append_left _ hq,rfl,rfl⟩
theorem NM.put {KS:AS->Prop} {x:Bytes} {i:Nat} (h:NM σ0 σ t F V fs bad rs fl ((i,.cells [.pv (.str x),.pv (.bool false),.pv (.bool false),.nilS] none) :: L)) (hx:¬ ∃ q ∈ rs,q.name=x)
    (hK:∀ σ',i ∉ rs.map (·.id)->NM σ0 σ' t F V fs bad (rs ++ [⟨x,i,[],none⟩]) (fset fl i (false,false)) L->KS σ'):mapUpdateD PS σ 57 (.amap V) (.pv (.str x)) (.addr i 0) KS:=by
  have hi:i ∉ rs.map (·.id):=by
    intro hm
    obtain ⟨q,hq,e⟩:=List.mem_map.1 hm
    have hn:=h.sep.nodup
    rw [List.cons_append,List.map_cons,List.nodup_cons] at hn
    apply hn.1
    rw [List.map_append,List.mem_append]
    refine .inr (List.mem_map.2 ⟨(q.id,varC fl q),?_,e⟩)
    unfold NObjs VObjs
    simp only [List.mem_cons,List.mem_flatMap]
    exact .inr (.inr (.inr ⟨q,hq,by unfold VObj; simp⟩))
  refine mapUpd mapTV keyT (A:=(i,.cells [.pv (.str x),.pv (.bool false),.pv (.bool false),.nilS] none) :: (L ++ [TObj t F V bad,mapA F (funE fs)])) (B:=VObjs fl rs) (by simpa [NObjs] using h.sep) (fun σ' h2=>hK σ' hi ⟨?_,?_⟩)
  · rw [varE_put hx] at h2
    have h3:=Sep.back (l1:=L ++ [TObj t F V bad,mapA F (funE fs)] ++ mapA V (varE (rs ++ [⟨x,i,[],none⟩])) :: VObjs fl rs) (p:=(i,.cells [.pv (.str x),.pv (.bool false),.pv (.bool false),.nilS] none)) (l2:=[]) (by simpa using h2)
    have e1:VObjs (fset fl i (false,false)) (rs ++ [⟨x,i,[],none⟩])=VObjs fl rs ++ [(i,.cells [.pv (.str x),.pv (.bool false),.pv (.bool false),.nilS] none)]:=by
      have:VObjs (fset fl i (false,false)) (rs ++ [⟨x,i,[],none⟩])=VObjs (fset fl i (false,false)) rs ++ VObj (fset fl i (false,false)) ⟨x,i,[],none⟩:=by unfold VObjs; simp
      rw [this,VObjs_ne hi]
      unfold VObj varC lkV lkO
      simp [fset_same]
    unfold NObjs
    rw [e1]
    simpa using h3
  · intro q hq
    rcases List.mem_append.1 hq with hq | hq
    · exact h.rows q hq
    · rw [List.mem_singleton.1 hq]; exact fun _=>rfl
def T_nVariable:Tr:=fun args σ K _=>∃ (σ0:AS) (t F V:Nat) (fs:List NTree) (bad:Bool) (rs:List VR) (fl:Marks) (L:Objs) (E:List Ev) (f:NTree) (x:Bytes),args=[.addr t 0,nodeAV f,.pv (.str x)]/\okX f/\x.length <= 1000000 /\
  NM σ0 σ t F V fs bad rs fl L/\Told E rs fl/\∀ σ' rs' fl' r,NM σ0 σ' t F V fs bad rs' fl' L->Told (E ++ [.use (fullN f x)]) rs' fl'->r ∈ rs'->r.name=fullN f x->Ext rs rs'->K (.addr r.id 0) σ'
theorem var_call {f:FuncId} (h:env f=T_nVariable) {n:NTree} {x:Bytes} (h1:okX n) (h2:x.length <= 1000000) (h3:NM σ0 σ t F V fs bad rs fl L) (h4:Told E rs fl)
    (hK:∀ σ' rs' fl' r,NM σ0 σ' t F V fs bad rs' fl' L->Told (E ++ [.use (fullN n x)]) rs' fl'->r ∈ rs'->r.name=fullN n x->Ext rs rs'->K (.addr r.id 0) σ'):env f [.addr t 0,nodeAV n,.pv (.str x)] σ K X:=by
  rw [h]; exact ⟨_,_,_,_,_,_,_,_,_,_,_,_,rfl,h1,h2,h3,h4,hK⟩
theorem T_nVariable_ok (h1:env 64=T_nParams) (h2:env 98=T_nContains) (h:T_nVariable args σ K X):bodyD PS env an66 Tryz.f66 args σ K X:=by
  obtain ⟨σ0,t,F,V,fs,bad,rs,fl,L,E,f,x,rfl,hf,hx,hN,hT,hK⟩:=h
  rw [<- S66_eq env,S66]
  simp only [lock_eq]
  refine ⟨node_ok _,fun t4 ht4=>?_⟩
  rw [nodeCellsD]
  have hN:=hN.alloc ht4 (.cells [.pv (.str f.op),.pv (.str f.text),.pv (.lst f.kids.length (flatN f.kids))] none)
  generalize σ.set t4 _=σ1 at hN ⊢
  refine ⟨rfl,fun t5 ht5=>?_⟩
  have hN:=hN.alloc ht5 (.cells [.pv (.str x)] none)
  have e5:(AV.pv (.str x)).cells=[.pv (.str x)]:=rfl
  rw [e5]
  generalize σ1.set t5 _=σ2 at hN ⊢
  have hg4:=hN.at (i:=t4) (o:=.cells [.pv (.str f.op),.pv (.str f.text),.pv (.lst f.kids.length (flatN f.kids))] none) (by simp)
  refine loadBox hg4 ?_
  rw [h1]
  refine ⟨f,rfl,hf,fun σ3 hs3=>?_⟩
  have hN:=hN.up hs3
  have hg5:=hN.at (i:=t5) (o:=.cells [.pv (.str x)] none) (by simp)
  rw [h2]
  refine ⟨paramsN f,t5,x,none,rfl,(paramsOk hf).1,hg5,fun σ4 hs4=>?_⟩
  have hN:=hN.up hs4
  clear hg5 hg4
  have j3:∀ (y:Bytes) (τ:AS),y=fullN f x->NM σ0 τ t F V fs bad rs fl ((t5,.cells [.pv (.str y)] none) :: (t4,.cells [.pv (.str f.op),.pv (.str f.text),.pv (.lst f.kids.length (flatN f.kids))] none) :: L)->J66_3 env (.addr t 0) (.addr t5 0) τ K X:=by
    intro y τ hy hN
    subst hy
    have hg5:=hN.at (i:=t5) (o:=.cells [.pv (.str (fullN f x))] none) (by simp)
    unfold J66_3
    simp only [lock_eq,nil_addr,T.fa59_1,T.ld57,T.ld9,hN.gT,hg5,ldM_cells,Nat.zero_add,List.getElem?_cons_zero,List.getElem?_cons_succ,someEx]
    rw [mapLook mapTV keyT zV hN.gV,varE_get]
    cases hfd:rs.find? (fun q=>q.name == fullN f x) with
    | some q =>
      have hq:=List.mem_of_find?_eq_some hfd
      have hqn:q.name=fullN f x:=by have:=List.find?_some hfd; exact beq_iff_eq.1 this
      show binD PS _ _ (.addr q.id 0) _ _
      rw [eqNilA]
      simp only [cond_bool]
      refine iteI (fun h=>absurd h (by decide)) (fun _=>retV_self ?_)
      exact hK _ rs fl q (hN.part (by simp)) (hT.has hq hqn) hq hqn (Ext.refl rs)
    | none =>
      have hno:¬ ∃ q ∈ rs,q.name=fullN f x:=by
        rintro ⟨q,hq,e⟩
        have:=List.find?_eq_none.1 hfd q hq
        exact this (beq_iff_eq.2 e)
      show binD PS _ _ (.pv .nilPtr) _ _
      rw [eqNilN]
      simp only [cond_bool,bldVar]
      refine iteI (fun _=>?_) (fun h=>absurd trivial h)
      refine ⟨rfl,fun i hi=>?_⟩
      have hN2:=hN.alloc hi (.cells [.pv (.str (fullN f x)),.pv (.bool false),.pv (.bool false),.nilS] none)
      have e6:(AV.agg [.pv (.str (fullN f x)),.pv (.bool false),.pv (.bool false),.nilS]).cells=[.pv (.str (fullN f x)),.pv (.bool false),.pv (.bool false),.nilS]:=rfl
      rw [e6]
      generalize τ.set i _=τ2 at hN2 ⊢
      have hg52:=hN2.at (i:=t5) (o:=.cells [.pv (.str (fullN f x))] none) (by simp)
      simp only [T.fa59_1,T.ld57,T.ld9,hN2.gT,hg52,ldM_cells,Nat.zero_add,List.getElem?_cons_zero,List.getElem?_cons_succ,someEx]
      refine NM.put hN2 hno (fun σ7 hni hN7=>retV_self ?_)
      exact hK _ _ _ ⟨fullN f x,i,[],none⟩ (hN7.part (by simp)) (hT.use hni hno) (by simp) rfl (Ext.app _ _)
  simp only [cond_bool]
  refine iteI (fun g=>?_) (fun g=>j3 x σ4 (by unfold fullN; rw [if_neg g]) hN)
  have hg5:=hN.at (i:=t5) (o:=.cells [.pv (.str x)] none) (by simp)
  have hg4:=hN.at (i:=t4) (o:=.cells [.pv (.str f.op),.pv (.str f.text),.pv (.lst f.kids.length (flatN f.kids))] none) (by simp)
  have hft:=(okX_kids hf).1
  simp only [T.fa50_1,T.ld9,hg4,hg5,ldM_cells,Nat.zero_add,List.getElem?_cons_zero,List.getElem?_cons_succ,someEx,bin_cat]
  refine ⟨by simp; omega,by simp; omega,?_⟩
  rw [T.stp9,hg5,stM_cells]
  refine ⟨by simp,?_⟩
  have hN5:=NM.turn (A:=[]) (p:=(t5,.cells [.pv (.str x)] none)) (o:=.cells [.pv (.str (f.text ++ [46] ++ x))] none) hN
  exact j3 _ _ (by unfold fullN; rw [if_pos g]) hN5
def T_nLink:Tr:=fun args σ K _=>∃ (σ0:AS) (t F V:Nat) (fs:List NTree) (bad:Bool) (rs:List VR) (fl:Marks) (L:Objs) (E:List Ev) (a b:VR),args=[.addr a.id 0,.addr b.id 0]/\a ∈ rs/\b ∈ rs/\E.length <= 400000000 /\
  NM σ0 σ t F V fs bad rs fl L/\Told (E ++ [.use b.name] ++ [.use a.name]) rs fl/\∀ σ' rs',NM σ0 σ' t F V fs bad rs' fl L->Told (E ++ [.link a.name b.name]) rs' fl->Ext rs rs'->K (.tuple []) σ'
theorem Ext.mid {k:Nat} {o:Nat}:Ext (l1 ++ r :: l2) (l1 ++ { r with lks:=r.lks ++ [o],row:=some k } :: l2):=by
  intro q hq
  rcases List.mem_append.1 hq with hq | hq
  · exact ⟨q,by simp [hq],rfl,rfl⟩
  · rcases List.mem_cons.1 hq with hq | hq
    · exact ⟨_,List.mem_append_right _ (List.mem_cons_self ..),by rw [hq],by rw [hq]⟩
    · exact ⟨q,by simp [hq],rfl,rfl⟩
theorem T_nLink_ok (h:T_nLink args σ K X):bodyD PS env an97 Tryz.f97 args σ K X:=by
  obtain ⟨σ0,t,F,V,fs,bad,rs,fl,L,E,a,b,rfl,ha,hb,hE,hN,hT,hK⟩:=h
  rw [<- S97_eq env,S97]
  simp only [lock_eq,nil_addr,T.fa65_3,Nat.zero_add]
  have hcl:=cntL_le E
  have hc:cntL (E ++ [.use b.name] ++ [.use a.name])=cntL E:=by rw [cntL_snoc,cntL_snoc]; simp [isLk]
  obtain ⟨l1,l2,rfl⟩:=List.append_of_mem ha
  refine NM.half (o:=b.id) hN (by have:=hT.few a ha; omega) (fun σ3 k hN3=>?_)
  have T1:=TL.half (w:=some k) hT hb
  have x1:Ext (l1 ++ a :: l2) (l1 ++ { a with lks:=a.lks ++ [b.id],row:=some k } :: l2):=Ext.mid
  obtain ⟨b',hb',hbi,hbn⟩:=x1 b hb
  obtain ⟨a',ha',hai,han⟩:=x1 a (by simp)
  generalize l1 ++ { a with lks:=a.lks ++ [b.id],row:=some k } :: l2=rs1 at hN3 T1 x1 hb' ha'
  obtain ⟨m1,m2,rfl⟩:=List.append_of_mem hb'
  rw [<- hbi,<- hai]
  refine NM.half (o:=a'.id) hN3 (by have:=T1.few b' hb'; omega) (fun σ6 k2 hN6=>retV_self ?_)
  have T2:=TL.half (w:=some k2) T1 ha'
  refine hK σ6 _ hN6 (Told.link ?_) (x1.trans Ext.mid)
  refine T2.imp (fun _=>Iff.rfl) (fun _=>Iff.rfl) (fun _=>Iff.rfl) (fun x y=>?_) (Nat.le_refl _)
  rw [hbn,han]
end
end Go.AD.Lx
