import Derived.Test.YtjgjmpophpifgaaGreatDoorM7
import Derived.Test.YtjgjmpophpifgaaGreatDoorM9
set_option linter.unusedVariables false
set_option maxRecDepth 100000
namespace Go.AD
open Go.Proofs.Tryz
def an74:An:={ mu:=[],cut:=[],loop:=[] }
def S74 (env:Env) (p0_a k1_a:AV) (s:AS) (K:AV->AS->Prop) (X:PV->AS->Prop):Prop :=
 (lock allocD prog s 53 fun t4 s1 =>
 (lock nilD p0_a fun t7 =>
 (lock fieldAddrD prog 85 t7 0 fun t8 =>
 (lock loadD prog s1 42 t8 fun t9 =>
 (lock lenD prog 42 t9 fun t10 =>
 (lock binD prog .lss 3 k1_a t10 fun t11 =>
 (condD t11
 (lock nilD p0_a fun t13 =>
 (lock fieldAddrD prog 85 t13 0 fun t14 =>
 (lock loadD prog s1 42 t14 fun t15 =>
 (lock indexAddrD prog 42 t15 k1_a fun t17 =>
 (lock loadD prog s1 53 t17 fun t18 =>
 (lock storeD prog s1 53 t4 t18 fun s2 =>
 (lock loadD prog s2 53 t4 fun r0 =>
 (retV (r0) s2 K))))))))
 (lock loadD prog s1 53 (.glob 0) fun t19 =>
 (lock storeD prog s1 53 t4 t19 fun s3 =>
 (lock loadD prog s3 53 t4 fun r0 =>
 (retV (r0) s3 K)))))))))))
theorem S74_eq (env:Env) (p0_a k1_a:AV) (s:AS) (K:AV->AS->Prop) (X:PV->AS->Prop):S74 env p0_a k1_a s K X=bodyD prog env an74 f74 [p0_a,k1_a] s K X:=by
  unfold S74
  kernel_rfl
theorem S74_ok:(match f74.body with | some c=>okCode an74 prog f74.ntmps c | none=>false)=true:=by kernel_rfl
def an76:An:={ mu:=[],cut:=[],loop:=[] }
def S76 (env:Env) (p0_a k1_a:AV) (s:AS) (K:AV->AS->Prop) (X:PV->AS->Prop):Prop :=
 (lock nilD p0_a fun t6 =>
 (lock fieldAddrD prog 85 t6 0 fun t7 =>
 (lock loadD prog s 42 t7 fun t8 =>
 (lock sliceD prog 42 t8 (some k1_a) none fun t10 =>
 (lock nilD p0_a fun t11 =>
 (lock fieldAddrD prog 85 t11 0 fun t12 =>
 (lock storeD prog s 42 t12 t10 fun s1 =>
 (retV (.tuple []) s1 K))))))))
theorem S76_eq (env:Env) (p0_a k1_a:AV) (s:AS) (K:AV->AS->Prop) (X:PV->AS->Prop):S76 env p0_a k1_a s K X=bodyD prog env an76 f76 [p0_a,k1_a] s K X:=by
  unfold S76
  kernel_rfl
theorem S76_ok:(match f76.body with | some c=>okCode an76 prog f76.ntmps c | none=>false)=true:=by kernel_rfl
def an75:An:={ mu:=[],cut:=[],loop:=[] }
def S75 (env:Env) (t0_a:AV) (s:AS) (K:AV->AS->Prop) (X:PV->AS->Prop):Prop :=
 (lock allocD prog s 53 fun t2 s1 =>
 (lock buildD prog 53 [(0,(.pv (.str [111,112]))),(1,t0_a)] fun t4 =>
 (lock storeD prog s1 53 t2 t4 fun s2 =>
 (lock loadD prog s2 53 t2 fun r0 =>
 (retV (r0) s2 K)))))
theorem S75_eq (env:Env) (t0_a:AV) (s:AS) (K:AV->AS->Prop) (X:PV->AS->Prop):S75 env t0_a s K X=bodyD prog env an75 f75 [t0_a] s K X:=by
  unfold S75
  kernel_rfl
theorem S75_ok:(match f75.body with | some c=>okCode an75 prog f75.ntmps c | none=>false)=true:=by kernel_rfl
def an81:An:={ mu:=[],cut:=[],loop:=[] }
def S81 (env:Env) (t0_a:AV) (s:AS) (K:AV->AS->Prop) (X:PV->AS->Prop):Prop :=
 (lock allocD prog s 53 fun t2 s1 =>
 (lock buildD prog 53 [(0,(.pv (.str [119,111,114,100]))),(1,t0_a)] fun t4 =>
 (lock storeD prog s1 53 t2 t4 fun s2 =>
 (lock loadD prog s2 53 t2 fun r0 =>
 (retV (r0) s2 K)))))
theorem S81_eq (env:Env) (t0_a:AV) (s:AS) (K:AV->AS->Prop) (X:PV->AS->Prop):S81 env t0_a s K X=bodyD prog env an81 f81 [t0_a] s K X:=by
  unfold S81
  kernel_rfl
theorem S81_ok:(match f81.body with | some c=>okCode an81 prog f81.ntmps c | none=>false)=true:=by kernel_rfl
def an80:An:={ mu:=[],cut:=[],loop:=[],any:=[1] }
def S80 (env:Env) (p0_a t1_a:AV) (s:AS) (K:AV->AS->Prop) (X:PV->AS->Prop):Prop :=
 (lock boxD s t1_a fun t3 s1 =>
 ((env 74 [p0_a,(.pv (.int .i64 0))] s1 (fun t7 s4 =>
 ((lock loadD prog s4 53 t3 fun t8 =>
 ((lock binD prog .eql 53 t7 t8 fun t9 =>
 (condD t9
 (env 76 [p0_a,(.pv (.int .i64 1))] s4 (fun t12 s5 =>
 (retV (t9) s5 K)) (panV X))
 (retV (t9) s4 K)))/\True))/\True)) (panV X))/\((lock loadD prog s1 53 t3 fun t8 =>
 ((env 74 [p0_a,(.pv (.int .i64 0))] s1 (fun t7 s2 =>
 ((lock binD prog .eql 53 t7 t8 fun t9 =>
 (condD t9
 (env 76 [p0_a,(.pv (.int .i64 1))] s2 (fun t12 s3 =>
 (retV (t9) s3 K)) (panV X))
 (retV (t9) s2 K)))/\True)) (panV X))/\True))/\True)))
theorem S80_eq (env:Env) (p0_a t1_a:AV) (s:AS) (K:AV->AS->Prop) (X:PV->AS->Prop):S80 env p0_a t1_a s K X=bodyD prog env an80 f80 [p0_a,t1_a] s K X:=by
  unfold S80
  kernel_rfl
theorem S80_ok:(match f80.body with | some c=>okCode an80 prog f80.ntmps c | none=>false)=true:=by kernel_rfl
def an126:An:={ mu:=[],cut:=[],loop:=[] }
def S126 (env:Env) (p0_a t1_a:AV) (s:AS) (K:AV->AS->Prop) (X:PV->AS->Prop):Prop :=
 (lock boxD s t1_a fun t3 s1 =>
 (lock loadD prog s1 53 t3 fun t5 =>
 (env 80 [p0_a,t5] s1 (fun t6 s2 =>
 (unD .not t6 fun t7 =>
 (condD t7
 (lock buildD prog 80 [] fun t8 =>
 (lock ifaceD prog 80 t8 fun t9 =>
 (lock panicD s2 t9 (panV X))))
 (retV (.tuple []) s2 K)))) (panV X))))
theorem S126_eq (env:Env) (p0_a t1_a:AV) (s:AS) (K:AV->AS->Prop) (X:PV->AS->Prop):S126 env p0_a t1_a s K X=bodyD prog env an126 f126 [p0_a,t1_a] s K X:=by
  unfold S126
  kernel_rfl
theorem S126_ok:(match f126.body with | some c=>okCode an126 prog f126.ntmps c | none=>false)=true:=by kernel_rfl
def an128:An:={ mu:=[],cut:=[],loop:=[(3,[0,4,5,10,11,12])] }
def L128_3 (env:Env) (I3:Nat->List AV->AS->Prop) (m3:Nat) (p0_l3 t4_l3 t5_l3 t10_l3 t11_l3 t12_l3:AV) (s:AS) (K:AV->AS->Prop) (X:PV->AS->Prop):Prop :=
 (lock binD prog .lss 3 t12_l3 t11_l3 fun t13 =>
 (condD t13
 (lock indexAddrD prog 26 t10_l3 t12_l3 fun t14 =>
 (lock loadD prog s 9 t14 fun t15 =>
 (lock fieldAddrD prog 53 t5_l3 0 fun t16 =>
 (lock loadD prog s 9 t16 fun t17 =>
 (lock binD prog .eql 9 t17 t15 fun t19 =>
 (condD t19
 (env 76 [p0_l3,(.pv (.int .i64 1))] s (fun t21 s5 =>
 (lock fieldAddrD prog 53 t5_l3 1 fun t22 =>
 (lock loadD prog s5 9 t22 fun t23 =>
 (retV (t23) s5 K)))) (panV X))
 (lock binD prog .add 3 t12_l3 (.pv (.int .i64 1)) fun t24 =>
 (∃ m',m' < m3/\I3 m' [p0_l3,t4_l3,t5_l3,t10_l3,t11_l3,t24] s))))))))
 (lock buildD prog 80 [] fun t25 =>
 (lock ifaceD prog 80 t25 fun t26 =>
 (lock panicD s t26 (panV X))))))
theorem L128_3_eq (env:Env) (I3:Nat->List AV->AS->Prop) (m3:Nat) (p0_l3 t4_l3 t5_l3 t10_l3 t11_l3 t12_l3:AV) (s:AS) (K:AV->AS->Prop) (X:PV->AS->Prop):L128_3 env I3 m3 p0_l3 t4_l3 t5_l3 t10_l3 t11_l3 t12_l3 s K X=wpD prog env an128 (subC (bodyC f128) [1,1,0,1,0,0]) (contQ prog env an128 (bodyC f128) [1,1,0,1,0,0] [(I3,m3)] (rootQ prog f128 K X)) [(0,p0_l3),(4,t4_l3),(5,t5_l3),(10,t10_l3),(11,t11_l3),(12,t12_l3)] s:=by
  unfold L128_3
  kernel_rfl
theorem lp128_3 {α:Type} {env:Env}  {p0_l3 t5_l3 t10_l3 t11_l3:AV} {s:AS} {K:AV->AS->Prop} {X:PV->AS->Prop} (μ:α->AS->Nat) (I:α->AS->Prop) (et4_l3 et12_l3:α->AV) (a0:α) (h0:I a0 s)
 (h:∀ a s,I a s->L128_3 env  (Inv (fun a=>[p0_l3,et4_l3 a,t5_l3,t10_l3,t11_l3,et12_l3 a]) μ I) (μ a s) p0_l3 (et4_l3 a) t5_l3 t10_l3 t11_l3 (et12_l3 a) s K X) :
 ∃ I3:Nat->List AV->AS->Prop,(∃ m,I3 m [p0_l3,et4_l3 a0,t5_l3,t10_l3,t11_l3,et12_l3 a0] s)/\∀ (m:Nat) (x0 x1 x2 x3 x4 x5:AV),∀ s,I3 m [x0,x1,x2,x3,x4,x5] s ->
 L128_3 env  I3 m x0 x1 x2 x3 x4 x5 s K X:=by
  refine ⟨Inv (fun a=>[p0_l3,et4_l3 a,t5_l3,t10_l3,t11_l3,et12_l3 a]) μ I,⟨_,a0,rfl,rfl,h0⟩,?_⟩
  rintro m x0 x1 x2 x3 x4 x5 s' ⟨a,hv,rfl,hI⟩
  simp only [List.cons.injEq,and_true] at hv
  obtain ⟨rfl,rfl,rfl,rfl,rfl,rfl⟩:=hv
  exact h a s' hI
def S128 (env:Env) (p0_a kinds1_a:AV) (s:AS) (K:AV->AS->Prop) (X:PV->AS->Prop):Prop :=
 (env 74 [p0_a,(.pv (.int .i64 0))] s (fun t9 s1 =>
 (lock allocD prog s1 53 fun t5 s2 =>
 (lock storeD prog s2 53 t5 t9 fun s3 =>
 (lock lenD prog 26 kinds1_a fun t11 =>
 (∃ I3:Nat->List AV->AS->Prop,(∃ m,I3 m [p0_a,(.pv (.str [])),t5,kinds1_a,t11,(.pv (.int .i64 0))] s3)/\∀ (m3:Nat) (p0_l3 t4_l3 t5_l3 t10_l3 t11_l3 t12_l3:AV),∀ s4,I3 m3 [p0_l3,t4_l3,t5_l3,t10_l3,t11_l3,t12_l3] s4 ->
 (L128_3 env I3 m3 p0_l3 t4_l3 t5_l3 t10_l3 t11_l3 t12_l3 s4 K X)))))) (panV X))
theorem S128_eq (env:Env) (p0_a kinds1_a:AV) (s:AS) (K:AV->AS->Prop) (X:PV->AS->Prop):S128 env p0_a kinds1_a s K X=bodyD prog env an128 f128 [p0_a,kinds1_a] s K X:=by
  unfold S128
  simp only [L128_3_eq]
  kernel_rfl
theorem S128_ok:(match f128.body with | some c=>okCode an128 prog f128.ntmps c | none=>false)=true:=by kernel_rfl
def an85:An:={ mu:=[],cut:=[],loop:=[(0,[0])] }
def L85_0 (env:Env) (I0:Nat->List AV->AS->Prop) (m0:Nat) (p0_l0:AV) (s:AS) (K:AV->AS->Prop) (X:PV->AS->Prop):Prop :=
 (env 74 [p0_l0,(.pv (.int .i64 0))] s (fun t3 s2 =>
 (lock fieldD prog 53 t3 0 fun t4 =>
 (lock binD prog .eql 9 t4 (.pv (.str [110,108])) fun t5 =>
 (condD t5
 (env 76 [p0_l0,(.pv (.int .i64 1))] s2 (fun t7 s3 =>
 (∃ m',m' < m0/\I0 m' [p0_l0] s3)) (panV X))
 (retV (.tuple []) s2 K))))) (panV X))
theorem L85_0_eq (env:Env) (I0:Nat->List AV->AS->Prop) (m0:Nat) (p0_l0:AV) (s:AS) (K:AV->AS->Prop) (X:PV->AS->Prop):L85_0 env I0 m0 p0_l0 s K X=wpD prog env an85 (subC (bodyC f85) [0,0]) (contQ prog env an85 (bodyC f85) [0,0] [(I0,m0)] (rootQ prog f85 K X)) [(0,p0_l0)] s:=by
  unfold L85_0
  kernel_rfl
theorem lp85_0 {α:Type} {env:Env}  {p0_l0:AV} {s:AS} {K:AV->AS->Prop} {X:PV->AS->Prop} (μ:α->AS->Nat) (I:α->AS->Prop) (a0:α) (h0:I a0 s)
 (h:∀ a s,I a s->L85_0 env  (Inv (fun a=>[p0_l0]) μ I) (μ a s) p0_l0 s K X) :
 ∃ I0:Nat->List AV->AS->Prop,(∃ m,I0 m [p0_l0] s)/\∀ (m:Nat) (x0:AV),∀ s,I0 m [x0] s ->
 L85_0 env  I0 m x0 s K X:=by
  refine ⟨Inv (fun a=>[p0_l0]) μ I,⟨_,a0,rfl,rfl,h0⟩,?_⟩
  rintro m x0 s' ⟨a,hv,rfl,hI⟩
  simp only [List.cons.injEq,and_true] at hv
  obtain rfl:=hv
  exact h a s' hI
def S85 (env:Env) (p0_a:AV) (s:AS) (K:AV->AS->Prop) (X:PV->AS->Prop):Prop :=
 (∃ I0:Nat->List AV->AS->Prop,(∃ m,I0 m [p0_a] s)/\∀ (m0:Nat) (p0_l0:AV),∀ s1,I0 m0 [p0_l0] s1 ->
 (L85_0 env I0 m0 p0_l0 s1 K X))
theorem S85_eq (env:Env) (p0_a:AV) (s:AS) (K:AV->AS->Prop) (X:PV->AS->Prop):S85 env p0_a s K X=bodyD prog env an85 f85 [p0_a] s K X:=by
  unfold S85
  simp only [L85_0_eq]
  kernel_rfl
theorem S85_ok:(match f85.body with | some c=>okCode an85 prog f85.ntmps c | none=>false)=true:=by kernel_rfl
def an36:An:={ mu:=[],cut:=[],loop:=[(2,[0,3])] }
def L36_2 (env:Env) (I2:Nat->List AV->AS->Prop) (m2:Nat) (p0_l2 some3_l2:AV) (s:AS) (K:AV->AS->Prop) (X:PV->AS->Prop):Prop :=
 (env 74 [p0_l2,(.pv (.int .i64 0))] s (fun t5 s2 =>
 (lock fieldD prog 53 t5 0 fun t6 =>
 (lock binD prog .eql 9 t6 (.pv (.str [110,108])) fun t7 =>
 (guardD t7 false
 (env 74 [p0_l2,(.pv (.int .i64 0))] s2 (fun t10 s3 =>
 (env 75 [(.pv (.str [59]))] s3 (fun t11 s4 =>
 (lock binD prog .eql 53 t10 t11 fun t12 =>
 (condD t12
 (env 76 [p0_l2,(.pv (.int .i64 1))] s4 (fun t15 s5 =>
 (∃ m',m' < m2/\I2 m' [p0_l2,(.pv (.bool true))] s5)) (panV X))
 (retV (some3_l2) s4 K)))) (panV X))) (panV X))
 (env 76 [p0_l2,(.pv (.int .i64 1))] s2 (fun t15 s6 =>
 (∃ m',m' < m2/\I2 m' [p0_l2,(.pv (.bool true))] s6)) (panV X)))))) (panV X))
theorem L36_2_eq (env:Env) (I2:Nat->List AV->AS->Prop) (m2:Nat) (p0_l2 some3_l2:AV) (s:AS) (K:AV->AS->Prop) (X:PV->AS->Prop):L36_2 env I2 m2 p0_l2 some3_l2 s K X=wpD prog env an36 (subC (bodyC f36) [1,1,0,0,0]) (contQ prog env an36 (bodyC f36) [1,1,0,0,0] [(I2,m2)] (rootQ prog f36 K X)) [(0,p0_l2),(3,some3_l2)] s:=by
  unfold L36_2
  kernel_rfl
theorem lp36_2 {α:Type} {env:Env}  {p0_l2:AV} {s:AS} {K:AV->AS->Prop} {X:PV->AS->Prop} (μ:α->AS->Nat) (I:α->AS->Prop) (esome3_l2:α->AV) (a0:α) (h0:I a0 s)
 (h:∀ a s,I a s->L36_2 env  (Inv (fun a=>[p0_l2,esome3_l2 a]) μ I) (μ a s) p0_l2 (esome3_l2 a) s K X) :
 ∃ I2:Nat->List AV->AS->Prop,(∃ m,I2 m [p0_l2,esome3_l2 a0] s)/\∀ (m:Nat) (x0 x1:AV),∀ s,I2 m [x0,x1] s ->
 L36_2 env  I2 m x0 x1 s K X:=by
  refine ⟨Inv (fun a=>[p0_l2,esome3_l2 a]) μ I,⟨_,a0,rfl,rfl,h0⟩,?_⟩
  rintro m x0 x1 s' ⟨a,hv,rfl,hI⟩
  simp only [List.cons.injEq,and_true] at hv
  obtain ⟨rfl,rfl⟩:=hv
  exact h a s' hI
def S36 (env:Env) (p0_a:AV) (s:AS) (K:AV->AS->Prop) (X:PV->AS->Prop):Prop :=
 (∃ I2:Nat->List AV->AS->Prop,(∃ m,I2 m [p0_a,(.pv (.bool false))] s)/\∀ (m2:Nat) (p0_l2 some3_l2:AV),∀ s1,I2 m2 [p0_l2,some3_l2] s1 ->
 (L36_2 env I2 m2 p0_l2 some3_l2 s1 K X))
theorem S36_eq (env:Env) (p0_a:AV) (s:AS) (K:AV->AS->Prop) (X:PV->AS->Prop):S36 env p0_a s K X=bodyD prog env an36 f36 [p0_a] s K X:=by
  unfold S36
  simp only [L36_2_eq]
  kernel_rfl
theorem S36_ok:(match f36.body with | some c=>okCode an36 prog f36.ntmps c | none=>false)=true:=by kernel_rfl
def an82:An:={ mu:=[],cut:=[],loop:=[] }
def S82 (env:Env) (op0_a text1_a kids2_a:AV) (s:AS) (K:AV->AS->Prop) (X:PV->AS->Prop):Prop :=
 (lock allocD prog s 50 fun t6 s1 =>
 (lock buildD prog 50 [(0,op0_a),(1,text1_a),(2,kids2_a)] fun t10 =>
 (lock storeD prog s1 50 t6 t10 fun s2 =>
 (lock loadD prog s2 50 t6 fun r0 =>
 (retV (r0) s2 K)))))
theorem S82_eq (env:Env) (op0_a text1_a kids2_a:AV) (s:AS) (K:AV->AS->Prop) (X:PV->AS->Prop):S82 env op0_a text1_a kids2_a s K X=bodyD prog env an82 f82 [op0_a,text1_a,kids2_a] s K X:=by
  unfold S82
  kernel_rfl
theorem S82_ok:(match f82.body with | some c=>okCode an82 prog f82.ntmps c | none=>false)=true:=by kernel_rfl
def an79:An:={ mu:=[],cut:=[],loop:=[] }
def S79 (env:Env) (s:AS) (K:AV->AS->Prop) (X:PV->AS->Prop):Prop :=
 (lock allocD prog s 50 fun t0 s1 =>
 (env 82 [(.pv (.str [110,111,110,101])),(.pv (.str [])),(.nilS)] s1 (fun t1 s2 =>
 (lock storeD prog s2 50 t0 t1 fun s3 =>
 (lock loadD prog s3 50 t0 fun r0 =>
 (retV (r0) s3 K)))) (panV X)))
theorem S79_eq (env:Env) (s:AS) (K:AV->AS->Prop) (X:PV->AS->Prop):S79 env  s K X=bodyD prog env an79 f79 [] s K X:=by
  unfold S79
  kernel_rfl
theorem S79_ok:(match f79.body with | some c=>okCode an79 prog f79.ntmps c | none=>false)=true:=by kernel_rfl
def an131:An:={ mu:=[],cut:=[],loop:=[] }
def S131 (env:Env) (n0_a:AV) (s:AS) (K:AV->AS->Prop) (X:PV->AS->Prop):Prop :=
 (lock boxD s n0_a fun t1 s1 =>
 (lock fieldAddrD prog 50 t1 0 fun t3 =>
 (lock loadD prog s1 9 t3 fun t4 =>
 (lock binD prog .eql 9 t4 (.pv (.str [118,97,114])) fun t5 =>
 (guardD t5 false
 (lock fieldAddrD prog 50 t1 0 fun t7 =>
 (lock loadD prog s1 9 t7 fun t8 =>
 (lock binD prog .eql 9 t8 (.pv (.str [101,108,101,109])) fun t9 =>
 (guardD t9 false
 (lock fieldAddrD prog 50 t1 0 fun t12 =>
 (lock loadD prog s1 9 t12 fun t13 =>
 (lock binD prog .eql 9 t13 (.pv (.str [102,105,101,108,100])) fun t14 =>
 (retV (t14) s1 K))))
 (retV ((.pv (.bool true))) s1 K)))))
 (retV ((.pv (.bool true))) s1 K))))))
theorem S131_eq (env:Env) (n0_a:AV) (s:AS) (K:AV->AS->Prop) (X:PV->AS->Prop):S131 env n0_a s K X=bodyD prog env an131 f131 [n0_a] s K X:=by
  unfold S131
  kernel_rfl
theorem S131_ok:(match f131.body with | some c=>okCode an131 prog f131.ntmps c | none=>false)=true:=by kernel_rfl
def an35:An:={ mu:=[],cut:=[],loop:=[] }
def S35 (env:Env) (ok0_a:AV) (s:AS) (K:AV->AS->Prop) (X:PV->AS->Prop):Prop :=
 (unD .not ok0_a fun t3 =>
 (condD t3
 (lock buildD prog 80 [] fun t4 =>
 (lock ifaceD prog 80 t4 fun t5 =>
 (lock panicD s t5 (panV X))))
 (retV (.tuple []) s K)))
theorem S35_eq (env:Env) (ok0_a:AV) (s:AS) (K:AV->AS->Prop) (X:PV->AS->Prop):S35 env ok0_a s K X=bodyD prog env an35 f35 [ok0_a] s K X:=by
  unfold S35
  kernel_rfl
theorem S35_ok:(match f35.body with | some c=>okCode an35 prog f35.ntmps c | none=>false)=true:=by kernel_rfl
def an130:An:={ mu:=[],cut:=[(16,[1,17,18]),(25,[1,17,32]),(35,[17,38]),(38,[17,44])],loop:=[],any:=[2] }
def J130_38 (env:Env)  (t17_j38 t44_j38:AV) (s:AS) (K:AV->AS->Prop) (X:PV->AS->Prop):Prop :=
 (condD t44_j38
 (retV ((.pv (.int .i64 9))) s K)
 (lock binD prog .eql 9 t17_j38 (.pv (.str [42])) fun t48 =>
 (condD t48
 (condD t48
 (retV ((.pv (.int .i64 10))) s K)
 (retV ((.pv (.int .i64 0))) s K))
 (lock binD prog .eql 9 t17_j38 (.pv (.str [47])) fun t49 =>
 (condD t49
 (condD t49
 (retV ((.pv (.int .i64 10))) s K)
 (retV ((.pv (.int .i64 0))) s K))
 (lock binD prog .eql 9 t17_j38 (.pv (.str [37])) fun t50 =>
 (condD t50
 (retV ((.pv (.int .i64 10))) s K)
 (retV ((.pv (.int .i64 0))) s K))))))))
def J130_35 (env:Env)  (t17_j35 t38_j35:AV) (s:AS) (K:AV->AS->Prop) (X:PV->AS->Prop):Prop :=
 (condD t38_j35
 (retV ((.pv (.int .i64 7))) s K)
 (lock binD prog .eql 9 t17_j35 (.pv (.str [43])) fun t45 =>
 (condD t45
 (J130_38 env  (t17_j35) (t45) s K X)
 (lock binD prog .eql 9 t17_j35 (.pv (.str [45])) fun t46 =>
 (J130_38 env  (t17_j35) (t46) s K X)))))
def J130_25 (env:Env)  (printing1_j25 t17_j25 t32_j25:AV) (s:AS) (K:AV->AS->Prop) (X:PV->AS->Prop):Prop :=
 (condD t32_j25
 (retV ((.pv (.int .i64 6))) s K)
 (lock binD prog .eql 9 t17_j25 (.pv (.str [62])) fun t36 =>
 (condD t36
 (condD printing1_j25
 (retV ((.pv (.int .i64 0))) s K)
 (retV ((.pv (.int .i64 7))) s K))
 (lock binD prog .eql 9 t17_j25 (.pv (.str [60])) fun t39 =>
 (condD t39
 (J130_35 env  (t17_j25) (t39) s K X)
 (lock binD prog .eql 9 t17_j25 (.pv (.str [60,61])) fun t40 =>
 (condD t40
 (J130_35 env  (t17_j25) (t40) s K X)
 (lock binD prog .eql 9 t17_j25 (.pv (.str [61,61])) fun t41 =>
 (condD t41
 (J130_35 env  (t17_j25) (t41) s K X)
 (lock binD prog .eql 9 t17_j25 (.pv (.str [33,61])) fun t42 =>
 (condD t42
 (J130_35 env  (t17_j25) (t42) s K X)
 (lock binD prog .eql 9 t17_j25 (.pv (.str [62,61])) fun t43 =>
 (J130_35 env  (t17_j25) (t43) s K X)))))))))))))
def J130_16 (env:Env)  (printing1_j16 t17_j16 t18_j16:AV) (s:AS) (K:AV->AS->Prop) (X:PV->AS->Prop):Prop :=
 (condD t18_j16
 (retV ((.pv (.int .i64 1))) s K)
 (lock binD prog .eql 9 t17_j16 (.pv (.str [63])) fun t27 =>
 (condD t27
 (retV ((.pv (.int .i64 2))) s K)
 (lock binD prog .eql 9 t17_j16 (.pv (.str [124,124])) fun t29 =>
 (condD t29
 (retV ((.pv (.int .i64 3))) s K)
 (lock binD prog .eql 9 t17_j16 (.pv (.str [38,38])) fun t31 =>
 (condD t31
 (retV ((.pv (.int .i64 4))) s K)
 (lock binD prog .eql 9 t17_j16 (.pv (.str [126])) fun t33 =>
 (condD t33
 (J130_25 env  (printing1_j16) (t17_j16) (t33) s K X)
 (lock binD prog .eql 9 t17_j16 (.pv (.str [33,126])) fun t34 =>
 (J130_25 env  (printing1_j16) (t17_j16) (t34) s K X)))))))))))
def S130 (env:Env) (p0_a printing1_a:AV) (s:AS) (K:AV->AS->Prop) (X:PV->AS->Prop):Prop :=
 (env 74 [p0_a,(.pv (.int .i64 0))] s (fun t7 s1 =>
 (lock allocD prog s1 53 fun t5 s2 =>
 (lock storeD prog s2 53 t5 t7 fun s3 =>
 ((lock loadD prog s3 53 t5 fun t8 =>
 ((env 81 [(.pv (.str [105,110]))] s3 (fun t9 s6 =>
 ((lock binD prog .eql 53 t8 t9 fun t10 =>
 (condD t10
 (retV ((.pv (.int .i64 5))) s6 K)
 (env 164 [p0_a] s6 (fun t12 s7 =>
 (condD t12
 (retV ((.pv (.int .i64 8))) s7 K)
 (lock fieldAddrD prog 53 t5 0 fun t13 =>
 (lock loadD prog s7 9 t13 fun t14 =>
 (lock binD prog .neq 9 t14 (.pv (.str [111,112])) fun t15 =>
 (condD t15
 (retV ((.pv (.int .i64 0))) s7 K)
 (lock fieldAddrD prog 53 t5 1 fun t16 =>
 (lock loadD prog s7 9 t16 fun t17 =>
 (lock binD prog .eql 9 t17 (.pv (.str [61])) fun t19 =>
 (condD t19
 (J130_16 env  (printing1_a) (t17) (t19) s7 K X)
 (lock binD prog .eql 9 t17 (.pv (.str [43,61])) fun t20 =>
 (condD t20
 (J130_16 env  (printing1_a) (t17) (t20) s7 K X)
 (lock binD prog .eql 9 t17 (.pv (.str [45,61])) fun t21 =>
 (condD t21
 (J130_16 env  (printing1_a) (t17) (t21) s7 K X)
 (lock binD prog .eql 9 t17 (.pv (.str [42,61])) fun t22 =>
 (condD t22
 (J130_16 env  (printing1_a) (t17) (t22) s7 K X)
 (lock binD prog .eql 9 t17 (.pv (.str [47,61])) fun t23 =>
 (condD t23
 (J130_16 env  (printing1_a) (t17) (t23) s7 K X)
 (lock binD prog .eql 9 t17 (.pv (.str [37,61])) fun t24 =>
 (condD t24
 (J130_16 env  (printing1_a) (t17) (t24) s7 K X)
 (lock binD prog .eql 9 t17 (.pv (.str [94,61])) fun t25 =>
 (J130_16 env  (printing1_a) (t17) (t25) s7 K X)))))))))))))))))))))) (panV X))))/\True)) (panV X))/\True))/\((env 81 [(.pv (.str [105,110]))] s3 (fun t9 s4 =>
 ((lock loadD prog s4 53 t5 fun t8 =>
 ((lock binD prog .eql 53 t8 t9 fun t10 =>
 (condD t10
 (retV ((.pv (.int .i64 5))) s4 K)
 (env 164 [p0_a] s4 (fun t12 s5 =>
 (condD t12
 (retV ((.pv (.int .i64 8))) s5 K)
 (lock fieldAddrD prog 53 t5 0 fun t13 =>
 (lock loadD prog s5 9 t13 fun t14 =>
 (lock binD prog .neq 9 t14 (.pv (.str [111,112])) fun t15 =>
 (condD t15
 (retV ((.pv (.int .i64 0))) s5 K)
 (lock fieldAddrD prog 53 t5 1 fun t16 =>
 (lock loadD prog s5 9 t16 fun t17 =>
 (lock binD prog .eql 9 t17 (.pv (.str [61])) fun t19 =>
 (condD t19
 (J130_16 env  (printing1_a) (t17) (t19) s5 K X)
 (lock binD prog .eql 9 t17 (.pv (.str [43,61])) fun t20 =>
 (condD t20
 (J130_16 env  (printing1_a) (t17) (t20) s5 K X)
 (lock binD prog .eql 9 t17 (.pv (.str [45,61])) fun t21 =>
 (condD t21
 (J130_16 env  (printing1_a) (t17) (t21) s5 K X)
 (lock binD prog .eql 9 t17 (.pv (.str [42,61])) fun t22 =>
 (condD t22
 (J130_16 env  (printing1_a) (t17) (t22) s5 K X)
 (lock binD prog .eql 9 t17 (.pv (.str [47,61])) fun t23 =>
 (condD t23
 (J130_16 env  (printing1_a) (t17) (t23) s5 K X)
 (lock binD prog .eql 9 t17 (.pv (.str [37,61])) fun t24 =>
 (condD t24
 (J130_16 env  (printing1_a) (t17) (t24) s5 K X)
 (lock binD prog .eql 9 t17 (.pv (.str [94,61])) fun t25 =>
 (J130_16 env  (printing1_a) (t17) (t25) s5 K X)))))))))))))))))))))) (panV X))))/\True))/\True)) (panV X))/\True))))) (panV X))
theorem S130_eq (env:Env) (p0_a printing1_a:AV) (s:AS) (K:AV->AS->Prop) (X:PV->AS->Prop):S130 env p0_a printing1_a s K X=bodyD prog env an130 f130 [p0_a,printing1_a] s K X:=by
  unfold S130
  kernel_rfl
theorem S130_ok:(match f130.body with | some c=>okCode an130 prog f130.ntmps c | none=>false)=true:=by kernel_rfl
def an164:An:={ mu:=[],cut:=[(10,[3])],loop:=[] }
def J164_10 (env:Env)  (t3_j10:AV) (s:AS) (K:AV->AS->Prop) (X:PV->AS->Prop):Prop :=
 (lock fieldAddrD prog 53 t3_j10 0 fun t15 =>
 (lock loadD prog s 9 t15 fun t16 =>
 (lock binD prog .eql 9 t16 (.pv (.str [111,112])) fun t17 =>
 (guardD t17 true
 (lock fieldAddrD prog 53 t3_j10 1 fun t19 =>
 (lock loadD prog s 9 t19 fun t20 =>
 (lock binD prog .eql 9 t20 (.pv (.str [36])) fun t21 =>
 (guardD t21 false
 (lock fieldAddrD prog 53 t3_j10 1 fun t23 =>
 (lock loadD prog s 9 t23 fun t24 =>
 (lock binD prog .eql 9 t24 (.pv (.str [40])) fun t25 =>
 (guardD t25 false
 (lock fieldAddrD prog 53 t3_j10 1 fun t28 =>
 (lock loadD prog s 9 t28 fun t29 =>
 (lock binD prog .eql 9 t29 (.pv (.str [43,43])) fun t30 =>
 (guardD t30 false
 (lock fieldAddrD prog 53 t3_j10 1 fun t33 =>
 (lock loadD prog s 9 t33 fun t34 =>
 (lock binD prog .eql 9 t34 (.pv (.str [45,45])) fun t35 =>
 (retV (t35) s K))))
 (retV ((.pv (.bool true))) s K)))))
 (retV ((.pv (.bool true))) s K)))))
 (retV ((.pv (.bool true))) s K)))))
 (retV ((.pv (.bool false))) s K)))))
def S164 (env:Env) (p0_a:AV) (s:AS) (K:AV->AS->Prop) (X:PV->AS->Prop):Prop :=
 (env 74 [p0_a,(.pv (.int .i64 0))] s (fun t5 s1 =>
 (lock allocD prog s1 53 fun t3 s2 =>
 (lock storeD prog s2 53 t3 t5 fun s3 =>
 (lock fieldAddrD prog 53 t3 0 fun t6 =>
 (lock loadD prog s3 9 t6 fun t7 =>
 (lock binD prog .eql 9 t7 (.pv (.str [110,117,109])) fun t9 =>
 (condD t9
 (condD t9
 (retV ((.pv (.bool true))) s3 K)
 (J164_10 env  (t3) s3 K X))
 (lock binD prog .eql 9 t7 (.pv (.str [115,116,114])) fun t10 =>
 (condD t10
 (condD t10
 (retV ((.pv (.bool true))) s3 K)
 (J164_10 env  (t3) s3 K X))
 (lock binD prog .eql 9 t7 (.pv (.str [101,114,101])) fun t11 =>
 (condD t11
 (condD t11
 (retV ((.pv (.bool true))) s3 K)
 (J164_10 env  (t3) s3 K X))
 (lock binD prog .eql 9 t7 (.pv (.str [110,97,109,101])) fun t12 =>
 (condD t12
 (condD t12
 (retV ((.pv (.bool true))) s3 K)
 (J164_10 env  (t3) s3 K X))
 (lock binD prog .eql 9 t7 (.pv (.str [102,117,110,99])) fun t13 =>
 (condD t13
 (condD t13
 (retV ((.pv (.bool true))) s3 K)
 (J164_10 env  (t3) s3 K X))
 (lock binD prog .eql 9 t7 (.pv (.str [98,117,105,108,116])) fun t14 =>
 (condD t14
 (retV ((.pv (.bool true))) s3 K)
 (J164_10 env  (t3) s3 K X)))))))))))))))))) (panV X))
theorem S164_eq (env:Env) (p0_a:AV) (s:AS) (K:AV->AS->Prop) (X:PV->AS->Prop):S164 env p0_a s K X=bodyD prog env an164 f164 [p0_a] s K X:=by
  unfold S164
  kernel_rfl
theorem S164_ok:(match f164.body with | some c=>okCode an164 prog f164.ntmps c | none=>false)=true:=by kernel_rfl
def an196:An:={ mu:=[],cut:=[],loop:=[(2,[0,6,7,8])] }
def L196_2 (env:Env) (I2:Nat->List AV->AS->Prop) (m2:Nat) (p0_l2 t6_l2 t7_l2 t8_l2:AV) (s:AS) (K:AV->AS->Prop) (X:PV->AS->Prop):Prop :=
 (lock binD prog .lss 3 t8_l2 t7_l2 fun t9 =>
 (condD t9
 (lock indexAddrD prog 26 t6_l2 t8_l2 fun t10 =>
 (lock loadD prog s 9 t10 fun t11 =>
 (env 75 [t11] s (fun t14 s3 =>
 (env 80 [p0_l2,t14] s3 (fun t15 s4 =>
 (condD t15
 (retV (.tuple [t11,(.pv (.bool true))]) s4 K)
 (lock binD prog .add 3 t8_l2 (.pv (.int .i64 1)) fun t17 =>
 (∃ m',m' < m2/\I2 m' [p0_l2,t6_l2,t7_l2,t17] s4)))) (panV X))) (panV X))))
 (retV (.tuple [(.pv (.str [])),(.pv (.bool false))]) s K)))
theorem L196_2_eq (env:Env) (I2:Nat->List AV->AS->Prop) (m2:Nat) (p0_l2 t6_l2 t7_l2 t8_l2:AV) (s:AS) (K:AV->AS->Prop) (X:PV->AS->Prop):L196_2 env I2 m2 p0_l2 t6_l2 t7_l2 t8_l2 s K X=wpD prog env an196 (subC (bodyC f196) [1,0,1,0,0]) (contQ prog env an196 (bodyC f196) [1,0,1,0,0] [(I2,m2)] (rootQ prog f196 K X)) [(0,p0_l2),(6,t6_l2),(7,t7_l2),(8,t8_l2)] s:=by
  unfold L196_2
  kernel_rfl
theorem lp196_2 {α:Type} {env:Env}  {p0_l2 t6_l2 t7_l2:AV} {s:AS} {K:AV->AS->Prop} {X:PV->AS->Prop} (μ:α->AS->Nat) (I:α->AS->Prop) (et8_l2:α->AV) (a0:α) (h0:I a0 s)
 (h:∀ a s,I a s->L196_2 env  (Inv (fun a=>[p0_l2,t6_l2,t7_l2,et8_l2 a]) μ I) (μ a s) p0_l2 t6_l2 t7_l2 (et8_l2 a) s K X) :
 ∃ I2:Nat->List AV->AS->Prop,(∃ m,I2 m [p0_l2,t6_l2,t7_l2,et8_l2 a0] s)/\∀ (m:Nat) (x0 x1 x2 x3:AV),∀ s,I2 m [x0,x1,x2,x3] s ->
 L196_2 env  I2 m x0 x1 x2 x3 s K X:=by
  refine ⟨Inv (fun a=>[p0_l2,t6_l2,t7_l2,et8_l2 a]) μ I,⟨_,a0,rfl,rfl,h0⟩,?_⟩
  rintro m x0 x1 x2 x3 s' ⟨a,hv,rfl,hI⟩
  simp only [List.cons.injEq,and_true] at hv
  obtain ⟨rfl,rfl,rfl,rfl⟩:=hv
  exact h a s' hI
def S196 (env:Env) (p0_a:AV) (s:AS) (K:AV->AS->Prop) (X:PV->AS->Prop):Prop :=
 (lock buildSliceD prog false s 26 2 2 [(0,(.pv (.str [43,43]))),(1,(.pv (.str [45,45])))] fun t6 s1 =>
 (lock lenD prog 26 t6 fun t7 =>
 (∃ I2:Nat->List AV->AS->Prop,(∃ m,I2 m [p0_a,t6,t7,(.pv (.int .i64 0))] s1)/\∀ (m2:Nat) (p0_l2 t6_l2 t7_l2 t8_l2:AV),∀ s2,I2 m2 [p0_l2,t6_l2,t7_l2,t8_l2] s2 ->
 (L196_2 env I2 m2 p0_l2 t6_l2 t7_l2 t8_l2 s2 K X))))
theorem S196_eq (env:Env) (p0_a:AV) (s:AS) (K:AV->AS->Prop) (X:PV->AS->Prop):S196 env p0_a s K X=bodyD prog env an196 f196 [p0_a] s K X:=by
  unfold S196
  simp only [L196_2_eq]
  kernel_rfl
theorem S196_ok:(match f196.body with | some c=>okCode an196 prog f196.ntmps c | none=>false)=true:=by kernel_rfl
def an182:An:={ mu:=[],cut:=[],loop:=[],any:=[2] }
def S182 (env:Env) (p0_a:AV) (s:AS) (K:AV->AS->Prop) (X:PV->AS->Prop):Prop :=
 (env 74 [p0_a,(.pv (.int .i64 0))] s (fun t5 s1 =>
 (lock allocD prog s1 53 fun t3 s2 =>
 (lock storeD prog s2 53 t3 t5 fun s3 =>
 ((env 164 [p0_a] s3 (fun t7 s4 =>
 ((guardD t7 false
 (lock loadD prog s4 53 t3 fun t9 =>
 ((env 75 [(.pv (.str [33]))] s4 (fun t10 s12 =>
 ((lock binD prog .eql 53 t9 t10 fun t11 =>
 ((guardD t11 false
 (lock loadD prog s12 53 t3 fun t14 =>
 ((env 75 [(.pv (.str [43]))] s12 (fun t15 s16 =>
 ((lock binD prog .eql 53 t14 t15 fun t16 =>
 ((guardD t16 false
 (lock loadD prog s16 53 t3 fun t19 =>
 ((env 75 [(.pv (.str [45]))] s16 (fun t20 s18 =>
 ((lock binD prog .eql 53 t19 t20 fun t21 =>
 (retV (t21) s18 K))/\True)) (panV X))/\True))
 (((retV ((.pv (.bool true))) s16 K)/\True)/\True))/\((guardD t16 false
 (env 75 [(.pv (.str [45]))] s16 (fun t20 s17 =>
 ((lock loadD prog s17 53 t3 fun t19 =>
 ((lock binD prog .eql 53 t19 t20 fun t21 =>
 (retV (t21) s17 K))/\True))/\True)) (panV X))
 (((retV ((.pv (.bool true))) s16 K)/\True)/\True))/\True)))/\True)) (panV X))/\True))
 ((((((retV ((.pv (.bool true))) s12 K)/\True)/\True)/\((((retV ((.pv (.bool true))) s12 K)/\True)/\True)/\True))/\True)/\True))/\((guardD t11 false
 (env 75 [(.pv (.str [43]))] s12 (fun t15 s13 =>
 ((lock loadD prog s13 53 t3 fun t14 =>
 ((lock binD prog .eql 53 t14 t15 fun t16 =>
 ((guardD t16 false
 (lock loadD prog s13 53 t3 fun t19 =>
 ((env 75 [(.pv (.str [45]))] s13 (fun t20 s15 =>
 ((lock binD prog .eql 53 t19 t20 fun t21 =>
 (retV (t21) s15 K))/\True)) (panV X))/\True))
 (((retV ((.pv (.bool true))) s13 K)/\True)/\True))/\((guardD t16 false
 (env 75 [(.pv (.str [45]))] s13 (fun t20 s14 =>
 ((lock loadD prog s14 53 t3 fun t19 =>
 ((lock binD prog .eql 53 t19 t20 fun t21 =>
 (retV (t21) s14 K))/\True))/\True)) (panV X))
 (((retV ((.pv (.bool true))) s13 K)/\True)/\True))/\True)))/\True))/\True)) (panV X))
 ((((((retV ((.pv (.bool true))) s12 K)/\True)/\True)/\((((retV ((.pv (.bool true))) s12 K)/\True)/\True)/\True))/\True)/\True))/\True)))/\True)) (panV X))/\True))
 (((((((((retV ((.pv (.bool true))) s4 K)/\True)/\True)/\((((retV ((.pv (.bool true))) s4 K)/\True)/\True)/\True))/\True)/\True)/\(((((((retV ((.pv (.bool true))) s4 K)/\True)/\True)/\((((retV ((.pv (.bool true))) s4 K)/\True)/\True)/\True))/\True)/\True)/\True))/\True)/\True))/\((guardD t7 false
 (env 75 [(.pv (.str [33]))] s4 (fun t10 s5 =>
 ((lock loadD prog s5 53 t3 fun t9 =>
 ((lock binD prog .eql 53 t9 t10 fun t11 =>
 ((guardD t11 false
 (lock loadD prog s5 53 t3 fun t14 =>
 ((env 75 [(.pv (.str [43]))] s5 (fun t15 s9 =>
 ((lock binD prog .eql 53 t14 t15 fun t16 =>
 ((guardD t16 false
 (lock loadD prog s9 53 t3 fun t19 =>
 ((env 75 [(.pv (.str [45]))] s9 (fun t20 s11 =>
 ((lock binD prog .eql 53 t19 t20 fun t21 =>
 (retV (t21) s11 K))/\True)) (panV X))/\True))
 (((retV ((.pv (.bool true))) s9 K)/\True)/\True))/\((guardD t16 false
 (env 75 [(.pv (.str [45]))] s9 (fun t20 s10 =>
 ((lock loadD prog s10 53 t3 fun t19 =>
 ((lock binD prog .eql 53 t19 t20 fun t21 =>
 (retV (t21) s10 K))/\True))/\True)) (panV X))
 (((retV ((.pv (.bool true))) s9 K)/\True)/\True))/\True)))/\True)) (panV X))/\True))
 ((((((retV ((.pv (.bool true))) s5 K)/\True)/\True)/\((((retV ((.pv (.bool true))) s5 K)/\True)/\True)/\True))/\True)/\True))/\((guardD t11 false
 (env 75 [(.pv (.str [43]))] s5 (fun t15 s6 =>
 ((lock loadD prog s6 53 t3 fun t14 =>
 ((lock binD prog .eql 53 t14 t15 fun t16 =>
 ((guardD t16 false
 (lock loadD prog s6 53 t3 fun t19 =>
 ((env 75 [(.pv (.str [45]))] s6 (fun t20 s8 =>
 ((lock binD prog .eql 53 t19 t20 fun t21 =>
 (retV (t21) s8 K))/\True)) (panV X))/\True))
 (((retV ((.pv (.bool true))) s6 K)/\True)/\True))/\((guardD t16 false
 (env 75 [(.pv (.str [45]))] s6 (fun t20 s7 =>
 ((lock loadD prog s7 53 t3 fun t19 =>
 ((lock binD prog .eql 53 t19 t20 fun t21 =>
 (retV (t21) s7 K))/\True))/\True)) (panV X))
 (((retV ((.pv (.bool true))) s6 K)/\True)/\True))/\True)))/\True))/\True)) (panV X))
 ((((((retV ((.pv (.bool true))) s5 K)/\True)/\True)/\((((retV ((.pv (.bool true))) s5 K)/\True)/\True)/\True))/\True)/\True))/\True)))/\True))/\True)) (panV X))
 (((((((((retV ((.pv (.bool true))) s4 K)/\True)/\True)/\((((retV ((.pv (.bool true))) s4 K)/\True)/\True)/\True))/\True)/\True)/\(((((((retV ((.pv (.bool true))) s4 K)/\True)/\True)/\((((retV ((.pv (.bool true))) s4 K)/\True)/\True)/\True))/\True)/\True)/\True))/\True)/\True))/\True))) (panV X))/\True)))) (panV X))
theorem S182_eq (env:Env) (p0_a:AV) (s:AS) (K:AV->AS->Prop) (X:PV->AS->Prop):S182 env p0_a s K X=bodyD prog env an182 f182 [p0_a] s K X:=by
  unfold S182
  kernel_rfl
theorem S182_ok:(match f182.body with | some c=>okCode an182 prog f182.ntmps c | none=>false)=true:=by kernel_rfl
def an132:An:={ mu:=[],cut:=[(8,[4,7]),(11,[4,12])],loop:=[] }
def J132_11 (env:Env)  (t4_j11 t12_j11:AV) (s:AS) (K:AV->AS->Prop) (X:PV->AS->Prop):Prop :=
 (condD t12_j11
 (retV (.tuple [(.pv (.int .i64 2)),(.pv (.int .i64 2))]) s K)
 (lock binD prog .eql 9 t4_j11 (.pv (.str [115,112,114,105,110,116,102])) fun t16 =>
 (condD t16
 (retV (.tuple [(.pv (.int .i64 1)),(.pv (.int .i64 20000))]) s K)
 (retV (.tuple [(.pv (.int .i64 1)),(.pv (.int .i64 1))]) s K))))
def J132_8 (env:Env)  (t4_j8 t7_j8:AV) (s:AS) (K:AV->AS->Prop) (X:PV->AS->Prop):Prop :=
 (condD t7_j8
 (retV (.tuple [(.pv (.int .i64 2)),(.pv (.int .i64 3))]) s K)
 (lock binD prog .eql 9 t4_j8 (.pv (.str [105,110,100,101,120])) fun t13 =>
 (condD t13
 (J132_11 env  (t4_j8) (t13) s K X)
 (lock binD prog .eql 9 t4_j8 (.pv (.str [109,97,116,99,104])) fun t14 =>
 (J132_11 env  (t4_j8) (t14) s K X)))))
def S132 (env:Env) (name0_a:AV) (s:AS) (K:AV->AS->Prop) (X:PV->AS->Prop):Prop :=
 (lock binD prog .eql 9 name0_a (.pv (.str [108,101,110,103,116,104])) fun t6 =>
 (condD t6
 (retV (.tuple [(.pv (.int .i64 0)),(.pv (.int .i64 1))]) s K)
 (lock binD prog .eql 9 name0_a (.pv (.str [115,117,98,115,116,114])) fun t8 =>
 (condD t8
 (J132_8 env  (name0_a) (t8) s K X)
 (lock binD prog .eql 9 name0_a (.pv (.str [115,112,108,105,116])) fun t9 =>
 (condD t9
 (J132_8 env  (name0_a) (t9) s K X)
 (lock binD prog .eql 9 name0_a (.pv (.str [115,117,98])) fun t10 =>
 (condD t10
 (J132_8 env  (name0_a) (t10) s K X)
 (lock binD prog .eql 9 name0_a (.pv (.str [103,115,117,98])) fun t11 =>
 (J132_8 env  (name0_a) (t11) s K X))))))))))
theorem S132_eq (env:Env) (name0_a:AV) (s:AS) (K:AV->AS->Prop) (X:PV->AS->Prop):S132 env name0_a s K X=bodyD prog env an132 f132 [name0_a] s K X:=by
  unfold S132
  kernel_rfl
theorem S132_ok:(match f132.body with | some c=>okCode an132 prog f132.ntmps c | none=>false)=true:=by kernel_rfl
def an86:An:={ mu:=[],cut:=[(5,[1,5])],loop:=[] }
def J86_5 (env:Env)  (n1_j5 k5_j5:AV) (s:AS) (K:AV->AS->Prop) (X:PV->AS->Prop):Prop :=
 (lock fieldAddrD prog 50 n1_j5 1 fun t23 =>
 (lock loadD prog s 9 t23 fun t24 =>
 (lock binD prog .eql 9 t24 (.pv (.str [115,112,108,105,116])) fun t25 =>
 (condD t25
 (lock fieldAddrD prog 50 n1_j5 2 fun t26 =>
 (lock loadD prog s 23 t26 fun t27 =>
 (lock indexAddrD prog 23 t27 (.pv (.int .i64 1)) fun t28 =>
 (lock fieldAddrD prog 50 t28 0 fun t29 =>
 (lock loadD prog s 9 t29 fun t30 =>
 (lock binD prog .eql 9 t30 (.pv (.str [118,97,114])) fun t31 =>
 (retV (t31) s K)))))))
 (lock binD prog .lss 3 k5_j5 (.pv (.int .i64 3)) fun t33 =>
 (guardD t33 false
 (lock fieldAddrD prog 50 n1_j5 1 fun t35 =>
 (lock loadD prog s 9 t35 fun t36 =>
 (env 133 [t36,(.pv (.str [115,117,98]))] s (fun t37 s3 =>
 (unD .not t37 fun t38 =>
 (guardD t38 false
 (lock fieldAddrD prog 50 n1_j5 2 fun t41 =>
 (lock loadD prog s3 23 t41 fun t42 =>
 (lock indexAddrD prog 23 t42 (.pv (.int .i64 2)) fun t43 =>
 (lock loadD prog s3 50 t43 fun t44 =>
 (env 131 [t44] s3 (fun t45 s4 =>
 (retV (t45) s4 K)) (panV X))))))
 (retV ((.pv (.bool true))) s3 K)))) (panV X))))
 (retV ((.pv (.bool true))) s K)))))))
def S86 (env:Env) (n0_a:AV) (s:AS) (K:AV->AS->Prop) (X:PV->AS->Prop):Prop :=
 (lock boxD s n0_a fun t1 s1 =>
 (lock fieldAddrD prog 50 t1 1 fun t7 =>
 (lock loadD prog s1 9 t7 fun t8 =>
 (env 132 [t8] s1 (fun t9 s2 =>
 (lock extractD t9 0 fun t10 =>
 (lock extractD t9 1 fun t11 =>
 (lock fieldAddrD prog 50 t1 2 fun t12 =>
 (lock loadD prog s2 23 t12 fun t13 =>
 (lock lenD prog 23 t13 fun t14 =>
 (lock binD prog .lss 3 t14 t10 fun t17 =>
 (guardD t17 false
 (lock binD prog .gtr 3 t14 t11 fun t21 =>
 (condD t21
 (retV ((.pv (.bool false))) s2 K)
 (J86_5 env  (t1) (t14) s2 K X)))
 (retV ((.pv (.bool false))) s2 K))))))))) (panV X)))))
theorem S86_eq (env:Env) (n0_a:AV) (s:AS) (K:AV->AS->Prop) (X:PV->AS->Prop):S86 env n0_a s K X=bodyD prog env an86 f86 [n0_a] s K X:=by
  unfold S86
  kernel_rfl
theorem S86_ok:(match f86.body with | some c=>okCode an86 prog f86.ntmps c | none=>false)=true:=by kernel_rfl
def an87:An:={ mu:=[],cut:=[(4,[4,5])],loop:=[] }
def J87_4 (env:Env)  (t4_j4 t5_j4:AV) (s:AS) (K:AV->AS->Prop) (X:PV->AS->Prop):Prop :=
 (condD t5_j4
 (retV ((.pv (.int .i64 1))) s K)
 (lock binD prog .eql 9 t4_j4 (.pv (.str [100,111])) fun t9 =>
 (condD t9
 (retV ((.pv (.int .i64 0))) s K)
 (lock binD prog .eql 9 t4_j4 (.pv (.str [102,111,114])) fun t11 =>
 (condD t11
 (retV ((.pv (.int .i64 3))) s K)
 (retV ((.pv (.int .i64 (-1)))) s K))))))
def S87 (env:Env) (n0_a:AV) (s:AS) (K:AV->AS->Prop) (X:PV->AS->Prop):Prop :=
 (lock boxD s n0_a fun t1 s1 =>
 (lock fieldAddrD prog 50 t1 0 fun t3 =>
 (lock loadD prog s1 9 t3 fun t4 =>
 (lock binD prog .eql 9 t4 (.pv (.str [119,104,105,108,101])) fun t6 =>
 (condD t6
 (J87_4 env  (t4) (t6) s1 K X)
 (lock binD prog .eql 9 t4 (.pv (.str [102,111,114,105,110])) fun t7 =>
 (J87_4 env  (t4) (t7) s1 K X)))))))
theorem S87_eq (env:Env) (n0_a:AV) (s:AS) (K:AV->AS->Prop) (X:PV->AS->Prop):S87 env n0_a s K X=bodyD prog env an87 f87 [n0_a] s K X:=by
  unfold S87
  kernel_rfl
theorem S87_ok:(match f87.body with | some c=>okCode an87 prog f87.ntmps c | none=>false)=true:=by kernel_rfl
def an38:An:={ mu:=[],cut:=[(4,[1,3,5,10]),(5,[1,3,5,10]),(6,[1,3,5,10]),(8,[1,3,5]),(13,[1,3,5,8,9,54,55,56])],loop:=[(9,[1,3,5,54,55,56])] }
def J38_13 (env:Env) (I9:Nat->List AV->AS->Prop) (m9:Nat) (deep1_j13 n3_j13 w5_j13 k8_j13 in9_j13 t54_j13 t55_j13 t56_j13:AV) (s:AS) (K:AV->AS->Prop) (X:PV->AS->Prop):Prop :=
 (lock loadD prog s 50 k8_j13 fun t71 =>
 (lock binD prog .add 3 deep1_j13 (.pv (.int .i64 1)) fun t73 =>
 (lock loadD prog s 89 in9_j13 fun t74 =>
 (env 38 [t71,t73,t74] s (fun t75 s10 =>
 (unD .not t75 fun t76 =>
 (condD t76
 (retV ((.pv (.bool false))) s10 K)
 (lock binD prog .add 3 t56_j13 (.pv (.int .i64 1)) fun t77 =>
 (∃ m',m' < m9/\I9 m' [deep1_j13,n3_j13,w5_j13,t54_j13,t55_j13,t77] s10))))) (panV X)))))
def L38_9 (env:Env) (I9:Nat->List AV->AS->Prop) (m9:Nat) (deep1_l9 n3_l9 w5_l9 t54_l9 t55_l9 t56_l9:AV) (s:AS) (K:AV->AS->Prop) (X:PV->AS->Prop):Prop :=
 (lock binD prog .lss 3 t56_l9 t55_l9 fun t57 =>
 (condD t57
 (lock indexAddrD prog 23 t54_l9 t56_l9 fun t59 =>
 (lock loadD prog s 50 t59 fun t60 =>
 (lock allocD prog s 50 fun t8 s4 =>
 (lock storeD prog s4 50 t8 t60 fun s5 =>
 (lock loadD prog s5 89 w5_l9 fun t61 =>
 (lock allocD prog s5 89 fun t9 s6 =>
 (lock storeD prog s6 89 t9 t61 fun s7 =>
 (lock fieldAddrD prog 89 w5_l9 2 fun t62 =>
 (lock loadD prog s7 4 t62 fun t63 =>
 (guardD t63 false
 (lock loadD prog s7 50 n3_l9 fun t66 =>
 (env 87 [t66] s7 (fun t67 s8 =>
 (lock binD prog .eql 3 t56_l9 t67 fun t68 =>
 (lock fieldAddrD prog 89 t9 2 fun t70 =>
 (lock storeD prog s8 4 t70 t68 fun s9 =>
 (J38_13 env I9 m9 (deep1_l9) (n3_l9) (w5_l9) (t8) (t9) (t54_l9) (t55_l9) (t56_l9) s9 K X))))) (panV X)))
 (lock fieldAddrD prog 89 t9 2 fun t70 =>
 (lock storeD prog s7 4 t70 (.pv (.bool true)) fun s11 =>
 (J38_13 env I9 m9 (deep1_l9) (n3_l9) (w5_l9) (t8) (t9) (t54_l9) (t55_l9) (t56_l9) s11 K X)))))))))))))
 (retV ((.pv (.bool true))) s K)))
theorem lp38_9 {α:Type} {env:Env}  {deep1_l9 n3_l9 w5_l9 t54_l9 t55_l9:AV} {s:AS} {K:AV->AS->Prop} {X:PV->AS->Prop} (μ:α->AS->Nat) (I:α->AS->Prop) (et56_l9:α->AV) (a0:α) (h0:I a0 s)
 (h:∀ a s,I a s->L38_9 env  (Inv (fun a=>[deep1_l9,n3_l9,w5_l9,t54_l9,t55_l9,et56_l9 a]) μ I) (μ a s) deep1_l9 n3_l9 w5_l9 t54_l9 t55_l9 (et56_l9 a) s K X) :
 ∃ I9:Nat->List AV->AS->Prop,(∃ m,I9 m [deep1_l9,n3_l9,w5_l9,t54_l9,t55_l9,et56_l9 a0] s)/\∀ (m:Nat) (x0 x1 x2 x3 x4 x5:AV),∀ s,I9 m [x0,x1,x2,x3,x4,x5] s ->
 L38_9 env  I9 m x0 x1 x2 x3 x4 x5 s K X:=by
  refine ⟨Inv (fun a=>[deep1_l9,n3_l9,w5_l9,t54_l9,t55_l9,et56_l9 a]) μ I,⟨_,a0,rfl,rfl,h0⟩,?_⟩
  rintro m x0 x1 x2 x3 x4 x5 s' ⟨a,hv,rfl,hI⟩
  simp only [List.cons.injEq,and_true] at hv
  obtain ⟨rfl,rfl,rfl,rfl,rfl,rfl⟩:=hv
  exact h a s' hI
def J38_8 (env:Env)  (deep1_j8 n3_j8 w5_j8:AV) (s:AS) (K:AV->AS->Prop) (X:PV->AS->Prop):Prop :=
 (lock fieldAddrD prog 50 n3_j8 2 fun t53 =>
 (lock loadD prog s 23 t53 fun t54 =>
 (lock lenD prog 23 t54 fun t55 =>
 (∃ I9:Nat->List AV->AS->Prop,(∃ m,I9 m [deep1_j8,n3_j8,w5_j8,t54,t55,(.pv (.int .i64 0))] s)/\∀ (m9:Nat) (deep1_l9 n3_l9 w5_l9 t54_l9 t55_l9 t56_l9:AV),∀ s3,I9 m9 [deep1_l9,n3_l9,w5_l9,t54_l9,t55_l9,t56_l9] s3 ->
 (L38_9 env I9 m9 deep1_l9 n3_l9 w5_l9 t54_l9 t55_l9 t56_l9 s3 K X)))))
def J38_6 (env:Env)  (deep1_j6 n3_j6 w5_j6 t10_j6:AV) (s:AS) (K:AV->AS->Prop) (X:PV->AS->Prop):Prop :=
 (condD t10_j6
 (condD t10_j6
 (retV ((.pv (.bool false))) s K)
 (J38_8 env  (deep1_j6) (n3_j6) (w5_j6) s K X))
 (lock fieldAddrD prog 50 n3_j6 0 fun t45 =>
 (lock loadD prog s 9 t45 fun t46 =>
 (lock binD prog .eql 9 t46 (.pv (.str [98,117,105,108,116])) fun t47 =>
 (guardD t47 true
 (lock loadD prog s 50 n3_j6 fun t49 =>
 (env 86 [t49] s (fun t50 s12 =>
 (unD .not t50 fun t51 =>
 (condD t51
 (retV ((.pv (.bool false))) s12 K)
 (J38_8 env  (deep1_j6) (n3_j6) (w5_j6) s12 K X)))) (panV X)))
 (J38_8 env  (deep1_j6) (n3_j6) (w5_j6) s K X))))))
def J38_5 (env:Env)  (deep1_j5 n3_j5 w5_j5 t10_j5:AV) (s:AS) (K:AV->AS->Prop) (X:PV->AS->Prop):Prop :=
 (condD t10_j5
 (condD t10_j5
 (retV ((.pv (.bool false))) s K)
 (J38_8 env  (deep1_j5) (n3_j5) (w5_j5) s K X))
 (lock fieldAddrD prog 50 n3_j5 0 fun t32 =>
 (lock loadD prog s 9 t32 fun t33 =>
 (lock binD prog .eql 9 t33 (.pv (.str [98,114,101,97,107])) fun t34 =>
 (guardD t34 false
 (lock fieldAddrD prog 50 n3_j5 0 fun t36 =>
 (lock loadD prog s 9 t36 fun t37 =>
 (lock binD prog .eql 9 t37 (.pv (.str [99,111,110,116,105,110,117,101])) fun t38 =>
 (guardD t38 true
 (lock fieldAddrD prog 89 w5_j5 2 fun t41 =>
 (lock loadD prog s 4 t41 fun t42 =>
 (unD .not t42 fun t43 =>
 (J38_6 env  (deep1_j5) (n3_j5) (w5_j5) (t43) s K X))))
 (J38_6 env  (deep1_j5) (n3_j5) (w5_j5) (.pv (.bool false)) s K X)))))
 (lock fieldAddrD prog 89 w5_j5 2 fun t41 =>
 (lock loadD prog s 4 t41 fun t42 =>
 (unD .not t42 fun t43 =>
 (J38_6 env  (deep1_j5) (n3_j5) (w5_j5) (t43) s K X)))))))))
def J38_4 (env:Env)  (deep1_j4 n3_j4 w5_j4 t10_j4:AV) (s:AS) (K:AV->AS->Prop) (X:PV->AS->Prop):Prop :=
 (condD t10_j4
 (condD t10_j4
 (retV ((.pv (.bool false))) s K)
 (J38_8 env  (deep1_j4) (n3_j4) (w5_j4) s K X))
 (lock fieldAddrD prog 50 n3_j4 0 fun t24 =>
 (lock loadD prog s 9 t24 fun t25 =>
 (lock binD prog .eql 9 t25 (.pv (.str [114,101,116,117,114,110])) fun t26 =>
 (guardD t26 true
 (lock fieldAddrD prog 89 w5_j4 1 fun t28 =>
 (lock loadD prog s 4 t28 fun t29 =>
 (unD .not t29 fun t30 =>
 (J38_5 env  (deep1_j4) (n3_j4) (w5_j4) (t30) s K X))))
 (J38_5 env  (deep1_j4) (n3_j4) (w5_j4) (.pv (.bool false)) s K X))))))
def S38 (env:Env) (n0_a deep1_a w2_a:AV) (s:AS) (K:AV->AS->Prop) (X:PV->AS->Prop):Prop :=
 (lock boxD s n0_a fun t3 s1 =>
 (lock boxD s1 w2_a fun t5 s2 =>
 (lock binD prog .gtr 3 deep1_a (.pv (.int .i64 200)) fun t12 =>
 (condD t12
 (condD t12
 (retV ((.pv (.bool false))) s2 K)
 (J38_8 env  (deep1_a) (t3) (t5) s2 K X))
 (lock fieldAddrD prog 50 t3 0 fun t13 =>
 (lock loadD prog s2 9 t13 fun t14 =>
 (lock binD prog .eql 9 t14 (.pv (.str [108,105,115,116])) fun t15 =>
 (condD t15
 (condD t15
 (retV ((.pv (.bool false))) s2 K)
 (J38_8 env  (deep1_a) (t3) (t5) s2 K X))
 (lock fieldAddrD prog 50 t3 0 fun t16 =>
 (lock loadD prog s2 9 t16 fun t17 =>
 (lock binD prog .eql 9 t17 (.pv (.str [110,101,120,116])) fun t18 =>
 (guardD t18 true
 (lock fieldAddrD prog 89 t5 0 fun t20 =>
 (lock loadD prog s2 4 t20 fun t21 =>
 (unD .not t21 fun t22 =>
 (J38_4 env  (deep1_a) (t3) (t5) (t22) s2 K X))))
 (J38_4 env  (deep1_a) (t3) (t5) (.pv (.bool false)) s2 K X)))))))))))))
theorem S38_eq (env:Env) (n0_a deep1_a w2_a:AV) (s:AS) (K:AV->AS->Prop) (X:PV->AS->Prop):S38 env n0_a deep1_a w2_a s K X=bodyD prog env an38 f38 [n0_a,deep1_a,w2_a] s K X:=by
  unfold S38
  kernel_rfl
theorem S38_ok:(match f38.body with | some c=>okCode an38 prog f38.ntmps c | none=>false)=true:=by kernel_rfl
end Go.AD

set_option linter.unusedVariables false
set_option linter.unusedSimpArgs false
set_option maxRecDepth 100000
namespace Go.AD.Lx
open Go.Proofs
section
variable {σ0 σ:AS} {K:AV->AS->Prop}
theorem rowTB:RowT PS 92 5:=⟨T.el92,by rw [T.sz5]; decide,_,T.zo5,by rw [T.sz5]; rfl⟩
def RowF (v:AV) (L:Objs) (l:List UInt8):Prop:=RowV PS 5 v L l.length (pvBytes l) \/ (v=.full l.length (pvBytes l)/\L=[])
theorem RowF.toPV {v:AV} {L:Objs} {l:List UInt8} (h:RowF v L l):AD.toPV v=some (.lst l.length (pvBytes l)):=by
  rcases h with h | ⟨rfl,rfl⟩
  · exact h.toPV
  · rfl
theorem RowF.append {v x:AV} {L Y:Objs} {l r:List UInt8} (G:RowF v L l) (hS:Sep σ0 σ (Y ++ L)) (hx:∀ σ,shown PS σ 5 x=some (r.length,pvBytes r)) (hr:r ≠ []) (hb:l.length + r.length <= 100000000)
    (hK:∀ v' L' σ',RowF v' L' (l ++ r)->Sep σ0 σ' (Y ++ L')->K v' σ'):appendD PS false σ 92 v x K:=by
  have hp:0 < r.length:=List.length_pos_iff.2 hr
  have hlen:(pvBytes (l ++ r)).length=(l ++ r).length * szOf PS 5:=by rw [pvBytes_len,T.sz5,Nat.mul_one]
  rcases G with G | ⟨rfl,rfl⟩
  · refine G.append hS rowTB (hx σ) (by rw [pvBytes_len,T.sz5]; omega) hp (by rw [T.by5]; omega) (by omega) ?_
    intro v' L' σ' h1 h2
    exact hK v' L' σ' (.inl (by rw [List.length_append,pvBytes_app]; exact h1)) h2
  · obtain ⟨h1,h2,z,h3,h4⟩:=rowTB
    have hne:r.length ≠ 0:=by omega
    simp only [appendD,appendCore,h1,h2,h3,h4,hx σ,true_and,hne,if_false]
    refine ⟨by rw [pvBytes_len,T.sz5]; omega,by rw [pvBytes_len,T.sz5]; omega,by rw [T.by5]; omega,by omega,?_⟩
    simp only [newRowD,Bool.false_eq_true,if_false,toPVs_pv]
    intro id hid
    have h5:=hS.alloc hid (.front (l.length + r.length) (szOf PS 5) (some 5))
    refine hK _ [(id,.front (l ++ r).length (szOf PS 5) (some 5))] _ (.inl ⟨hlen,.inr ⟨id,_,?_,rfl⟩⟩) ?_
    · rw [pvBytes_app,List.length_append]
    · rw [List.length_append]
      refine h5.perm ?_
      simpa using List.perm_append_comm (l₁:=[(id,AObj.front (l.length + r.length) (szOf PS 5) (some 5))]) (l₂:=Y)
theorem RowF.nil:RowF .nilS [] []:=.inl (RowV.nil PS 5)
def ixS:Nat->List (List UInt8)->List (Nat × AV)
  | _,[]=>[]
  | i,x :: l=>(i,.pv (.str x)) :: ixS (i + 1) l
end
end Go.AD.Lx
