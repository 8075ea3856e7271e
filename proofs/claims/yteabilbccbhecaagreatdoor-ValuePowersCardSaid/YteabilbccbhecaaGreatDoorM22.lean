import Derived.Test.YteabilbccbhecaaGreatDoorM8
import Derived.Test.YteabilbccbhecaaGreatDoorM21
import Derived.Sort.Walk0
import Derived.Shelf.Strings.Builder1
import Derived.Shelf.Strings.Builder2
import Derived.Shelf.Strings.OnBuilder
import Derived.Shelf.Strings.Trim
import Derived.Shelf.Small.Utf8
import Derived.Shelf.Small.Strs
import Derived.Shelf.Small.Wraps
import Derived.Shelf.Strings.BuilderF
import Derived.Shelf.Strings.BuilderK
import Derived.Shelf.Strings.BuilderRune
import Derived.Shelf.Utf8.AppendRune
import Derived.Shelf.Utf8.AppendRunePlain
import Derived.Shelf.Strings.Builder2Cap
import Derived.Shelf.Strconv.Atoi
import Derived.Shelf.Strconv.Itoa0
import Derived.Shelf.Strconv.Itoa1
import Derived.Shelf.LaysM
import Derived.Shelf.Strconv.Itoa2
import Derived.Shelf.Strconv.Itoa3
import Derived.Shelf.Strconv.Itoa4
import Derived.Shelf.Strconv.AtoiErrFast
import Derived.Shelf.Strconv.ParseIntEmpty
import Derived.Shelf.Strconv.AtoiFail
import Derived.Shelf.Strconv.Clone
import Derived.Shelf.Strconv.SyntaxError
import Derived.Shelf.LaysC
import Derived.Shelf.Strconv.ToError
import Derived.Shelf.Strconv.AtoiErr
import Derived.Shelf.Strconv.ErrVar
import Derived.Shelf.Strconv.Lower
import Derived.Shelf.Strconv.ParseUint10
import Derived.Shelf.Strconv.ParseUint10Empty
import Derived.Shelf.Strconv.ParseUint10Any
import Derived.Shelf.Strconv.ParseInt10
import Derived.Shelf.Strconv.AtoiLong
import Derived.Shelf.Strconv.AtoiInnerAll
import Derived.Shelf.Strconv.RangeError
import Derived.Shelf.Strconv.ToErrorRange
import Derived.Shelf.Strconv.AtoiAll
import Derived.Shelf.Strconv.ErrVarAll
import Derived.Shelf.Strconv.ParseUintEmpty
import Derived.Shelf.Strconv.ParseUint10b64
import Derived.Shelf.Strconv.ParseUint10b32
import Derived.Shelf.Strconv.ParseUint10b16
import Derived.Shelf.Strconv.ParseUint10b8
import Derived.Shelf.Strconv.ParseUint10At
import Derived.Shelf.Strconv.ParseInt10At64
import Derived.Shelf.Strconv.ParseInt10At32
import Derived.Shelf.Strconv.ParseInt10At16
import Derived.Shelf.Strconv.ParseInt10At8
import Derived.Shelf.Strconv.ParseInt10All
import Derived.Shelf.Strings.Search1
import Derived.Shelf.Strings.Search2
import Derived.Shelf.Strings.Search3
import Derived.Shelf.Strings.Shaped
import Derived.Shelf.Strconv.AppendUint10
import Derived.Shelf.Strconv.AppendInt10
import Derived.Shelf.Strings.Prefix
import Derived.Shelf.Unicode.Latin
import Derived.Shelf.Unicode.Decode
import Derived.Shelf.Strings.Runes
import Derived.Shelf.Strings.AsciiSet
import Derived.Shelf.Bits.Mul64
import Derived.Shelf.Strings.Repeat
import Derived.Shelf.Unicode.DecodeSlow
import Derived.Shelf.Unicode.DecodeAny
import Derived.Shelf.Unicode.CaseLookup
import Derived.Shelf.Unicode.CaseConvert
import Derived.Shelf.Unicode.CaseTo
import Derived.Shelf.Unicode.CaseLaid
import Derived.Shelf.Strings.MapAny
import Derived.Shelf.Strings.CaseAny
import Derived.Shelf.Strings.BuilderCap
import Derived.Shelf.Strings.MapGrows
import Derived.Test.YteabilbccbhecaaGreatDoorChecked
set_option linter.unusedVariables false
set_option maxRecDepth 100000
namespace Go.AD
open Go.Proofs.Tryz
def an7:An:={ mu:=[],cut:=[],loop:=[] }
def S7 (env:Env) (σ:AS) (K:AV->AS->Prop) (X:PV->AS->Prop):Prop :=
 (env 22 [(.pv (.str [49,48]))] σ (fun t6 σ1 =>
 (env 22 [(.pv (.str [57]))] σ1 (fun t7 σ2 =>
 (env 11 [t6,t7,(.pv (.str [37,46,54,103]))] σ2 (fun t8 σ3 =>
 (lock extractD t8 0 fun t9 =>
 (lock extractD t8 1 fun t10 =>
 (lock buildD prog 24 [(0,(.pv (.str [115,116,114]))),(2,(.pv (.str [49,48])))] fun t12 =>
 (env 9 [t12] σ3 (fun t13 σ4 =>
 (env 22 [(.pv (.str [57]))] σ4 (fun t14 σ5 =>
 (env 11 [t13,t14,(.pv (.str [37,46,54,103]))] σ5 (fun t15 σ6 =>
 (lock extractD t15 0 fun t16 =>
 (lock extractD t15 1 fun t17 =>
 (guardD t10 true
 (guardD t17 true
 (lock binD prog .eql 3 t9 (.pv (.int .i64 1)) fun t24 =>
 (guardD t24 true
 (lock binD prog .eql 3 t16 (.pv (.int .i64 (-1))) fun t28 =>
 (guardD t28 true
 (env 22 [(.pv (.str [49,48]))] σ6 (fun t31 σ7 =>
 (env 18 [t31] σ7 (fun t32 σ8 =>
 (lock binD prog .eql 22 t32 (.pv (.float .f64 4621819117588971520)) fun t33 =>
 (retV (t33) σ8 K))) (panV X))) (panV X))
 (retV ((.pv (.bool false))) σ6 K)))
 (retV ((.pv (.bool false))) σ6 K)))
 (retV ((.pv (.bool false))) σ6 K))
 (retV ((.pv (.bool false))) σ6 K))))) (panV X))) (panV X))) (panV X)))))) (panV X))) (panV X))) (panV X))
theorem S7_eq (env:Env) (σ:AS) (K:AV->AS->Prop) (X:PV->AS->Prop):S7 env  σ K X=bodyD prog env an7 f7 [] σ K X:=by
  unfold S7
  kernel_rfl
theorem S7_ok:(match f7.body with | some c=>okCode an7 prog f7.ntmps c | none=>false)=true:=by kernel_rfl
def an8:An:={ mu:=[],cut:=[],loop:=[(2,[5,6,7])] }
def L8_2 (env:Env) (I2:Nat->List AV->AS->Prop) (m2:Nat) (t5_l2 t6_l2 t7_l2:AV) (σ:AS) (K:AV->AS->Prop) (X:PV->AS->Prop):Prop :=
 (lock binD prog .lss 3 t7_l2 t6_l2 fun t8 =>
 (condD t8
 (lock indexAddrD prog 28 t5_l2 t7_l2 fun t9 =>
 (lock loadD prog σ 24 t9 fun t10 =>
 (lock allocD prog σ 24 fun t4 σ2 =>
 (lock storeD prog σ2 24 t4 t10 fun σ3 =>
 (lock fieldAddrD prog 24 t4 2 fun t11 =>
 (lock loadD prog σ3 9 t11 fun t12 =>
 (lock lenD prog 9 t12 fun t13 =>
 (lock binD prog .gtr 3 t13 (.pv (.int .i64 600)) fun t14 =>
 (guardD t14 false
 (lock fieldAddrD prog 24 t4 0 fun t16 =>
 (lock loadD prog σ3 9 t16 fun t17 =>
 (lock lenD prog 9 t17 fun t18 =>
 (lock binD prog .gtr 3 t18 (.pv (.int .i64 20)) fun t19 =>
 (condD t19
 (retV ((.pv (.bool false))) σ3 K)
 (lock binD prog .add 3 t7_l2 (.pv (.int .i64 1)) fun t21 =>
 (∃ m',m' < m2/\I2 m' [t5_l2,t6_l2,t21] σ3)))))))
 (retV ((.pv (.bool false))) σ3 K))))))))))
 (retV ((.pv (.bool true))) σ K)))
theorem L8_2_eq (env:Env) (I2:Nat->List AV->AS->Prop) (m2:Nat) (t5_l2 t6_l2 t7_l2:AV) (σ:AS) (K:AV->AS->Prop) (X:PV->AS->Prop):L8_2 env I2 m2 t5_l2 t6_l2 t7_l2 σ K X=wpD prog env an8 (subC (bodyC f8) [1,0,1,0,0]) (contQ prog env an8 (bodyC f8) [1,0,1,0,0] [(I2,m2)] (rootQ prog f8 K X)) [(5,t5_l2),(6,t6_l2),(7,t7_l2)] σ:=by
  unfold L8_2
  kernel_rfl
theorem lp8_2 {α:Type} {env:Env}  {t5_l2 t6_l2:AV} {σ:AS} {K:AV->AS->Prop} {X:PV->AS->Prop} (μ:α->AS->Nat) (I:α->AS->Prop) (et7_l2:α->AV) (a0:α) (h0:I a0 σ)
 (h:∀ a σ,I a σ->L8_2 env  (Inv (fun a=>[t5_l2,t6_l2,et7_l2 a]) μ I) (μ a σ) t5_l2 t6_l2 (et7_l2 a) σ K X) :
 ∃ I2:Nat->List AV->AS->Prop,(∃ m,I2 m [t5_l2,t6_l2,et7_l2 a0] σ)/\∀ (m:Nat) (x0 x1 x2:AV),∀ σ,I2 m [x0,x1,x2] σ ->
 L8_2 env  I2 m x0 x1 x2 σ K X:=by
  refine ⟨Inv (fun a=>[t5_l2,t6_l2,et7_l2 a]) μ I,⟨_,a0,rfl,rfl,h0⟩,?_⟩
  rintro m x0 x1 x2 σ' ⟨a,hv,rfl,hI⟩
  simp only [List.cons.injEq,and_true] at hv
  obtain ⟨rfl,rfl,rfl⟩:=hv
  exact h a σ' hI
def S8 (env:Env) (l0_a:AV) (σ:AS) (K:AV->AS->Prop) (X:PV->AS->Prop):Prop :=
 (lock lenD prog 28 l0_a fun t6 =>
 (∃ I2:Nat->List AV->AS->Prop,(∃ m,I2 m [l0_a,t6,(.pv (.int .i64 0))] σ)/\∀ (m2:Nat) (t5_l2 t6_l2 t7_l2:AV),∀ σ1,I2 m2 [t5_l2,t6_l2,t7_l2] σ1 ->
 (L8_2 env I2 m2 t5_l2 t6_l2 t7_l2 σ1 K X)))
theorem S8_eq (env:Env) (l0_a:AV) (σ:AS) (K:AV->AS->Prop) (X:PV->AS->Prop):S8 env l0_a σ K X=bodyD prog env an8 f8 [l0_a] σ K X:=by
  unfold S8
  simp only [L8_2_eq]
  kernel_rfl
theorem S8_ok:(match f8.body with | some c=>okCode an8 prog f8.ntmps c | none=>false)=true:=by kernel_rfl
def an3:An:={ mu:=[],cut:=[(1,[1]),(3,[1]),(5,[1]),(6,[1,3,4]),(7,[1,3,4,5]),(8,[3,4,5,20,21]),(9,[3,4,5,20,21,22]),(10,[3,4,5,6,7,20,21]),(11,[3,4,5,6,20,21]),(12,[3,4,5,8,20,21]),(14,[3,4,5,8,20,21]),(16,[3,4,5]),(18,[5]),(19,[5,9]),(20,[5,9,11]),(21,[9,11,13])],loop:=[(8,[3,4,5,20,21])] }
def J3_14 (env:Env) (I8:Nat->List AV->AS->Prop) (m8:Nat) (texts3_j14 none4_j14 v5_j14 p8_j14 t20_j14 t21_j14:AV) (σ:AS) (K:AV->AS->Prop) (X:PV->AS->Prop):Prop :=
 (guardD none4_j14 false
 (lock fieldAddrD prog 24 p8_j14 1 fun t40 =>
 (lock loadD prog σ 22 t40 fun t41 =>
 (lock fieldAddrD prog 24 p8_j14 1 fun t42 =>
 (lock loadD prog σ 22 t42 fun t43 =>
 (lock binD prog .neq 22 t41 t43 fun t44 =>
 (lock binD prog .add 3 t21_j14 (.pv (.int .i64 1)) fun t46 =>
 (∃ m',m' < m8/\I8 m' [texts3_j14,t44,v5_j14,t20_j14,t46] σ)))))))
 (lock binD prog .add 3 t21_j14 (.pv (.int .i64 1)) fun t46 =>
 (∃ m',m' < m8/\I8 m' [texts3_j14,(.pv (.bool true)),v5_j14,t20_j14,t46] σ)))
theorem J3_14_eq (env:Env) (I8:Nat->List AV->AS->Prop) (m8:Nat) (texts3_j14 none4_j14 v5_j14 p8_j14 t20_j14 t21_j14:AV) (σ:AS) (K:AV->AS->Prop) (X:PV->AS->Prop):J3_14 env I8 m8 texts3_j14 none4_j14 v5_j14 p8_j14 t20_j14 t21_j14 σ K X=cutK (fun fr σ=>wpD prog env an3 (subC (bodyC f3) [1,1,1,1,1,0,1,0,0,1,1,0,0,1,1,1,1]) (contQ prog env an3 (bodyC f3) [1,1,1,1,1,0,1,0,0,1,1,0,0,1,1,1,1] [(I8,m8)] (rootQ prog f3 K X)) fr σ) [(3,texts3_j14),(4,none4_j14),(5,v5_j14),(8,p8_j14),(20,t20_j14),(21,t21_j14)] σ:=by
  unfold J3_14
  refine cutK_of ?_
  kernel_rfl
def J3_12 (env:Env) (I8:Nat->List AV->AS->Prop) (m8:Nat) (texts3_j12 none4_j12 v5_j12 p8_j12 t20_j12 t21_j12:AV) (σ:AS) (K:AV->AS->Prop) (X:PV->AS->Prop):Prop :=
 (lock fieldAddrD prog 24 p8_j12 0 fun t33 =>
 (lock loadD prog σ 9 t33 fun t34 =>
 (lock binD prog .eql 9 t34 (.pv (.str [115,116,114])) fun t35 =>
 (condD t35
 (lock binD prog .add 3 texts3_j12 (.pv (.int .i64 1)) fun t37 =>
 (J3_14 env I8 m8 (t37) (none4_j12) (v5_j12) (p8_j12) (t20_j12) (t21_j12) σ K X))
 (J3_14 env I8 m8 (texts3_j12) (none4_j12) (v5_j12) (p8_j12) (t20_j12) (t21_j12) σ K X)))))
theorem J3_12_eq (env:Env) (I8:Nat->List AV->AS->Prop) (m8:Nat) (texts3_j12 none4_j12 v5_j12 p8_j12 t20_j12 t21_j12:AV) (σ:AS) (K:AV->AS->Prop) (X:PV->AS->Prop):J3_12 env I8 m8 texts3_j12 none4_j12 v5_j12 p8_j12 t20_j12 t21_j12 σ K X=cutK (fun fr σ=>wpD prog env an3 (subC (bodyC f3) [1,1,1,1,1,0,1,0,0,1,1,0,0,1,1,1]) (contQ prog env an3 (bodyC f3) [1,1,1,1,1,0,1,0,0,1,1,0,0,1,1,1] [(I8,m8)] (rootQ prog f3 K X)) fr σ) [(3,texts3_j12),(4,none4_j12),(5,v5_j12),(8,p8_j12),(20,t20_j12),(21,t21_j12)] σ:=by
  unfold J3_12
  simp only [J3_14_eq]
  refine cutK_of ?_
  kernel_rfl
def J3_11 (env:Env) (I8:Nat->List AV->AS->Prop) (m8:Nat) (texts3_j11 none4_j11 v5_j11 i6_j11 t20_j11 t21_j11:AV) (σ:AS) (K:AV->AS->Prop) (X:PV->AS->Prop):Prop :=
 (lock indexAddrD prog 31 v5_j11 i6_j11 fun t30 =>
 (lock loadD prog σ 30 t30 fun t31 =>
 (env 10 [t31] σ (fun t32 σ10 =>
 (lock allocD prog σ10 24 fun t8 σ11 =>
 (lock storeD prog σ11 24 t8 t32 fun σ12 =>
 (J3_12 env I8 m8 (texts3_j11) (none4_j11) (v5_j11) (t8) (t20_j11) (t21_j11) σ12 K X)))) (panV X))))
theorem J3_11_eq (env:Env) (I8:Nat->List AV->AS->Prop) (m8:Nat) (texts3_j11 none4_j11 v5_j11 i6_j11 t20_j11 t21_j11:AV) (σ:AS) (K:AV->AS->Prop) (X:PV->AS->Prop):J3_11 env I8 m8 texts3_j11 none4_j11 v5_j11 i6_j11 t20_j11 t21_j11 σ K X=cutK (fun fr σ=>wpD prog env an3 (subC (bodyC f3) [1,1,1,1,1,0,1,0,0,1,1,0,0,1,1]) (contQ prog env an3 (bodyC f3) [1,1,1,1,1,0,1,0,0,1,1,0,0,1,1] [(I8,m8)] (rootQ prog f3 K X)) fr σ) [(3,texts3_j11),(4,none4_j11),(5,v5_j11),(6,i6_j11),(20,t20_j11),(21,t21_j11)] σ:=by
  unfold J3_11
  simp only [J3_12_eq]
  refine cutK_of ?_
  kernel_rfl
def J3_10 (env:Env) (I8:Nat->List AV->AS->Prop) (m8:Nat) (texts3_j10 none4_j10 v5_j10 i6_j10 x7_j10 t20_j10 t21_j10:AV) (σ:AS) (K:AV->AS->Prop) (X:PV->AS->Prop):Prop :=
 (lock loadD prog σ 24 x7_j10 fun t26 =>
 (env 9 [t26] σ (fun t27 σ8 =>
 (lock indexAddrD prog 31 v5_j10 i6_j10 fun t28 =>
 (lock storeD prog σ8 30 t28 t27 fun σ9 =>
 (J3_11 env I8 m8 (texts3_j10) (none4_j10) (v5_j10) (i6_j10) (t20_j10) (t21_j10) σ9 K X)))) (panV X)))
theorem J3_10_eq (env:Env) (I8:Nat->List AV->AS->Prop) (m8:Nat) (texts3_j10 none4_j10 v5_j10 i6_j10 x7_j10 t20_j10 t21_j10:AV) (σ:AS) (K:AV->AS->Prop) (X:PV->AS->Prop):J3_10 env I8 m8 texts3_j10 none4_j10 v5_j10 i6_j10 x7_j10 t20_j10 t21_j10 σ K X=cutK (fun fr σ=>wpD prog env an3 (subC (bodyC f3) [1,1,1,1,1,0,1,0,0,1,1,0,0,1]) (contQ prog env an3 (bodyC f3) [1,1,1,1,1,0,1,0,0,1,1,0,0,1] [(I8,m8)] (rootQ prog f3 K X)) fr σ) [(3,texts3_j10),(4,none4_j10),(5,v5_j10),(6,i6_j10),(7,x7_j10),(20,t20_j10),(21,t21_j10)] σ:=by
  unfold J3_10
  simp only [J3_11_eq]
  refine cutK_of ?_
  kernel_rfl
def J3_9x (env:Env) (I8:Nat->List AV->AS->Prop) (m8:Nat) (texts3_j9 none4_j9 v5_j9 t20_j9 t21_j9 t22_j9:AV) (σ:AS) (K:AV->AS->Prop) (X:PV->AS->Prop):Prop :=
 (lock indexD prog 25 t20_j9 t21_j9 fun t24 =>
 (lock allocD prog σ 24 fun t7 σ6 =>
 (lock storeD prog σ6 24 t7 t24 fun σ7 =>
 (J3_10 env I8 m8 (texts3_j9) (none4_j9) (v5_j9) (t21_j9) (t7) (t20_j9) (t21_j9) σ7 K X))))
theorem J3_9x_eq (env:Env) (I8:Nat->List AV->AS->Prop) (m8:Nat) (texts3_j9 none4_j9 v5_j9 t20_j9 t21_j9 t22_j9:AV) (σ:AS) (K:AV->AS->Prop) (X:PV->AS->Prop):J3_9x env I8 m8 texts3_j9 none4_j9 v5_j9 t20_j9 t21_j9 t22_j9 σ K X=cutK (fun fr σ=>wpD prog env an3 (subC (bodyC f3) [1,1,1,1,1,0,1,0,0,1,1]) (contQ prog env an3 (bodyC f3) [1,1,1,1,1,0,1,0,0,1,1] [(I8,m8)] (rootQ prog f3 K X)) fr σ) [(3,texts3_j9),(4,none4_j9),(5,v5_j9),(20,t20_j9),(21,t21_j9),(22,t22_j9)] σ:=by
  unfold J3_9x
  simp only [J3_10_eq]
  refine cutK_of ?_
  kernel_rfl
def J3_21 (env:Env)  (a9_j21 b11_j21 c13_j21:AV) (σ:AS) (K:AV->AS->Prop) (X:PV->AS->Prop):Prop :=
 (lock binD prog .gtr 3 a9_j21 (.pv (.int .i64 0)) fun t81 =>
 (guardD t81 false
 (lock binD prog .gtr 3 b11_j21 (.pv (.int .i64 0)) fun t84 =>
 (guardD t84 false
 (lock binD prog .leq 3 c13_j21 (.pv (.int .i64 0)) fun t88 =>
 (retV (t88) σ K))
 (retV ((.pv (.bool true))) σ K)))
 (retV ((.pv (.bool true))) σ K)))
theorem J3_21_eq (env:Env)  (a9_j21 b11_j21 c13_j21:AV) (σ:AS) (K:AV->AS->Prop) (X:PV->AS->Prop):J3_21 env  a9_j21 b11_j21 c13_j21 σ K X=cutK (fun fr σ=>wpD prog env an3 (subC (bodyC f3) [1,1,1,1,1,1,1,1,1,1]) (contQ prog env an3 (bodyC f3) [1,1,1,1,1,1,1,1,1,1] [] (rootQ prog f3 K X)) fr σ) [(9,a9_j21),(11,b11_j21),(13,c13_j21)] σ:=by
  unfold J3_21
  refine cutK_of ?_
  kernel_rfl
def J3_20 (env:Env)  (v5_j20 a9_j20 b11_j20:AV) (σ:AS) (K:AV->AS->Prop) (X:PV->AS->Prop):Prop :=
 (lock indexAddrD prog 31 v5_j20 (.pv (.int .i64 0)) fun t73 =>
 (lock loadD prog σ 30 t73 fun t74 =>
 (lock indexAddrD prog 31 v5_j20 (.pv (.int .i64 2)) fun t75 =>
 (lock loadD prog σ 30 t75 fun t76 =>
 (env 11 [t74,t76,(.pv (.str [37,46,54,103]))] σ (fun t77 σ15 =>
 (lock extractD t77 0 fun t78 =>
 (lock extractD t77 1 fun t79 =>
 (J3_21 env  (a9_j20) (b11_j20) (t78) σ15 K X)))) (panV X))))))
theorem J3_20_eq (env:Env)  (v5_j20 a9_j20 b11_j20:AV) (σ:AS) (K:AV->AS->Prop) (X:PV->AS->Prop):J3_20 env  v5_j20 a9_j20 b11_j20 σ K X=cutK (fun fr σ=>wpD prog env an3 (subC (bodyC f3) [1,1,1,1,1,1,1,1,1]) (contQ prog env an3 (bodyC f3) [1,1,1,1,1,1,1,1,1] [] (rootQ prog f3 K X)) fr σ) [(5,v5_j20),(9,a9_j20),(11,b11_j20)] σ:=by
  unfold J3_20
  simp only [J3_21_eq]
  refine cutK_of ?_
  kernel_rfl
def J3_19 (env:Env)  (v5_j19 a9_j19:AV) (σ:AS) (K:AV->AS->Prop) (X:PV->AS->Prop):Prop :=
 (lock indexAddrD prog 31 v5_j19 (.pv (.int .i64 1)) fun t65 =>
 (lock loadD prog σ 30 t65 fun t66 =>
 (lock indexAddrD prog 31 v5_j19 (.pv (.int .i64 2)) fun t67 =>
 (lock loadD prog σ 30 t67 fun t68 =>
 (env 11 [t66,t68,(.pv (.str [37,46,54,103]))] σ (fun t69 σ14 =>
 (lock extractD t69 0 fun t70 =>
 (lock extractD t69 1 fun t71 =>
 (J3_20 env  (v5_j19) (a9_j19) (t70) σ14 K X)))) (panV X))))))
theorem J3_19_eq (env:Env)  (v5_j19 a9_j19:AV) (σ:AS) (K:AV->AS->Prop) (X:PV->AS->Prop):J3_19 env  v5_j19 a9_j19 σ K X=cutK (fun fr σ=>wpD prog env an3 (subC (bodyC f3) [1,1,1,1,1,1,1,1]) (contQ prog env an3 (bodyC f3) [1,1,1,1,1,1,1,1] [] (rootQ prog f3 K X)) fr σ) [(5,v5_j19),(9,a9_j19)] σ:=by
  unfold J3_19
  simp only [J3_20_eq]
  refine cutK_of ?_
  kernel_rfl
def J3_18 (env:Env)  (v5_j18:AV) (σ:AS) (K:AV->AS->Prop) (X:PV->AS->Prop):Prop :=
 (lock indexAddrD prog 31 v5_j18 (.pv (.int .i64 0)) fun t57 =>
 (lock loadD prog σ 30 t57 fun t58 =>
 (lock indexAddrD prog 31 v5_j18 (.pv (.int .i64 1)) fun t59 =>
 (lock loadD prog σ 30 t59 fun t60 =>
 (env 11 [t58,t60,(.pv (.str [37,46,54,103]))] σ (fun t61 σ13 =>
 (lock extractD t61 0 fun t62 =>
 (lock extractD t61 1 fun t63 =>
 (J3_19 env  (v5_j18) (t62) σ13 K X)))) (panV X))))))
theorem J3_18_eq (env:Env)  (v5_j18:AV) (σ:AS) (K:AV->AS->Prop) (X:PV->AS->Prop):J3_18 env  v5_j18 σ K X=cutK (fun fr σ=>wpD prog env an3 (subC (bodyC f3) [1,1,1,1,1,1,1]) (contQ prog env an3 (bodyC f3) [1,1,1,1,1,1,1] [] (rootQ prog f3 K X)) fr σ) [(5,v5_j18)] σ:=by
  unfold J3_18
  simp only [J3_19_eq]
  refine cutK_of ?_
  kernel_rfl
def J3_16 (env:Env)  (texts3_j16 none4_j16 v5_j16:AV) (σ:AS) (K:AV->AS->Prop) (X:PV->AS->Prop):Prop :=
 (lock binD prog .neq 3 texts3_j16 (.pv (.int .i64 0)) fun t48 =>
 (guardD t48 true
 (lock binD prog .neq 3 texts3_j16 (.pv (.int .i64 3)) fun t51 =>
 (guardD t51 false
 (condD none4_j16
 (retV ((.pv (.bool true))) σ K)
 (J3_18 env  (v5_j16) σ K X))
 (retV ((.pv (.bool true))) σ K)))
 (condD none4_j16
 (retV ((.pv (.bool true))) σ K)
 (J3_18 env  (v5_j16) σ K X))))
theorem J3_16_eq (env:Env)  (texts3_j16 none4_j16 v5_j16:AV) (σ:AS) (K:AV->AS->Prop) (X:PV->AS->Prop):J3_16 env  texts3_j16 none4_j16 v5_j16 σ K X=cutK (fun fr σ=>wpD prog env an3 (subC (bodyC f3) [1,1,1,1,1,1]) (contQ prog env an3 (bodyC f3) [1,1,1,1,1,1] [] (rootQ prog f3 K X)) fr σ) [(3,texts3_j16),(4,none4_j16),(5,v5_j16)] σ:=by
  unfold J3_16
  simp only [J3_18_eq]
  refine cutK_of ?_
  kernel_rfl
def J3_9 (env:Env) (I8:Nat->List AV->AS->Prop) (m8:Nat) (texts3_j9 none4_j9 v5_j9 t20_j9 t21_j9 t22_j9:AV) (σ:AS) (K:AV->AS->Prop) (X:PV->AS->Prop):Prop :=
 (condD t22_j9
 (J3_9x env I8 m8 (texts3_j9) (none4_j9) (v5_j9) (t20_j9) (t21_j9) (t22_j9) σ K X)
 (J3_16 env  (texts3_j9) (none4_j9) (v5_j9) σ K X))
theorem J3_9_eq (env:Env) (I8:Nat->List AV->AS->Prop) (m8:Nat) (texts3_j9 none4_j9 v5_j9 t20_j9 t21_j9 t22_j9:AV) (σ:AS) (K:AV->AS->Prop) (X:PV->AS->Prop):J3_9 env I8 m8 texts3_j9 none4_j9 v5_j9 t20_j9 t21_j9 t22_j9 σ K X=cutK (fun fr σ=>wpD prog env an3 (subC (bodyC f3) [1,1,1,1,1,0,1,0,0,1]) (contQ prog env an3 (bodyC f3) [1,1,1,1,1,0,1,0,0,1] [(I8,m8)] (rootQ prog f3 K X)) fr σ) [(3,texts3_j9),(4,none4_j9),(5,v5_j9),(20,t20_j9),(21,t21_j9),(22,t22_j9)] σ:=by
  unfold J3_9
  simp only [J3_9x_eq,J3_16_eq]
  refine cutK_of ?_
  kernel_rfl
def L3_8 (env:Env) (I8:Nat->List AV->AS->Prop) (m8:Nat) (texts3_l8 none4_l8 v5_l8 t20_l8 t21_l8:AV) (σ:AS) (K:AV->AS->Prop) (X:PV->AS->Prop):Prop :=
 (lock binD prog .lss 3 t21_l8 (.pv (.int .i64 3)) fun t22 =>
 (J3_9 env I8 m8 (texts3_l8) (none4_l8) (v5_l8) (t20_l8) (t21_l8) (t22) σ K X))
theorem L3_8_eq (env:Env) (I8:Nat->List AV->AS->Prop) (m8:Nat) (texts3_l8 none4_l8 v5_l8 t20_l8 t21_l8:AV) (σ:AS) (K:AV->AS->Prop) (X:PV->AS->Prop):L3_8 env I8 m8 texts3_l8 none4_l8 v5_l8 t20_l8 t21_l8 σ K X=wpD prog env an3 (subC (bodyC f3) [1,1,1,1,1,0,1,0,0]) (contQ prog env an3 (bodyC f3) [1,1,1,1,1,0,1,0,0] [(I8,m8)] (rootQ prog f3 K X)) [(3,texts3_l8),(4,none4_l8),(5,v5_l8),(20,t20_l8),(21,t21_l8)] σ:=by
  unfold L3_8
  simp only [J3_9_eq]
  kernel_rfl
theorem lp3_8 {α:Type} {env:Env}  {v5_l8 t20_l8:AV} {σ:AS} {K:AV->AS->Prop} {X:PV->AS->Prop} (μ:α->AS->Nat) (I:α->AS->Prop) (etexts3_l8 enone4_l8 et21_l8:α->AV) (a0:α) (h0:I a0 σ)
 (h:∀ a σ,I a σ->L3_8 env  (Inv (fun a=>[etexts3_l8 a,enone4_l8 a,v5_l8,t20_l8,et21_l8 a]) μ I) (μ a σ) (etexts3_l8 a) (enone4_l8 a) v5_l8 t20_l8 (et21_l8 a) σ K X) :
 ∃ I8:Nat->List AV->AS->Prop,(∃ m,I8 m [etexts3_l8 a0,enone4_l8 a0,v5_l8,t20_l8,et21_l8 a0] σ)/\∀ (m:Nat) (x0 x1 x2 x3 x4:AV),∀ σ,I8 m [x0,x1,x2,x3,x4] σ ->
 L3_8 env  I8 m x0 x1 x2 x3 x4 σ K X:=by
  refine ⟨Inv (fun a=>[etexts3_l8 a,enone4_l8 a,v5_l8,t20_l8,et21_l8 a]) μ I,⟨_,a0,rfl,rfl,h0⟩,?_⟩
  rintro m x0 x1 x2 x3 x4 σ' ⟨a,hv,rfl,hI⟩
  simp only [List.cons.injEq,and_true] at hv
  obtain ⟨rfl,rfl,rfl,rfl,rfl⟩:=hv
  exact h a σ' hI
def J3_8 (env:Env)  (texts3_j8 none4_j8 v5_j8 t20_j8 t21_j8:AV) (σ:AS) (K:AV->AS->Prop) (X:PV->AS->Prop):Prop :=
 (∃ I8:Nat->List AV->AS->Prop,(∃ m,I8 m [texts3_j8,none4_j8,v5_j8,t20_j8,t21_j8] σ)/\∀ (m8:Nat) (texts3_l8 none4_l8 v5_l8 t20_l8 t21_l8:AV),∀ σ5,I8 m8 [texts3_l8,none4_l8,v5_l8,t20_l8,t21_l8] σ5 ->
 (L3_8 env I8 m8 texts3_l8 none4_l8 v5_l8 t20_l8 t21_l8 σ5 K X))
theorem J3_8_eq (env:Env)  (texts3_j8 none4_j8 v5_j8 t20_j8 t21_j8:AV) (σ:AS) (K:AV->AS->Prop) (X:PV->AS->Prop):J3_8 env  texts3_j8 none4_j8 v5_j8 t20_j8 t21_j8 σ K X=cutK (fun fr σ=>wpD prog env an3 (subC (bodyC f3) [1,1,1,1,1,0,1]) (contQ prog env an3 (bodyC f3) [1,1,1,1,1,0,1] [] (rootQ prog f3 K X)) fr σ) [(3,texts3_j8),(4,none4_j8),(5,v5_j8),(20,t20_j8),(21,t21_j8)] σ:=by
  unfold J3_8
  simp only [L3_8_eq]
  refine cutK_of ?_
  kernel_rfl
def J3_7 (env:Env)  (l1_j7 texts3_j7 none4_j7 v5_j7:AV) (σ:AS) (K:AV->AS->Prop) (X:PV->AS->Prop):Prop :=
 (lock loadD prog σ 25 l1_j7 fun t20 =>
 (J3_8 env  (texts3_j7) (none4_j7) (v5_j7) (t20) (.pv (.int .i64 0)) σ K X))
theorem J3_7_eq (env:Env)  (l1_j7 texts3_j7 none4_j7 v5_j7:AV) (σ:AS) (K:AV->AS->Prop) (X:PV->AS->Prop):J3_7 env  l1_j7 texts3_j7 none4_j7 v5_j7 σ K X=cutK (fun fr σ=>wpD prog env an3 (subC (bodyC f3) [1,1,1,1,1]) (contQ prog env an3 (bodyC f3) [1,1,1,1,1] [] (rootQ prog f3 K X)) fr σ) [(1,l1_j7),(3,texts3_j7),(4,none4_j7),(5,v5_j7)] σ:=by
  unfold J3_7
  simp only [J3_8_eq]
  refine cutK_of ?_
  kernel_rfl
def J3_6 (env:Env)  (l1_j6 texts3_j6 none4_j6:AV) (σ:AS) (K:AV->AS->Prop) (X:PV->AS->Prop):Prop :=
 (lock allocD prog σ 31 fun t5 σ4 =>
 (J3_7 env  (l1_j6) (texts3_j6) (none4_j6) (t5) σ4 K X))
theorem J3_6_eq (env:Env)  (l1_j6 texts3_j6 none4_j6:AV) (σ:AS) (K:AV->AS->Prop) (X:PV->AS->Prop):J3_6 env  l1_j6 texts3_j6 none4_j6 σ K X=cutK (fun fr σ=>wpD prog env an3 (subC (bodyC f3) [1,1,1,1]) (contQ prog env an3 (bodyC f3) [1,1,1,1] [] (rootQ prog f3 K X)) fr σ) [(1,l1_j6),(3,texts3_j6),(4,none4_j6)] σ:=by
  unfold J3_6
  simp only [J3_7_eq]
  refine cutK_of ?_
  kernel_rfl
def J3_5 (env:Env)  (l1_j5:AV) (σ:AS) (K:AV->AS->Prop) (X:PV->AS->Prop):Prop :=
 (J3_6 env  (l1_j5) (.pv (.int .i64 0)) (.pv (.bool false)) σ K X)
theorem J3_5_eq (env:Env)  (l1_j5:AV) (σ:AS) (K:AV->AS->Prop) (X:PV->AS->Prop):J3_5 env  l1_j5 σ K X=cutK (fun fr σ=>wpD prog env an3 (subC (bodyC f3) [1,1,1]) (contQ prog env an3 (bodyC f3) [1,1,1] [] (rootQ prog f3 K X)) fr σ) [(1,l1_j5)] σ:=by
  unfold J3_5
  simp only [J3_6_eq]
  refine cutK_of ?_
  kernel_rfl
def J3_3 (env:Env)  (l1_j3:AV) (σ:AS) (K:AV->AS->Prop) (X:PV->AS->Prop):Prop :=
 (lock arrS prog σ 25 l1_j3 none none fun t17 =>
 (env 8 [t17] σ (fun t18 σ3 =>
 (unD .not t18 fun t19 =>
 (condD t19
 (retV ((.pv (.bool true))) σ3 K)
 (J3_5 env  (l1_j3) σ3 K X)))) (panV X)))
theorem J3_3_eq (env:Env)  (l1_j3:AV) (σ:AS) (K:AV->AS->Prop) (X:PV->AS->Prop):J3_3 env  l1_j3 σ K X=cutK (fun fr σ=>wpD prog env an3 (subC (bodyC f3) [1,1]) (contQ prog env an3 (bodyC f3) [1,1] [] (rootQ prog f3 K X)) fr σ) [(1,l1_j3)] σ:=by
  unfold J3_3
  simp only [J3_5_eq]
  refine cutK_of ?_
  kernel_rfl
def J3_1 (env:Env)  (l1_j1:AV) (σ:AS) (K:AV->AS->Prop) (X:PV->AS->Prop):Prop :=
 (env 7 [] σ (fun t15 σ2 =>
 (unD .not t15 fun t16 =>
 (condD t16
 (retV ((.pv (.bool false))) σ2 K)
 (J3_3 env  (l1_j1) σ2 K X)))) (panV X))
theorem J3_1_eq (env:Env)  (l1_j1:AV) (σ:AS) (K:AV->AS->Prop) (X:PV->AS->Prop):J3_1 env  l1_j1 σ K X=cutK (fun fr σ=>wpD prog env an3 (subC (bodyC f3) [1]) (contQ prog env an3 (bodyC f3) [1] [] (rootQ prog f3 K X)) fr σ) [(1,l1_j1)] σ:=by
  unfold J3_1
  simp only [J3_3_eq]
  refine cutK_of ?_
  kernel_rfl
def S3 (env:Env) (l0_a:AV) (σ:AS) (K:AV->AS->Prop) (X:PV->AS->Prop):Prop :=
 (lock boxD σ l0_a fun t1 σ1 =>
 (J3_1 env  (t1) σ1 K X))
theorem S3_eq (env:Env) (l0_a:AV) (σ:AS) (K:AV->AS->Prop) (X:PV->AS->Prop):S3 env l0_a σ K X=bodyD prog env an3 f3 [l0_a] σ K X:=by
  unfold S3
  simp only [J3_1_eq]
  kernel_rfl
theorem S3_ok:(match f3.body with | some c=>okCode an3 prog f3.ntmps c | none=>false)=true:=by kernel_rfl
end Go.AD

set_option linter.unusedVariables false
set_option linter.unusedSimpArgs false
set_option maxRecDepth 100000
namespace Go.AD.Fl
open Go.Proofs RowKit Go.AD.Fp Ieee
theorem cmpB_le {x y : Bytes} : cmpB x y <= 0 ↔ x <= y := by
  unfold cmpB
  rw [bytesLess_eq]
  simp only [decide_eq_true_eq]
  by_cases h : x < y
  · rw [if_pos h]
    exact ⟨fun _ => List.le_of_lt h, fun _ => by decide⟩
  · rw [if_neg h]
    by_cases e : x = y
    · rw [if_pos (.inr e), e]
      exact ⟨fun _ => List.le_refl _, fun _ => Int.le_refl _⟩
    · rw [if_neg (fun hh => hh.elim h e)]
      constructor
      · intro hh; exact absurd hh (by decide)
      · intro hh; exact absurd (List.le_antisymm hh (List.not_lt.1 h)) e
def nanV (v : VV) : Bool := FloatKind.f64.format.order (bitsV v) (bitsV v) != some .eq
theorem not_nan {b : Nat} (h : (FloatKind.f64.format.order b b != some .eq) = false) : isNaNw b = false := by
  cases e : isNaNw b with
  | false => rfl
  | true =>
    rw [show FloatKind.f64.format.order b b = none from order_nan (.inl e)] at h
    cases h
theorem cmpF_le {x y : Nat} (hx : isNaNw x = false) (hy : isNaNw y = false) : cmpF x y <= 0 ↔ fvZ x <= fvZ y := by
  unfold cmpF
  rw [show FloatKind.f64.format.order x y = some (compare (fvZ x) (fvZ y)) from order_w hx hy]
  rcases Int.lt_trichotomy (fvZ x) (fvZ y) with h | h | h
  · rw [Int.compare_eq_lt.2 h, if_pos rfl]
    exact ⟨fun _ => Int.le_of_lt h, fun _ => by decide⟩
  · rw [Int.compare_eq_eq.2 h, if_neg (by decide), if_neg (by decide), h]
    exact ⟨fun _ => Int.le_refl _, fun _ => Int.le_refl _⟩
  · rw [Int.compare_eq_gt.2 h, if_neg (by decide), if_pos rfl]
    constructor
    · intro hh; exact absurd hh (by decide)
    · intro hh; omega
theorem num_bits {v : VV} (h : isStr v = false) : numV v = bitsV v := by cases v <;> first | rfl | cases h
theorem cmp_trans {u v w : VV} (hs : (isStr u = false /\ isStr v = false /\ isStr w = false) \/ (isStr u = true /\ isStr v = true /\ isStr w = true)) (h1 : nanV u = false) (h2 : nanV v = false) (h3 : nanV w = false) (ha : cmpV u v <= 0) (hb : cmpV v w <= 0) : cmpV u w <= 0 := by
  unfold cmpV at *
  rcases hs with ⟨s1, s2, s3⟩ | ⟨s1, s2, s3⟩
  · rw [if_pos ⟨s1, s2⟩] at ha
    rw [if_pos ⟨s2, s3⟩] at hb
    rw [if_pos ⟨s1, s3⟩]
    rw [num_bits s1, num_bits s2] at ha
    rw [num_bits s2, num_bits s3] at hb
    rw [num_bits s1, num_bits s3]
    rw [cmpF_le (not_nan h1) (not_nan h2)] at ha
    rw [cmpF_le (not_nan h2) (not_nan h3)] at hb
    rw [cmpF_le (not_nan h1) (not_nan h3)]
    exact Int.le_trans ha hb
  · rw [if_neg (fun e => by rw [s1] at e; cases e.1)] at ha
    rw [if_neg (fun e => by rw [s2] at e; cases e.1)] at hb
    rw [if_neg (fun e => by rw [s1] at e; cases e.1)]
    rw [cmpB_le] at *
    exact List.le_trans ha hb
theorem ten_looks : looksB [49, 48] = true := by decide +kernel
theorem nine_looks : looksB [57] = true := by decide +kernel
theorem ten_val : prefV [49, 48] = 4621819117588971520 := by decide +kernel
theorem nine_val : prefV [57] = 4621256167635550208 := by decide +kernel
theorem out_ten : outV [49, 48] = .both 4621819117588971520 [49, 48] := by unfold outV; rw [ten_looks, if_pos rfl, ten_val]
theorem out_nine : outV [57] = .both 4621256167635550208 [57] := by unfold outV; rw [nine_looks, if_pos rfl, nine_val]
theorem ten_nine : cmpV (.both 4621819117588971520 [49, 48]) (.both 4621256167635550208 [57]) = 1 := by decide +kernel
theorem ten_nine_t : cmpV (.str [49, 48]) (.both 4621256167635550208 [57]) = -1 := by decide +kernel
theorem ten_self : (FloatKind.f64.format.order 4621819117588971520 4621819117588971520 == some .eq) = true := by decide +kernel
section
variable {env : Env} {args : List AV} {σ0 σ τ : AS} {K : AV -> AS -> Prop} {X : PV -> AS -> Prop}
def T_l8awake : Tr := fun args σ K _ => args = [] /\ K (bo true) σ
theorem T_l8awake_ok (hO : env 22 = T_vOutside) (hC : env 11 = T_vCompare) (hF : env 9 = T_vOf) (hN : env 18 = T_vNumber) (h : T_l8awake args σ K X) : bodyD PS env an7 Tryz.f7 args σ K X := by
  obtain ⟨rfl, hK⟩ := h
  rw [<- S7_eq env, S7]
  simp only [lock_eq]
  rw [hO]
  refine ⟨_, rfl, by decide, ?_⟩
  refine ⟨_, rfl, by decide, ?_⟩
  rw [out_ten, out_nine]
  dsimp only
  rw [hC]
  refine ⟨_, _, _, rfl, by decide, by decide, .inl ⟨rfl, rfl⟩, ?_⟩
  rw [ten_nine]
  simp only [ext0, ext1]
  rw [bdV02, hF]
  refine ⟨_, _, _, rfl, by decide, ?_⟩
  dsimp only
  refine ⟨_, rfl, by decide, ?_⟩
  rw [out_nine]
  dsimp only
  refine ⟨_, _, _, rfl, by decide, by decide, .inr ⟨rfl, rfl⟩, ?_⟩
  rw [show ofV kStr 0 [49, 48] = .str [49, 48] from rfl, ten_nine_t]
  simp only [ext0, ext1, guard_true, if_true, eq8]
  rw [if_pos (by decide), if_pos (by decide)]
  refine ⟨_, rfl, by decide, ?_⟩
  rw [out_ten]
  dsimp only
  rw [hN]
  refine ⟨_, rfl, by decide, ?_⟩
  dsimp only
  rw [bin_feql, show numV (.both 4621819117588971520 [49, 48]) = 4621819117588971520 from rfl, ten_self]
  exact retV_self hK
abbrev P3 := Bytes × Nat × Bytes
def flatP (l : List P3) : List AV := l.flatMap fun x => pC x.1 x.2.1 x.2.2
theorem flatP_len : ∀ l : List P3, (flatP l).length = l.length * 3
  | [] => rfl
  | x :: l => by
    have := flatP_len l
    unfold flatP at *
    rw [List.flatMap_cons, List.length_append, this, List.length_cons]
    show 3 + _ = _
    omega
theorem flatP_drop : ∀ (l : List P3) (i : Nat), (flatP l).drop (i * 3) = flatP (l.drop i)
  | l, 0 => by rw [Nat.zero_mul]; rfl
  | [], i + 1 => by simp [flatP]
  | x :: l, i + 1 => by
    rw [List.drop_succ_cons, <- flatP_drop l i, show (i + 1) * 3 = i * 3 + 1 + 1 + 1 by omega]
    rfl
theorem flatP_at {l : List P3} {i : Nat} (h : i < l.length) : ((flatP l).drop (i * 3)).take 3 = pC l[i].1 l[i].2.1 l[i].2.2 := by
  rw [flatP_drop, List.drop_eq_getElem_cons h]
  rfl
theorem flatP_ok (l : List P3) : (flatP l).all AV.cellOk = true := by
  rw [List.all_eq_true]
  intro v hv
  obtain ⟨x, _, hx⟩ := List.mem_flatMap.1 hv
  simp [pC] at hx
  rcases hx with rfl | rfl | rfl <;> rfl
def fitP (x : P3) : Bool := decide (x.2.2.length <= 600) && decide (x.1.length <= 20)
def T_l8fit : Tr := fun args σ K _ => ∃ (a : Nat) (l : List P3) (mk : Option TypeId), args = [.msl a 0 l.length 3] /\ σ a = some (.cells (flatP l) mk) /\ l.length <= 10 /\ K (bo (l.all fitP)) σ
theorem T_l8fit_ok (h : T_l8fit args σ K X) : bodyD PS env an8 Tryz.f8 args σ K X := by
  obtain ⟨a, l, mk, rfl, ha, hl, hK⟩ := h
  rw [<- S8_eq env, S8]
  simp only [lock_eq, T.lnm28]
  refine lp8_2 (α := Nat) (fun i _ => l.length - i) (fun i τ => i <= l.length /\ (l.take i).all fitP = true /\ σ.sub τ) (fun i => i64 (i : Int)) 0 ⟨Nat.zero_le _, rfl, sub_refl σ⟩ ?_
  rintro i τ ⟨hi, hall, hsub⟩
  have hg := hsub a _ ha
  unfold L8_2
  simp only [lock_eq, bin_lss, cond_bool]
  refine iteI (fun g => ?_) (fun g => ?_)
  · have g : i < l.length := by have := of_decide_eq_true g; omega
    rw [T.ixm28 g, Nat.zero_add, load_addrA T.hT24 T.ag24 hg, T.sz24, flatP_at g]
    refine ⟨by rw [flatP_len]; omega, ?_⟩
    refine alloc_of zeroVal rfl fun b hb => ?_
    have hs1 : ∀ Q : AS -> Prop, storeD PS (τ.set b (.cells (pC [] 0 []) (some 24))) 24 (.addr b 0) (.agg (pC l[i].1 l[i].2.1 l[i].2.2)) Q = Q ((τ.set b (.cells (pC [] 0 []) (some 24))).set b (.cells (pC l[i].1 l[i].2.1 l[i].2.2) (some 24))) := fun Q => stVal (set_same τ b (.cells (pC [] 0 []) (some 24)))
    rw [hs1, set_set]
    have hgb : (τ.set b (.cells (pC l[i].1 l[i].2.1 l[i].2.2) (some 24))) b = some (.cells (pC l[i].1 l[i].2.1 l[i].2.2) (some 24)) := set_same _ _ _
    have hsub2 := hsub.trans (sub_set (.cells (pC l[i].1 l[i].2.1 l[i].2.2) (some 24)) hb)
    have htk : l.take (i + 1) = l.take i ++ [l[i]] := by rw [List.take_add_one, List.getElem?_eq_getElem g]; rfl
    have hno : fitP l[i] = false -> l.all fitP = false := by
      intro h
      rw [List.all_eq_false]
      exact ⟨l[i], List.getElem_mem g, by simp [h]⟩
    simp only [T.fa24_0, T.fa24_2, Nat.zero_add, ldVs hgb, ldVk hgb, T.ls9, bin_gtr, guard_false, cond_bool]
    refine iteI (fun g2 => ?_) (fun g2 => ?_)
    · have g2 := of_decide_eq_true g2
      rw [hno (by unfold fitP; rw [decide_eq_false (by omega), Bool.false_and])] at hK
      exact retV_sub hsub2 hK
    have g2 : ¬ ((l[i].2.2.length : Int) > 600) := fun e => g2 (decide_eq_true e)
    refine iteI (fun g3 => ?_) (fun g3 => ?_)
    · have g3 := of_decide_eq_true g3
      rw [hno (by unfold fitP; rw [decide_eq_false (show ¬ l[i].1.length <= 20 by omega), Bool.and_false])] at hK
      exact retV_sub hsub2 hK
    have g3 : ¬ ((l[i].1.length : Int) > 20) := fun e => g3 (decide_eq_true e)
    rw [bin_add, wrap64 (by omega) (by omega)]
    refine back (i + 1) rfl (by omega) ⟨g, ?_, hsub2⟩
    rw [htk, List.all_append, hall, Bool.true_and, List.all_cons, List.all_nil, Bool.and_true]
    unfold fitP
    rw [decide_eq_true (show l[i].2.2.length <= 600 by omega), decide_eq_true (show l[i].1.length <= 20 by omega)]
    rfl
  · have g : i = l.length := by
      have : ¬ ((i : Int) < (l.length : Int)) := fun e => g (decide_eq_true e)
      omega
    rw [g, List.take_length] at hall
    rw [hall] at hK
    exact retV_sub hsub hK
theorem zeroVals : zeroOf PS 31 = some [.pv .nilIface, .pv .nilIface, .pv .nilIface] := by kernel_rfl
theorem unV3 : PS.underlying 25 = some (.array 3 24) := by kernel_rfl
theorem unW3 : PS.underlying 31 = some (.array 3 30) := by kernel_rfl
def vOf3 (x : P3) : VV := ofV x.1 x.2.1 x.2.2
def vc (x y z : P3) : Nat -> List AV
  | 0 => [.pv .nilIface, .pv .nilIface, .pv .nilIface]
  | 1 => [vAV (vOf3 x), .pv .nilIface, .pv .nilIface]
  | 2 => [vAV (vOf3 x), vAV (vOf3 y), .pv .nilIface]
  | _ => [vAV (vOf3 x), vAV (vOf3 y), vAV (vOf3 z)]
theorem vc_len (x y z : P3) (i : Nat) : (vc x y z i).length = 3 := by unfold vc; split <;> rfl
theorem vc_set {x y z : P3} {i : Nat} (h : i < 3) : (vc x y z i).set i (vAV (vOf3 ([x, y, z].getD i x))) = vc x y z (i + 1) := by
  have : i = 0 \/ i = 1 \/ i = 2 := by omega
  rcases this with rfl | rfl | rfl <;> rfl
theorem vc_get {x y z : P3} {i : Nat} (h : i < 3) : (vc x y z (i + 1))[i]? = some (vAV (vOf3 ([x, y, z].getD i x))) := by
  have : i = 0 \/ i = 1 \/ i = 2 := by omega
  rcases this with rfl | rfl | rfl <;> rfl
def cntS (l : List P3) : Nat := (l.filter fun x => isStr (vOf3 x)).length
def anyN (l : List P3) : Bool := l.any fun x => nanV (vOf3 x)
theorem kind_str (v : VV) : kindV v = kStr ↔ isStr v = true := by cases v <;> simp [kindV, isStr, kNone, kNum, kStr, kBoth]
theorem len_of3 {x : P3} (h : x.2.2.length <= 600) : lenV (vOf3 x) <= 800 := by
  unfold vOf3 ofV
  split
  · exact Nat.zero_le _
  · split
    · show x.2.2.length <= 800; omega
    · split <;> exact Nat.zero_le _
theorem stV3 {a i : Nat} {l : List AV} {v : AV} {mk : Option TypeId} {Q : AS -> Prop} (hg : σ a = some (.cells l mk)) (hv : v.cells = [v]) (ho : v.cellOk = true) (hi : i < l.length) (hK : Q (σ.set a (.cells (l.set i v) mk))) : storeD PS σ 30 (.addr a i) v Q :=
  store_one T.hT30 T.sz30 hv ho hg hi hK
theorem vAV_cells (v : VV) : (vAV v).cells = [vAV v] := by cases v <;> rfl
theorem vAV_ok (v : VV) : (vAV v).cellOk = true := by cases v <;> rfl
theorem ixW {a i : Nat} {kk : IntKind} {Q : AV -> Prop} (hi : i < 3) : indexAddrD PS 31 (.addr a 0) (.pv (.int kk (i : Int))) Q = Q (.addr a i) := by
  simp only [indexAddrD, unW3, T.sz30, Nat.mul_one, Int.toNat_natCast, Nat.zero_add]
  exact propext ⟨fun h => h.2.2.2, fun h => ⟨by kernel_rfl, by omega, by omega, h⟩⟩
def T_ValueRises : Tr := fun args σ K _ => ∃ x y z : P3, args = [.agg (flatP [x, y, z])] /\ K (bo true) σ
theorem T_ValueRises_ok (hA : env 7 = T_l8awake) (hFi : env 8 = T_l8fit) (hF : env 9 = T_vOf) (hP : env 10 = T_vPlain) (hC : env 11 = T_vCompare) (h : T_ValueRises args σ K X) : bodyD PS env an3 Tryz.f3 args σ K X := by
  obtain ⟨x, y, z, rfl, hK⟩ := h
  rw [<- S3_eq env, S3]
  simp only [lock_eq]
  refine ⟨flatP_ok _, fun t1 ht1 => ?_⟩
  obtain ⟨σ1, hσ1⟩ : ∃ σ1, σ1 = σ.set t1 (.cells (AV.agg (flatP [x, y, z])).cells none) := ⟨_, rfl⟩
  have h1 : σ1 t1 = some (.cells (flatP [x, y, z]) none) := by rw [hσ1]; exact set_same _ _ _
  have hsub1 : σ.sub σ1 := by rw [hσ1]; exact sub_set _ ht1
  rw [<- hσ1]
  unfold J3_1
  rw [hA]
  refine ⟨rfl, ?_⟩
  simp only [un_not, cond_bool]
  rw [if_neg (by decide)]
  unfold J3_3
  simp only [lock_eq]
  have harr : ∀ Q : AV -> Prop, Q (.msl t1 0 3 3) -> arrS PS σ1 25 (.addr t1 0) none none Q := by
    intro Q hQ
    have hp : ptrArr PS 25 = some (3, 24) := by unfold ptrArr; rw [unV3]
    simp only [arrS, hp, h1, T.sz24, cutAt, flatP_len]
    exact ⟨by kernel_rfl, by decide, (Nat.le_refl 9 : 9 <= 9), hQ⟩
  refine harr _ ?_
  rw [hFi]
  refine ⟨t1, [x, y, z], none, rfl, h1, (by show 3 <= 10; decide), ?_⟩
  simp only [un_not, cond_bool]
  refine iteI (fun _ => retV_sub hsub1 hK) (fun g => ?_)
  have hfit : [x, y, z].all fitP = true := by simpa using g
  have hlen : ∀ i, i < 3 -> ([x, y, z].getD i x).2.2.length <= 600 := by
    intro i hi
    have hm : [x, y, z].getD i x ∈ [x, y, z] := by
      have : i = 0 \/ i = 1 \/ i = 2 := by omega
      rcases this with rfl | rfl | rfl <;> simp
    have := List.all_eq_true.1 hfit _ hm
    unfold fitP at this
    rw [Bool.and_eq_true, decide_eq_true_eq] at this
    exact this.1
  unfold J3_5 J3_6
  simp only [lock_eq]
  refine alloc_of zeroVals rfl fun v5 hv5 => ?_
  have hv0 : σ v5 = none := by
    cases e : σ v5 with
    | none => rfl
    | some o => have := hsub1 v5 o e; rw [hv5] at this; cases this
  obtain ⟨σ4, hσ4⟩ : ∃ σ4, σ4 = σ1.set v5 (.cells (vc x y z 0) (some 31)) := ⟨_, rfl⟩
  have h4 : σ4 t1 = some (.cells (flatP [x, y, z]) none) := by
    rw [hσ4, set_ne _ _ (fun e => by rw [<- e, h1] at hv5; cases hv5)]; exact h1
  have h4v : σ4 v5 = some (.cells (vc x y z 0) (some 31)) := by rw [hσ4]; exact set_same _ _ _
  have hsub4 : σ.sub σ4 := by rw [hσ4]; exact hsub1.trans (sub_set _ hv5)
  show J3_7 env (.addr t1 0) (i64 0) (bo false) (.addr v5 0) (σ1.set v5 (.cells (vc x y z 0) (some 31))) K X
  rw [<- hσ4]
  unfold J3_7
  simp only [lock_eq]
  rw [load_addrA T.hT25 T.ag25 h4, T.sz25, List.drop_zero, List.take_of_length_le (by rw [flatP_len]; exact Nat.le_refl 9)]
  refine ⟨by rw [flatP_len]; exact Nat.le_refl 9, ?_⟩
  have fin : ∀ τ, τ v5 = some (.cells (vc x y z 3) (some 31)) -> σ.sub τ -> J3_16 env (i64 ((cntS [x, y, z] : Nat) : Int)) (bo (anyN [x, y, z])) (.addr v5 0) τ K X := by
    intro τ hv hsub
    have ldV : ∀ i, i < 3 -> ∀ Q : AV -> Prop, Q (vAV (vOf3 ([x, y, z].getD i x))) -> loadD PS τ 30 (.addr v5 i) Q := by
      intro i hi Q hQ
      rw [load_addr T.hT30 T.ag30 hv]
      have : i = 0 \/ i = 1 \/ i = 2 := by omega
      rcases this with rfl | rfl | rfl <;> exact ⟨_, rfl, hQ⟩
    have go : ((isStr (vOf3 x) = false /\ isStr (vOf3 y) = false /\ isStr (vOf3 z) = false) \/ (isStr (vOf3 x) = true /\ isStr (vOf3 y) = true /\ isStr (vOf3 z) = true)) -> anyN [x, y, z] = false -> J3_18 env (.addr v5 0) τ K X := by
      intro hs hn
      have hn : nanV (vOf3 x) = false /\ nanV (vOf3 y) = false /\ nanV (vOf3 z) = false := by
        unfold anyN at hn
        simp only [List.any_cons, List.any_nil, Bool.or_false, Bool.or_eq_false_iff] at hn
        exact hn
      have nn : ∀ v : VV, isStr v = true -> isNum v = false := by intro v; cases v <;> simp [isStr, isNum]
      have l0 := len_of3 (hlen 0 (by decide))
      have l1 := len_of3 (hlen 1 (by decide))
      have l2 := len_of3 (hlen 2 (by decide))
      have hor : ∀ u w, ((isStr u = false /\ isStr w = false) \/ (isStr u = true /\ isStr w = true)) -> (isStr u = false /\ isStr w = false) \/ (isNum u = false /\ isNum w = false) := fun u w h => h.imp id fun e => ⟨nn _ e.1, nn _ e.2⟩
      have e0 : (AV.pv (.int .i64 0)) = i64 ((0 : Nat) : Int) := rfl
      have e1 : (AV.pv (.int .i64 1)) = i64 ((1 : Nat) : Int) := rfl
      have e2 : (AV.pv (.int .i64 2)) = i64 ((2 : Nat) : Int) := rfl
      unfold J3_18
      simp only [lock_eq]
      rw [e0, ixW (by decide)]
      refine ldV 0 (by decide) _ ?_
      rw [e1, ixW (by decide)]
      refine ldV 1 (by decide) _ ?_
      rw [hC]
      refine ⟨_, _, _, rfl, l0, l1, hor _ _ (hs.imp (fun e => ⟨e.1, e.2.1⟩) (fun e => ⟨e.1, e.2.1⟩)), ?_⟩
      simp only [ext0, ext1]
      unfold J3_19
      simp only [lock_eq]
      rw [e1, ixW (by decide)]
      refine ldV 1 (by decide) _ ?_
      rw [e2, ixW (by decide)]
      refine ldV 2 (by decide) _ ?_
      rw [hC]
      refine ⟨_, _, _, rfl, l1, l2, hor _ _ (hs.imp (fun e => e.2) (fun e => e.2)), ?_⟩
      simp only [ext0, ext1]
      unfold J3_20
      simp only [lock_eq]
      rw [e0, ixW (by decide)]
      refine ldV 0 (by decide) _ ?_
      rw [e2, ixW (by decide)]
      refine ldV 2 (by decide) _ ?_
      rw [hC]
      refine ⟨_, _, _, rfl, l0, l2, hor _ _ (hs.imp (fun e => ⟨e.1, e.2.2⟩) (fun e => ⟨e.1, e.2.2⟩)), ?_⟩
      simp only [ext0, ext1]
      unfold J3_21
      simp only [lock_eq, bin_gtr, guard_false]
      refine iteI (fun _ => retV_sub hsub hK) (fun g1 => ?_)
      refine iteI (fun _ => retV_sub hsub hK) (fun g2 => ?_)
      have g1 : ¬ (cmpV (vOf3 x) (vOf3 y) > 0) := fun e => g1 (decide_eq_true e)
      have g2 : ¬ (cmpV (vOf3 y) (vOf3 z) > 0) := fun e => g2 (decide_eq_true e)
      have := cmp_trans hs hn.1 hn.2.1 hn.2.2 (by omega) (by omega)
      rw [bin_leq]
      have e : decide (cmpV (vOf3 ([x, y, z].getD 0 x)) (vOf3 ([x, y, z].getD 2 x)) <= 0) = true := decide_eq_true this
      rw [e]
      exact retV_sub hsub hK
    have cnt : cntS [x, y, z] = 0 \/ cntS [x, y, z] = 3 -> ((isStr (vOf3 x) = false /\ isStr (vOf3 y) = false /\ isStr (vOf3 z) = false) \/ (isStr (vOf3 x) = true /\ isStr (vOf3 y) = true /\ isStr (vOf3 z) = true)) := by
      unfold cntS
      cases hx : isStr (vOf3 x) <;> cases hy : isStr (vOf3 y) <;> cases hz : isStr (vOf3 z) <;> simp [List.filter_cons, hx, hy, hz]
    unfold J3_16
    simp only [lock_eq, ne8, guard_true, guard_false, cond_bool]
    refine iteI (fun g => ?_) (fun g => ?_)
    · refine iteI (fun _ => retV_sub hsub hK) (fun g2 => ?_)
      refine iteI (fun _ => retV_sub hsub hK) (fun g3 => ?_)
      have g2 : ¬ (((cntS [x, y, z] : Nat) : Int) ≠ 3) := fun e => g2 (decide_eq_true e)
      exact go (cnt (.inr (by omega))) (by simpa using g3)
    · refine iteI (fun _ => retV_sub hsub hK) (fun g3 => ?_)
      have g : ¬ (((cntS [x, y, z] : Nat) : Int) ≠ 0) := fun e => g (decide_eq_true e)
      exact go (cnt (.inl (by omega))) (by simpa using g3)
  unfold J3_8
  refine lp3_8 (α := Nat) (fun i _ => 3 - i) (fun i τ => i <= 3 /\ τ v5 = some (.cells (vc x y z i) (some 31)) /\ σ.sub τ) (fun i => i64 ((cntS ([x, y, z].take i) : Nat) : Int)) (fun i => bo (anyN ([x, y, z].take i))) (fun i => i64 (i : Int)) 0 ⟨Nat.zero_le _, h4v, hsub4⟩ ?_
  rintro i τ ⟨hi, hv, hsub⟩
  unfold L3_8
  simp only [lock_eq, bin_lss]
  unfold J3_9
  simp only [lock_eq, cond_bool]
  refine iteI (fun g => ?_) (fun g => ?_)
  · have g : i < 3 := by have := of_decide_eq_true g; omega
    obtain ⟨u, hu⟩ : ∃ u, u = [x, y, z].getD i x := ⟨_, rfl⟩
    have hul := hlen i g
    rw [<- hu] at hul
    have htk : [x, y, z].take (i + 1) = [x, y, z].take i ++ [u] := by
      rw [hu]
      have : i = 0 \/ i = 1 \/ i = 2 := by omega
      rcases this with rfl | rfl | rfl <;> rfl
    have hat : ((flatP [x, y, z]).drop (i * 3)).take 3 = pC u.1 u.2.1 u.2.2 := by
      rw [hu]
      have : i = 0 \/ i = 1 \/ i = 2 := by omega
      rcases this with rfl | rfl | rfl <;> rfl
    have hcnt : cntS ([x, y, z].take (i + 1)) = cntS ([x, y, z].take i) + (if isStr (vOf3 u) = true then 1 else 0) := by
      rw [htk]
      unfold cntS
      rw [List.filter_append, List.length_append]
      congr 1
      by_cases h : isStr (vOf3 u) = true <;> simp [List.filter_cons, h]
    have hany : anyN ([x, y, z].take (i + 1)) = (anyN ([x, y, z].take i) || nanV (vOf3 u)) := by
      rw [htk]
      unfold anyN
      rw [List.any_append]
      simp
    unfold J3_9x
    simp only [lock_eq]
    have hidx : ∀ Q : AV -> Prop, Q (plAV u.1 u.2.1 u.2.2) -> indexD PS 25 (.agg (flatP [x, y, z])) (i64 (i : Int)) Q := by
      intro Q hQ
      simp only [indexD, unV3, partD, T.hT24, T.ag24, T.sz24, Int.toNat_natCast, if_true, hat, true_and]
      exact ⟨by kernel_rfl, by omega, by omega, by rw [flatP_len]; show i * 3 + 3 <= 9; omega, hQ⟩
    refine hidx _ ?_
    refine alloc_of zeroVal rfl fun t7 ht7 => ?_
    rw [stVal (set_same _ _ _), set_set]
    have h7 : t7 ≠ v5 := fun e => by rw [e, hv] at ht7; cases ht7
    have hg7 : (τ.set t7 (.cells (pC u.1 u.2.1 u.2.2) (some 24))) t7 = some (.cells (pC u.1 u.2.1 u.2.2) (some 24)) := set_same _ _ _
    have hv7 : (τ.set t7 (.cells (pC u.1 u.2.1 u.2.2) (some 24))) v5 = some (.cells (vc x y z i) (some 31)) := by rw [set_ne _ _ (Ne.symm h7)]; exact hv
    have hsub7 := hsub.trans (sub_set (.cells (pC u.1 u.2.1 u.2.2) (some 24)) ht7)
    generalize τ.set t7 (.cells (pC u.1 u.2.1 u.2.2) (some 24)) = τ7 at *
    unfold J3_10
    simp only [lock_eq]
    rw [ldVal hg7, hF]
    refine ⟨_, _, _, rfl, by omega, ?_⟩
    dsimp only
    rw [ixW g]
    refine stV3 hv7 (vAV_cells _) (vAV_ok _) (by rw [vc_len]; exact g) ?_
    have hset : (vc x y z i).set i (vAV (ofV u.1 u.2.1 u.2.2)) = vc x y z (i + 1) := by
      have := vc_set (x := x) (y := y) (z := z) g
      rw [<- hu] at this
      exact this
    rw [hset]
    have hv8 : (τ7.set v5 (.cells (vc x y z (i + 1)) (some 31))) v5 = some (.cells (vc x y z (i + 1)) (some 31)) := set_same _ _ _
    have hsub8 : σ.sub (τ7.set v5 (.cells (vc x y z (i + 1)) (some 31))) := by
      intro j o hj
      rw [set_ne _ _ (fun e => by rw [e, hv0] at hj; cases hj)]
      exact hsub7 j o hj
    generalize τ7.set v5 (.cells (vc x y z (i + 1)) (some 31)) = τ8 at *
    unfold J3_11
    simp only [lock_eq]
    rw [ixW g, load_addr T.hT30 T.ag30 hv8, vc_get g, <- hu]
    refine ⟨_, rfl, ?_⟩
    rw [hP]
    refine ⟨vOf3 u, .inl rfl, ?_⟩
    dsimp only
    refine alloc_of zeroVal rfl fun t8 ht8 => ?_
    unfold plainAV
    rw [stVal (set_same _ _ _), set_set]
    have h8 : t8 ≠ v5 := fun e => by rw [e, hv8] at ht8; cases ht8
    have hg8 : (τ8.set t8 (.cells (pC (kindV (vOf3 u)) (bitsV (vOf3 u)) (strV (vOf3 u))) (some 24))) t8 = some (.cells (pC (kindV (vOf3 u)) (bitsV (vOf3 u)) (strV (vOf3 u))) (some 24)) := set_same _ _ _
    have hv9 : (τ8.set t8 (.cells (pC (kindV (vOf3 u)) (bitsV (vOf3 u)) (strV (vOf3 u))) (some 24))) v5 = some (.cells (vc x y z (i + 1)) (some 31)) := by rw [set_ne _ _ (Ne.symm h8)]; exact hv8
    have hsub9 := hsub8.trans (sub_set (.cells (pC (kindV (vOf3 u)) (bitsV (vOf3 u)) (strV (vOf3 u))) (some 24)) ht8)
    generalize τ8.set t8 (.cells (pC (kindV (vOf3 u)) (bitsV (vOf3 u)) (strV (vOf3 u))) (some 24)) = τ9 at *
    have j14 : ∀ c : Nat, c = cntS ([x, y, z].take (i + 1)) -> J3_14 env (Go.AD.Inv (fun i : Nat => [i64 ((cntS ([x, y, z].take i) : Nat) : Int), bo (anyN ([x, y, z].take i)), .addr v5 0, .agg (flatP [x, y, z]), i64 (i : Int)]) (fun i _ => 3 - i) (fun i τ => i <= 3 /\ τ v5 = some (.cells (vc x y z i) (some 31)) /\ σ.sub τ)) (3 - i)
        (i64 (c : Int)) (bo (anyN ([x, y, z].take i))) (.addr v5 0) (.addr t8 0) (.agg (flatP [x, y, z])) (i64 (i : Int)) τ9 K X := by
      intro c hc
      unfold J3_14
      simp only [lock_eq, guard_false]
      refine iteI (fun g2 => ?_) (fun g2 => ?_)
      · rw [g2, Bool.true_or] at hany
        rw [bin_add, wrap64 (by omega) (by omega)]
        exact back (i + 1) (by rw [hc, hany]; rfl) (by omega) ⟨g, hv9, hsub9⟩
      · have g2 : anyN ([x, y, z].take i) = false := by simpa using g2
        rw [g2, Bool.false_or] at hany
        simp only [T.fa24_1, Nat.zero_add, ldVn hg8, bin_fneq]
        rw [bin_add, wrap64 (by omega) (by omega)]
        exact back (i + 1) (by rw [hc, hany]; rfl) (by omega) ⟨g, hv9, hsub9⟩
    unfold J3_12
    simp only [lock_eq, T.fa24_0, Nat.zero_add, ldVk hg8, bqs, cond_bool]
    refine iteI (fun g2 => ?_) (fun g2 => ?_)
    · have g2 := (kind_str _).1 (of_decide_eq_true g2)
      rw [if_pos g2] at hcnt
      have hle : cntS ([x, y, z].take i) <= 3 := Nat.le_trans (List.length_filter_le ..) (by rw [List.length_take]; exact Nat.min_le_right ..)
      rw [bin_add, wrap64 (by omega) (by omega), show (((cntS ([x, y, z].take i) : Nat) : Int) + 1) = ((cntS ([x, y, z].take i) + 1 : Nat) : Int) by omega]
      exact j14 _ hcnt.symm
    · have g2 : ¬ isStr (vOf3 u) = true := fun e => g2 (decide_eq_true ((kind_str _).2 e))
      rw [if_neg g2, Nat.add_zero] at hcnt
      exact j14 _ hcnt.symm
  · have g : i = 3 := by
      have : ¬ ((i : Int) < 3) := fun e => g (decide_eq_true e)
      omega
    subst g
    exact fin τ hv hsub
end
end Go.AD.Fl

namespace Go.Proofs
open Go.Shelf
def Tryz.lays129_ren:Go.Shelf.Ren:=⟨fun | 129=>150 | n=>n,fun | 53=>37 | 3=>3 | 4=>4 | 46=>108 | 5=>5 | 9=>9 | n=>n,fun | n=>n⟩
theorem Tryz.lays129:Go.Proofs.Lays.n129 Tryz.prog Tryz.lays129_ren:={
  mixed:=by kernel_rfl
  f129:=Tryz.func150.trans (congrArg some (by kernel_rfl))
  t3:=Tryz.underlying3
  a3:=Tryz.isAgg3
  z3:=Tryz.sizeOf3
  v3:=Tryz.zeroValue3
  t4:=Tryz.underlying4
  a4:=Tryz.isAgg4
  z4:=Tryz.sizeOf4
  v4:=Tryz.zeroValue4
  t5:=Tryz.underlying5
  a5:=Tryz.isAgg5
  z5:=Tryz.sizeOf5
  v5:=Tryz.zeroValue5
  t9:=Tryz.underlying9
  a9:=Tryz.isAgg9
  z9:=Tryz.sizeOf9
  v9:=Tryz.zeroValue9
  t46:=Tryz.underlying108
  a46:=Tryz.isAgg108
  z46:=Tryz.sizeOf108
  v46:=Tryz.zeroValue108
  t53:=Tryz.underlying37
  a53:=Tryz.isAgg37
  z53:=Tryz.sizeOf37
  v53:=Tryz.zeroValue37 }
theorem Tryz.bits_Len64 (x:Int) (w:World) (h0:0 <= x) (h1:x <= 18446744073709551615) :
    Calls Tryz.prog 150 #[.int .u64 x] w fun e w'=>e=.returned (.int .i64 (Lib.bitLen x.toNat))/\w'=w:=Any.bits_Len64 Tryz.lays129 x w h0 h1
def Tryz.laysM316_ren:Go.Shelf.Ren:=⟨fun | 316=>109 | n=>n,fun | 9=>9 | 3=>3 | 4=>4 | 37=>141 | 0=>0 | 127=>187 | 5=>5 | n=>n,fun | n=>n⟩
theorem Tryz.laysM316:Go.Proofs.LaysM.n316 Tryz.prog Tryz.laysM316_ren:={
  mixed:=by kernel_rfl
  f316:=Tryz.func109.trans (congrArg some (by kernel_rfl))
  t0:=Tryz.underlying0
  a0:=Tryz.isAgg0
  z0:=Tryz.sizeOf0
  v0:=Tryz.zeroValue0
  t3:=Tryz.underlying3
  a3:=Tryz.isAgg3
  z3:=Tryz.sizeOf3
  v3:=Tryz.zeroValue3
  t4:=Tryz.underlying4
  a4:=Tryz.isAgg4
  z4:=Tryz.sizeOf4
  v4:=Tryz.zeroValue4
  t9:=Tryz.underlying9
  a9:=Tryz.isAgg9
  z9:=Tryz.sizeOf9
  v9:=Tryz.zeroValue9
  t37:=Tryz.underlying141
  a37:=Tryz.isAgg141
  z37:=Tryz.sizeOf141
  v37:=Tryz.zeroValue141
  t127:=Tryz.underlying187
  a127:=Tryz.isAgg187
  z127:=Tryz.sizeOf187
  v127:=Tryz.zeroValue187
  t5:=Tryz.underlying5
  a5:=Tryz.isAgg5
  z5:=Tryz.sizeOf5
  v5:=Tryz.zeroValue5
  i0:=by kernel_rfl
  i3:=by kernel_rfl
  i4:=by kernel_rfl
  i5:=by kernel_rfl
  i9:=by kernel_rfl
  i37:=by kernel_rfl
  i127:=by kernel_rfl }
open Go.RowKit in
theorem Tryz.stringslite_Clone (s:ByteArray) (w:World) (hlim:s.size <= 281474976710656) :
    Calls Tryz.prog 109 #[.string s] w fun e w'=>e=.returned (.string s)/\Below w.heap.size w w':=Any.stringslite_Clone Tryz.laysM316 s w hlim
def Tryz.lays264_ren:Go.Shelf.Ren:=⟨fun | 264=>155 | n=>n,fun | 53=>37 | 46=>108 | n=>n,fun | n=>n⟩
theorem Tryz.lays264:Go.Proofs.Lays.n264 Tryz.prog Tryz.lays264_ren:={
  mixed:=by kernel_rfl
  f264:=Tryz.func155.trans (congrArg some (by kernel_rfl))
  t46:=Tryz.underlying108
  a46:=Tryz.isAgg108
  z46:=Tryz.sizeOf108
  v46:=Tryz.zeroValue108
  t53:=Tryz.underlying37
  a53:=Tryz.isAgg37
  z53:=Tryz.sizeOf37
  v53:=Tryz.zeroValue37 }
open Go.RowKit Go.Lib in
theorem Tryz.bits_Mul64 (x y:Nat) (hx:x < 18446744073709551616) (hy:y < 18446744073709551616) (w:World) :
    Calls Tryz.prog 155 #[.int .u64 x,.int .u64 y] w fun e w'=>e=.returned (.tuple #[.int .u64 ((x * y / 18446744073709551616:Nat):Int),.int .u64 ((x * y % 18446744073709551616:Nat):Int)])/\w'=w:=Any.bits_Mul64 Tryz.lays264 x y hx hy w
end Go.Proofs

set_option linter.unusedVariables false
set_option linter.unusedSimpArgs false
set_option maxRecDepth 100000
namespace Go.AD.Fl
open Go.Proofs RowKit Go.AD.Fp
section
variable {w0 w w' : World} {ρ : Gh} {σ : AS}
theorem belowFrom (H : RelH w0 ρ σ w) (hb : Below w.heap.size w w') : Below w0.heap.size w0 w' :=
  H.below.trans ⟨hb.os, hb.tape, hb.output, hb.size, fun k hk => hb.block k (Nat.lt_of_lt_of_le hk H.le_size)⟩
theorem grew (H : RelH w0 ρ σ w) (hb : Below w.heap.size w w') : RelH w0 ρ σ w' := by
  refine RelH.keep H (Gh.le_refl ρ) (belowFrom H hb) ?_ ?_ H.bound
  · intro b o v hv
    exact (hb.cell (p := ⟨b, o, none⟩) (H.imm_lt hv)).trans (H.imm _ _ _ hv)
  · intro id o b ho hbl
    exact ⟨hb.block b (H.blk_lt ho hbl), fun _ => rfl, fun _ => rfl⟩
end
theorem bitLen_log2 {d : Nat} (h0 : 0 < d) (h : d < 2 ^ 64) : Lib.bitLen d = d.log2 + 1 := by
  have : ∀ (f x : Nat), 0 < x -> x < 2 ^ f -> Lib.bitLenAux f x = x.log2 + 1 := by
    intro f
    induction f with
    | zero => intro x h1 h2; simp at h2; omega
    | succ f ih =>
      intro x h1 h2
      unfold Lib.bitLenAux
      rw [if_neg (by omega)]
      rcases Nat.eq_zero_or_pos (x / 2) with g | g
      · have hx : x = 1 := by omega
        subst hx
        have : Lib.bitLenAux f (1 / 2) = 0 := by
          cases f with
          | zero => rfl
          | succ f => unfold Lib.bitLenAux; rw [if_pos (by decide)]
        rw [this]
        have : Nat.log2 1 = 0 := by decide
        rw [this]
      · rw [ih (x / 2) g (by rw [Nat.pow_succ] at h2; omega)]
        have : x.log2 = (x / 2).log2 + 1 := by
          rw [Nat.log2_def x, if_pos (by omega)]
        omega
  exact this 64 d h0 h
theorem F_bLen64 : SoundF PS 150 T_Len64 := by
  rintro w0 hS ρ σ w args us K X H hr ⟨d, rfl, h0, h1, hK⟩
  obtain ⟨u, us', rfl, hu, hr⟩ := hr.uncons
  obtain rfl : us' = [] := hr.nil_inv
  rw [relInt (x := .undef) hu]
  refine ⟨Tryz.call150 _ w, ?_⟩
  refine (Tryz.bits_Len64 (d : Int) w (by omega) (by omega)).mono fun e W' ⟨he, hW⟩ => ?_
  subst he hW
  rw [Int.toNat_natCast, bitLen_log2 h0 (by omega)]
  exact ⟨ρ, σ, Gh.le_refl ρ, H, _, mkInt .., hK⟩
theorem F_bMul64 : SoundF PS 155 T_Mul64 := by
  rintro w0 hS ρ σ w args us K X H hr ⟨x, y, rfl, hx, hy, hK⟩
  obtain ⟨u, us', rfl, hu, hr⟩ := hr.uncons
  obtain ⟨v, us'', rfl, hv, hr⟩ := hr.uncons
  obtain rfl : us'' = [] := hr.nil_inv
  rw [relInt (x := .undef) hu, relInt (x := .undef) hv]
  refine ⟨Tryz.call155 _ w, ?_⟩
  refine (Tryz.bits_Mul64 x y hx hy w).mono fun e W' ⟨he, hW⟩ => ?_
  subst he hW
  exact ⟨ρ, σ, Gh.le_refl ρ, H, _, RelV.of_tuple (.cons (mkInt ..) (.cons (mkInt ..) (.nil ρ))), hK⟩
theorem F_sClone : SoundF PS 109 T_sClone := by
  rintro w0 hS ρ σ w args us K X H hr ⟨s, rfl, hs, hK⟩
  obtain ⟨u, us', rfl, hu, hr⟩ := hr.uncons
  obtain rfl : us' = [] := hr.nil_inv
  rw [relStr hu]
  refine ⟨Tryz.call109 _ w, ?_⟩
  refine (Tryz.stringslite_Clone ⟨s.toArray⟩ w (by simp [ByteArray.size]; omega)).mono fun e W' ⟨he, hW⟩ => ?_
  subst he
  exact ⟨ρ, σ, Gh.le_refl ρ, grew H hW, _, mkStr .., hK⟩
theorem X_iFrom : SoundX PS 145 T_f64from := f64from_sound Tryz.func145 (by kernel_rfl) (by kernel_rfl) (by kernel_rfl) (by kernel_rfl)
abbrev HM : Prop := PS.follows .mixedOrders = true
def envF0 : Env := (((env0.add 150 T_Len64).add 155 T_Mul64).add 109 T_sClone).add 145 T_f64from
theorem envF0_ok (hm : HM) : EnvOk PS envF0 := EnvOk.addX (EnvOk.add (EnvOk.add (EnvOk.add (env0_ok PS) F_bLen64) F_bMul64) F_sClone) X_iFrom
end Go.AD.Fl
