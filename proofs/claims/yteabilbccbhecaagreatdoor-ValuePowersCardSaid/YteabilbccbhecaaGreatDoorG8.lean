import Derived.Test.YteabilbccbhecaaGreatDoorM8
set_option linter.unusedVariables false
set_option maxRecDepth 100000
namespace Go.AD
open Go.Proofs.Tryz
def an136:An:={ mu:=[],cut:=[(1,[0,2,3,4,5,6,7,8]),(2,[0,2,3,4,5,6,7,8,9]),(3,[0,2,3,4,5,6,7,8,9]),(4,[0,2,3,4,5,6,7,8,9,27]),(5,[0,2,3,4,5,6,7,8,9,27,28]),(7,[0,2,3,4,5,6,7,8,9,32]),(9,[0,2,3,4,5,6,7,8,9]),(10,[0,2,3,4,5,6,7,8,9,10]),(11,[0,2,3,4,5,6,7,8,9,10,11]),(12,[0,2,3,4,5,6,7,8,9,10,11,12]),(13,[0,2,3,4,5,6,7,8,9,10,11,12,54]),(14,[0,2,3,4,5,7,8,9,10]),(15,[0,2,3,4,5,7,8,9,10,11]),(18,[0,2,3,4,5,6,7,8,9,10,11,12]),(19,[0,2,3,4,5,6,7,8,9,10,11,12,13]),(20,[0,2,3,4,5,6,7,8,9,10,11,12,13,14]),(21,[0,2,3,4,5,6,7,8,9,10,11,12,13,14,15]),(22,[0,2,3,4,5,6,7,8,9,10,11,12,13,14,15,16]),(23,[0,2,3,4,5,6,7,8,9,10,11,12,13,14,15,16,17]),(25,[0,2,3,4,5,6,7,8,9,10,11,12,13,14,15,16,17]),(26,[0,2,3,4,5,6,7,8,9,10,11,12,13,14,15,16,17,18]),(27,[0,2,3,4,5,6,7,8,9,10,11,12,13,14,15,16,17,18,66]),(29,[0,2,3,4,5,6,7,8,9,10,11,12,13,14,15,16,17,18,70]),(33,[0,2,3,4,5,6,7,8,9,10,11,12,13,14,15,16,17,18,76]),(34,[0,2,3,4,5,6,7,8,9,10,11,12,13,14,15,16,17,18]),(36,[0,2,3,4,5,6,7,8,9,10,11,12,13,14,15,16,17,18]),(37,[0,2,3,4,5,6,7,8,9,10,11,12,13,14,15,16,17,18]),(38,[0,2,3,4,5,6,7,8,9,10,11,12,13,14,15,16,17,18,96]),(39,[0,2,3,4,5,6,7,8,9,10,11,12,13,14,15,16,17,18]),(44,[0,2,3,4,5,6,7,8,9,10,11,12,13,14,15,16,17,18,109]),(45,[0,2,3,4,5,6,7,8,9,10,11,12,13,14,15,16,17,18]),(46,[0,2,3,4,5,6,7,8,9,10,11,12,13,14,15,16,17,18]),(47,[0,2,3,4,5,6,7,8,9,10,11,12,13,14,15,16,17,18,127]),(48,[0,2,3,4,5,6,7,8,9,10,11,12,13,14,15,16,17,18]),(51,[0,2,3,4,5,6,7,8,9,10,12,13,14,15,16,17]),(52,[0,2,3,4,5,6,7,8,9,10,12,13,15,16,17]),(54,[0,2,3,4,5,6,7,8,9,10,12,16,17]),(55,[0,2,3,4,5,6,7,8,9,10,12,16,17,145]),(57,[0,2,3,4,5,6,7,8,9,10,12,16,17]),(58,[0,2,3,4,5,6,7,8,9,10,16,17,161]),(59,[0,2,3,4,5,6,7,8,9,16,17]),(60,[0,2,3,4,5,6,7,8,9,16,17]),(61,[0,2,3,4,5,6,7,8,9,16,17,19]),(62,[0,2,3,4,5,6,7,8,9,16,17,19,170]),(63,[0,2,3,4,5,6,7,8,9,16,17,19,170,171]),(65,[0,2,3,4,5,6,7,8,9,16,17,19,175]),(67,[0,2,3,4,5,6,7,8,9,16,17,19]),(68,[0,2,3,4,5,6,7,8,9,16,17,19]),(69,[0,2,3,4,5,6,7,8,9,16,17,19,20]),(71,[0,2,3,4,5,6,7,8,9,16,17,19,20]),(73,[0,2,3,4,5,6,7,8,9,16,17,19,20]),(74,[0,2,3,4,5,6,7,8,9,16,17,19,20,224]),(75,[0,2,3,4,5,6,7,8,9,16,17,19,20]),(77,[0,2,3,4,5,6,7,8,9,16,17]),(78,[0,2,3,4,5,6,7,8,9,16,17,241]),(79,[0,2,3,4,5,6,7,8,9])],loop:=[(23,[0,2,3,4,5,6,7,8,9,10,11,12,13,14,15,16,17]),(69,[0,2,3,4,5,6,7,8,9,16,17,19,20])] }
def J136_74 (env:Env) (I69:Nat->List AV->AS->Prop) (m69:Nat) (s0_j74 mantissa2_j74 exp3_j74 neg4_j74 trunc5_j74 hex6_j74 i7_j74 ok8_j74 underscores9_j74 ndMant16_j74 dp17_j74 esign19_j74 e20_j74 t224_j74:AV) (s:AS) (K:AV->AS->Prop) (X:PV->AS->Prop):Prop :=
 (condD t224_j74
 (lock binD prog .mul 3 e20_j74 (.pv (.int .i64 10)) fun t226 =>
 (lock indexD prog 9 s0_j74 i7_j74 fun t229 =>
 (lock convD prog s 5 3 t229 fun t230 =>
 (lock binD prog .add 3 t226 t230 fun t231 =>
 (lock binD prog .sub 3 t231 (.pv (.int .i64 48)) fun t232 =>
 (lock binD prog .add 3 i7_j74 (.pv (.int .i64 1)) fun t218 =>
 (∃ m',m' < m69/\I69 m' [s0_j74,mantissa2_j74,exp3_j74,neg4_j74,trunc5_j74,hex6_j74,t218,ok8_j74,underscores9_j74,ndMant16_j74,dp17_j74,esign19_j74,t232] s)))))))
 (lock binD prog .add 3 i7_j74 (.pv (.int .i64 1)) fun t218 =>
 (∃ m',m' < m69/\I69 m' [s0_j74,mantissa2_j74,exp3_j74,neg4_j74,trunc5_j74,hex6_j74,t218,ok8_j74,underscores9_j74,ndMant16_j74,dp17_j74,esign19_j74,e20_j74] s)))
theorem J136_74_eq (env:Env) (I69:Nat->List AV->AS->Prop) (m69:Nat) (s0_j74 mantissa2_j74 exp3_j74 neg4_j74 trunc5_j74 hex6_j74 i7_j74 ok8_j74 underscores9_j74 ndMant16_j74 dp17_j74 esign19_j74 e20_j74 t224_j74:AV) (s:AS) (K:AV->AS->Prop) (X:PV->AS->Prop):J136_74 env I69 m69 s0_j74 mantissa2_j74 exp3_j74 neg4_j74 trunc5_j74 hex6_j74 i7_j74 ok8_j74 underscores9_j74 ndMant16_j74 dp17_j74 esign19_j74 e20_j74 t224_j74 s K X=cutK (fun fr s=>wpD prog env an136 (subC (bodyC f136) [1,0,1,1,1,1,1,1,1,1,1,1,1,1,1,1,1,1,1,0,1,0,1,1,1,1,1,1,0,0,0,1,0,0,1,1]) (contQ prog env an136 (bodyC f136) [1,0,1,1,1,1,1,1,1,1,1,1,1,1,1,1,1,1,1,0,1,0,1,1,1,1,1,1,0,0,0,1,0,0,1,1] [(I69,m69)] (rootQ prog f136 K X)) fr s) [(0,s0_j74),(2,mantissa2_j74),(3,exp3_j74),(4,neg4_j74),(5,trunc5_j74),(6,hex6_j74),(7,i7_j74),(8,ok8_j74),(9,underscores9_j74),(16,ndMant16_j74),(17,dp17_j74),(19,esign19_j74),(20,e20_j74),(224,t224_j74)] s:=by
  unfold J136_74
  refine cutK_of ?_
  kernel_rfl
def J136_73 (env:Env) (I69:Nat->List AV->AS->Prop) (m69:Nat) (s0_j73 mantissa2_j73 exp3_j73 neg4_j73 trunc5_j73 hex6_j73 i7_j73 ok8_j73 underscores9_j73 ndMant16_j73 dp17_j73 esign19_j73 e20_j73:AV) (s:AS) (K:AV->AS->Prop) (X:PV->AS->Prop):Prop :=
 (lock binD prog .lss 3 e20_j73 (.pv (.int .i64 10000)) fun t224 =>
 (J136_74 env I69 m69 (s0_j73) (mantissa2_j73) (exp3_j73) (neg4_j73) (trunc5_j73) (hex6_j73) (i7_j73) (ok8_j73) (underscores9_j73) (ndMant16_j73) (dp17_j73) (esign19_j73) (e20_j73) (t224) s K X))
theorem J136_73_eq (env:Env) (I69:Nat->List AV->AS->Prop) (m69:Nat) (s0_j73 mantissa2_j73 exp3_j73 neg4_j73 trunc5_j73 hex6_j73 i7_j73 ok8_j73 underscores9_j73 ndMant16_j73 dp17_j73 esign19_j73 e20_j73:AV) (s:AS) (K:AV->AS->Prop) (X:PV->AS->Prop):J136_73 env I69 m69 s0_j73 mantissa2_j73 exp3_j73 neg4_j73 trunc5_j73 hex6_j73 i7_j73 ok8_j73 underscores9_j73 ndMant16_j73 dp17_j73 esign19_j73 e20_j73 s K X=cutK (fun fr s=>wpD prog env an136 (subC (bodyC f136) [1,0,1,1,1,1,1,1,1,1,1,1,1,1,1,1,1,1,1,0,1,0,1,1,1,1,1,1,0,0,0,1,0,0,1]) (contQ prog env an136 (bodyC f136) [1,0,1,1,1,1,1,1,1,1,1,1,1,1,1,1,1,1,1,0,1,0,1,1,1,1,1,1,0,0,0,1,0,0,1] [(I69,m69)] (rootQ prog f136 K X)) fr s) [(0,s0_j73),(2,mantissa2_j73),(3,exp3_j73),(4,neg4_j73),(5,trunc5_j73),(6,hex6_j73),(7,i7_j73),(8,ok8_j73),(9,underscores9_j73),(16,ndMant16_j73),(17,dp17_j73),(19,esign19_j73),(20,e20_j73)] s:=by
  unfold J136_73
  simp only [J136_74_eq]
  refine cutK_of ?_
  kernel_rfl
def J136_71 (env:Env) (I69:Nat->List AV->AS->Prop) (m69:Nat) (s0_j71 mantissa2_j71 exp3_j71 neg4_j71 trunc5_j71 hex6_j71 i7_j71 ok8_j71 underscores9_j71 ndMant16_j71 dp17_j71 esign19_j71 e20_j71:AV) (s:AS) (K:AV->AS->Prop) (X:PV->AS->Prop):Prop :=
 (lock indexD prog 9 s0_j71 i7_j71 fun t221 =>
 (lock binD prog .eql 5 t221 (.pv (.int .u8 95)) fun t222 =>
 (condD t222
 (lock binD prog .add 3 i7_j71 (.pv (.int .i64 1)) fun t218 =>
 (∃ m',m' < m69/\I69 m' [s0_j71,mantissa2_j71,exp3_j71,neg4_j71,trunc5_j71,hex6_j71,t218,ok8_j71,(.pv (.bool true)),ndMant16_j71,dp17_j71,esign19_j71,e20_j71] s))
 (J136_73 env I69 m69 (s0_j71) (mantissa2_j71) (exp3_j71) (neg4_j71) (trunc5_j71) (hex6_j71) (i7_j71) (ok8_j71) (underscores9_j71) (ndMant16_j71) (dp17_j71) (esign19_j71) (e20_j71) s K X))))
theorem J136_71_eq (env:Env) (I69:Nat->List AV->AS->Prop) (m69:Nat) (s0_j71 mantissa2_j71 exp3_j71 neg4_j71 trunc5_j71 hex6_j71 i7_j71 ok8_j71 underscores9_j71 ndMant16_j71 dp17_j71 esign19_j71 e20_j71:AV) (s:AS) (K:AV->AS->Prop) (X:PV->AS->Prop):J136_71 env I69 m69 s0_j71 mantissa2_j71 exp3_j71 neg4_j71 trunc5_j71 hex6_j71 i7_j71 ok8_j71 underscores9_j71 ndMant16_j71 dp17_j71 esign19_j71 e20_j71 s K X=cutK (fun fr s=>wpD prog env an136 (subC (bodyC f136) [1,0,1,1,1,1,1,1,1,1,1,1,1,1,1,1,1,1,1,0,1,0,1,1,1,1,1,1,0,0,0,1]) (contQ prog env an136 (bodyC f136) [1,0,1,1,1,1,1,1,1,1,1,1,1,1,1,1,1,1,1,0,1,0,1,1,1,1,1,1,0,0,0,1] [(I69,m69)] (rootQ prog f136 K X)) fr s) [(0,s0_j71),(2,mantissa2_j71),(3,exp3_j71),(4,neg4_j71),(5,trunc5_j71),(6,hex6_j71),(7,i7_j71),(8,ok8_j71),(9,underscores9_j71),(16,ndMant16_j71),(17,dp17_j71),(19,esign19_j71),(20,e20_j71)] s:=by
  unfold J136_71
  simp only [J136_73_eq]
  refine cutK_of ?_
  kernel_rfl
def J136_79 (env:Env)  (s0_j79 mantissa2_j79 exp3_j79 neg4_j79 trunc5_j79 hex6_j79 i7_j79 ok8_j79 underscores9_j79:AV) (s:AS) (K:AV->AS->Prop) (X:PV->AS->Prop):Prop :=
 (guardD underscores9_j79 true
 (lock sliceD prog 9 s0_j79 none (some i7_j79) fun t249 =>
 (env 171 [t249] s (fun t250 s5 =>
 (unD .not t250 fun t251 =>
 (condD t251
 (retV (.tuple [mantissa2_j79,exp3_j79,neg4_j79,trunc5_j79,hex6_j79,i7_j79,ok8_j79]) s5 K)
 (retV (.tuple [mantissa2_j79,exp3_j79,neg4_j79,trunc5_j79,hex6_j79,i7_j79,(.pv (.bool true))]) s5 K)))) (panV X)))
 (retV (.tuple [mantissa2_j79,exp3_j79,neg4_j79,trunc5_j79,hex6_j79,i7_j79,(.pv (.bool true))]) s K))
theorem J136_79_eq (env:Env)  (s0_j79 mantissa2_j79 exp3_j79 neg4_j79 trunc5_j79 hex6_j79 i7_j79 ok8_j79 underscores9_j79:AV) (s:AS) (K:AV->AS->Prop) (X:PV->AS->Prop):J136_79 env  s0_j79 mantissa2_j79 exp3_j79 neg4_j79 trunc5_j79 hex6_j79 i7_j79 ok8_j79 underscores9_j79 s K X=cutK (fun fr s=>wpD prog env an136 (subC (bodyC f136) [1,0,1,1,1,1,1,1,1,1,1,1,1,1,1,1,1,1,1,1,1]) (contQ prog env an136 (bodyC f136) [1,0,1,1,1,1,1,1,1,1,1,1,1,1,1,1,1,1,1,1,1] [] (rootQ prog f136 K X)) fr s) [(0,s0_j79),(2,mantissa2_j79),(3,exp3_j79),(4,neg4_j79),(5,trunc5_j79),(6,hex6_j79),(7,i7_j79),(8,ok8_j79),(9,underscores9_j79)] s:=by
  unfold J136_79
  refine cutK_of ?_
  kernel_rfl
def J136_78 (env:Env)  (s0_j78 mantissa2_j78 exp3_j78 neg4_j78 trunc5_j78 hex6_j78 i7_j78 ok8_j78 underscores9_j78 ndMant16_j78 dp17_j78 t241_j78:AV) (s:AS) (K:AV->AS->Prop) (X:PV->AS->Prop):Prop :=
 (condD t241_j78
 (lock binD prog .sub 3 dp17_j78 ndMant16_j78 fun t244 =>
 (J136_79 env  (s0_j78) (mantissa2_j78) (t244) (neg4_j78) (trunc5_j78) (hex6_j78) (i7_j78) (ok8_j78) (underscores9_j78) s K X))
 (J136_79 env  (s0_j78) (mantissa2_j78) (exp3_j78) (neg4_j78) (trunc5_j78) (hex6_j78) (i7_j78) (ok8_j78) (underscores9_j78) s K X))
theorem J136_78_eq (env:Env)  (s0_j78 mantissa2_j78 exp3_j78 neg4_j78 trunc5_j78 hex6_j78 i7_j78 ok8_j78 underscores9_j78 ndMant16_j78 dp17_j78 t241_j78:AV) (s:AS) (K:AV->AS->Prop) (X:PV->AS->Prop):J136_78 env  s0_j78 mantissa2_j78 exp3_j78 neg4_j78 trunc5_j78 hex6_j78 i7_j78 ok8_j78 underscores9_j78 ndMant16_j78 dp17_j78 t241_j78 s K X=cutK (fun fr s=>wpD prog env an136 (subC (bodyC f136) [1,0,1,1,1,1,1,1,1,1,1,1,1,1,1,1,1,1,1,1,0,1]) (contQ prog env an136 (bodyC f136) [1,0,1,1,1,1,1,1,1,1,1,1,1,1,1,1,1,1,1,1,0,1] [] (rootQ prog f136 K X)) fr s) [(0,s0_j78),(2,mantissa2_j78),(3,exp3_j78),(4,neg4_j78),(5,trunc5_j78),(6,hex6_j78),(7,i7_j78),(8,ok8_j78),(9,underscores9_j78),(16,ndMant16_j78),(17,dp17_j78),(241,t241_j78)] s:=by
  unfold J136_78
  simp only [J136_79_eq]
  refine cutK_of ?_
  kernel_rfl
def J136_77 (env:Env)  (s0_j77 mantissa2_j77 exp3_j77 neg4_j77 trunc5_j77 hex6_j77 i7_j77 ok8_j77 underscores9_j77 ndMant16_j77 dp17_j77:AV) (s:AS) (K:AV->AS->Prop) (X:PV->AS->Prop):Prop :=
 (lock binD prog .neq 37 mantissa2_j77 (.pv (.int .u64 0)) fun t241 =>
 (J136_78 env  (s0_j77) (mantissa2_j77) (exp3_j77) (neg4_j77) (trunc5_j77) (hex6_j77) (i7_j77) (ok8_j77) (underscores9_j77) (ndMant16_j77) (dp17_j77) (t241) s K X))
theorem J136_77_eq (env:Env)  (s0_j77 mantissa2_j77 exp3_j77 neg4_j77 trunc5_j77 hex6_j77 i7_j77 ok8_j77 underscores9_j77 ndMant16_j77 dp17_j77:AV) (s:AS) (K:AV->AS->Prop) (X:PV->AS->Prop):J136_77 env  s0_j77 mantissa2_j77 exp3_j77 neg4_j77 trunc5_j77 hex6_j77 i7_j77 ok8_j77 underscores9_j77 ndMant16_j77 dp17_j77 s K X=cutK (fun fr s=>wpD prog env an136 (subC (bodyC f136) [1,0,1,1,1,1,1,1,1,1,1,1,1,1,1,1,1,1,1,1]) (contQ prog env an136 (bodyC f136) [1,0,1,1,1,1,1,1,1,1,1,1,1,1,1,1,1,1,1,1] [] (rootQ prog f136 K X)) fr s) [(0,s0_j77),(2,mantissa2_j77),(3,exp3_j77),(4,neg4_j77),(5,trunc5_j77),(6,hex6_j77),(7,i7_j77),(8,ok8_j77),(9,underscores9_j77),(16,ndMant16_j77),(17,dp17_j77)] s:=by
  unfold J136_77
  simp only [J136_78_eq]
  refine cutK_of ?_
  kernel_rfl
def J136_75 (env:Env)  (s0_j75 mantissa2_j75 exp3_j75 neg4_j75 trunc5_j75 hex6_j75 i7_j75 ok8_j75 underscores9_j75 ndMant16_j75 dp17_j75 esign19_j75 e20_j75:AV) (s:AS) (K:AV->AS->Prop) (X:PV->AS->Prop):Prop :=
 (lock binD prog .mul 3 e20_j75 esign19_j75 fun t236 =>
 (lock binD prog .add 3 dp17_j75 t236 fun t237 =>
 (J136_77 env  (s0_j75) (mantissa2_j75) (exp3_j75) (neg4_j75) (trunc5_j75) (hex6_j75) (i7_j75) (ok8_j75) (underscores9_j75) (ndMant16_j75) (t237) s K X)))
theorem J136_75_eq (env:Env)  (s0_j75 mantissa2_j75 exp3_j75 neg4_j75 trunc5_j75 hex6_j75 i7_j75 ok8_j75 underscores9_j75 ndMant16_j75 dp17_j75 esign19_j75 e20_j75:AV) (s:AS) (K:AV->AS->Prop) (X:PV->AS->Prop):J136_75 env  s0_j75 mantissa2_j75 exp3_j75 neg4_j75 trunc5_j75 hex6_j75 i7_j75 ok8_j75 underscores9_j75 ndMant16_j75 dp17_j75 esign19_j75 e20_j75 s K X=cutK (fun fr s=>wpD prog env an136 (subC (bodyC f136) [1,0,1,1,1,1,1,1,1,1,1,1,1,1,1,1,1,1,1,0,1,0,1,1,1,1,1,1,1]) (contQ prog env an136 (bodyC f136) [1,0,1,1,1,1,1,1,1,1,1,1,1,1,1,1,1,1,1,0,1,0,1,1,1,1,1,1,1] [] (rootQ prog f136 K X)) fr s) [(0,s0_j75),(2,mantissa2_j75),(3,exp3_j75),(4,neg4_j75),(5,trunc5_j75),(6,hex6_j75),(7,i7_j75),(8,ok8_j75),(9,underscores9_j75),(16,ndMant16_j75),(17,dp17_j75),(19,esign19_j75),(20,e20_j75)] s:=by
  unfold J136_75
  simp only [J136_77_eq]
  refine cutK_of ?_
  kernel_rfl
def L136_69 (env:Env) (I69:Nat->List AV->AS->Prop) (m69:Nat) (s0_l69 mantissa2_l69 exp3_l69 neg4_l69 trunc5_l69 hex6_l69 i7_l69 ok8_l69 underscores9_l69 ndMant16_l69 dp17_l69 esign19_l69 e20_l69:AV) (s:AS) (K:AV->AS->Prop) (X:PV->AS->Prop):Prop :=
 (lock lenD prog 9 s0_l69 fun t197 =>
 (lock binD prog .lss 3 i7_l69 t197 fun t198 =>
 (guardD t198 true
 (lock indexD prog 9 s0_l69 i7_l69 fun t202 =>
 (lock binD prog .leq 5 (.pv (.int .u8 48)) t202 fun t203 =>
 (guardD t203 true
 (lock indexD prog 9 s0_l69 i7_l69 fun t207 =>
 (lock binD prog .leq 5 t207 (.pv (.int .u8 57)) fun t208 =>
 (guardD t208 false
 (lock indexD prog 9 s0_l69 i7_l69 fun t213 =>
 (lock binD prog .eql 5 t213 (.pv (.int .u8 95)) fun t214 =>
 (condD t214
 (J136_71 env I69 m69 (s0_l69) (mantissa2_l69) (exp3_l69) (neg4_l69) (trunc5_l69) (hex6_l69) (i7_l69) (ok8_l69) (underscores9_l69) (ndMant16_l69) (dp17_l69) (esign19_l69) (e20_l69) s K X)
 (J136_75 env  (s0_l69) (mantissa2_l69) (exp3_l69) (neg4_l69) (trunc5_l69) (hex6_l69) (i7_l69) (ok8_l69) (underscores9_l69) (ndMant16_l69) (dp17_l69) (esign19_l69) (e20_l69) s K X))))
 (J136_71 env I69 m69 (s0_l69) (mantissa2_l69) (exp3_l69) (neg4_l69) (trunc5_l69) (hex6_l69) (i7_l69) (ok8_l69) (underscores9_l69) (ndMant16_l69) (dp17_l69) (esign19_l69) (e20_l69) s K X))))
 (lock indexD prog 9 s0_l69 i7_l69 fun t213 =>
 (lock binD prog .eql 5 t213 (.pv (.int .u8 95)) fun t214 =>
 (condD t214
 (J136_71 env I69 m69 (s0_l69) (mantissa2_l69) (exp3_l69) (neg4_l69) (trunc5_l69) (hex6_l69) (i7_l69) (ok8_l69) (underscores9_l69) (ndMant16_l69) (dp17_l69) (esign19_l69) (e20_l69) s K X)
 (J136_75 env  (s0_l69) (mantissa2_l69) (exp3_l69) (neg4_l69) (trunc5_l69) (hex6_l69) (i7_l69) (ok8_l69) (underscores9_l69) (ndMant16_l69) (dp17_l69) (esign19_l69) (e20_l69) s K X)))))))
 (J136_75 env  (s0_l69) (mantissa2_l69) (exp3_l69) (neg4_l69) (trunc5_l69) (hex6_l69) (i7_l69) (ok8_l69) (underscores9_l69) (ndMant16_l69) (dp17_l69) (esign19_l69) (e20_l69) s K X))))
theorem L136_69_eq (env:Env) (I69:Nat->List AV->AS->Prop) (m69:Nat) (s0_l69 mantissa2_l69 exp3_l69 neg4_l69 trunc5_l69 hex6_l69 i7_l69 ok8_l69 underscores9_l69 ndMant16_l69 dp17_l69 esign19_l69 e20_l69:AV) (s:AS) (K:AV->AS->Prop) (X:PV->AS->Prop):L136_69 env I69 m69 s0_l69 mantissa2_l69 exp3_l69 neg4_l69 trunc5_l69 hex6_l69 i7_l69 ok8_l69 underscores9_l69 ndMant16_l69 dp17_l69 esign19_l69 e20_l69 s K X=wpD prog env an136 (subC (bodyC f136) [1,0,1,1,1,1,1,1,1,1,1,1,1,1,1,1,1,1,1,0,1,0,1,1,1,1,1,1,0,0,0]) (contQ prog env an136 (bodyC f136) [1,0,1,1,1,1,1,1,1,1,1,1,1,1,1,1,1,1,1,0,1,0,1,1,1,1,1,1,0,0,0] [(I69,m69)] (rootQ prog f136 K X)) [(0,s0_l69),(2,mantissa2_l69),(3,exp3_l69),(4,neg4_l69),(5,trunc5_l69),(6,hex6_l69),(7,i7_l69),(8,ok8_l69),(9,underscores9_l69),(16,ndMant16_l69),(17,dp17_l69),(19,esign19_l69),(20,e20_l69)] s:=by
  unfold L136_69
  simp only [J136_71_eq,J136_75_eq]
  kernel_rfl
theorem lp136_69 {α:Type} {env:Env}  {s0_l69 mantissa2_l69 exp3_l69 neg4_l69 trunc5_l69 hex6_l69 ok8_l69 ndMant16_l69 dp17_l69 esign19_l69:AV} {s:AS} {K:AV->AS->Prop} {X:PV->AS->Prop} (μ:α->AS->Nat) (I:α->AS->Prop) (ei7_l69 eunderscores9_l69 ee20_l69:α->AV) (a0:α) (h0:I a0 s)
 (h:∀ a s,I a s->L136_69 env  (Inv (fun a=>[s0_l69,mantissa2_l69,exp3_l69,neg4_l69,trunc5_l69,hex6_l69,ei7_l69 a,ok8_l69,eunderscores9_l69 a,ndMant16_l69,dp17_l69,esign19_l69,ee20_l69 a]) μ I) (μ a s) s0_l69 mantissa2_l69 exp3_l69 neg4_l69 trunc5_l69 hex6_l69 (ei7_l69 a) ok8_l69 (eunderscores9_l69 a) ndMant16_l69 dp17_l69 esign19_l69 (ee20_l69 a) s K X) :
 ∃ I69:Nat->List AV->AS->Prop,(∃ m,I69 m [s0_l69,mantissa2_l69,exp3_l69,neg4_l69,trunc5_l69,hex6_l69,ei7_l69 a0,ok8_l69,eunderscores9_l69 a0,ndMant16_l69,dp17_l69,esign19_l69,ee20_l69 a0] s)/\∀ (m:Nat) (x0 x1 x2 x3 x4 x5 x6 x7 x8 x9 x10 x11 x12:AV),∀ s,I69 m [x0,x1,x2,x3,x4,x5,x6,x7,x8,x9,x10,x11,x12] s ->
 L136_69 env  I69 m x0 x1 x2 x3 x4 x5 x6 x7 x8 x9 x10 x11 x12 s K X:=by
  refine ⟨Inv (fun a=>[s0_l69,mantissa2_l69,exp3_l69,neg4_l69,trunc5_l69,hex6_l69,ei7_l69 a,ok8_l69,eunderscores9_l69 a,ndMant16_l69,dp17_l69,esign19_l69,ee20_l69 a]) μ I,⟨_,a0,rfl,rfl,h0⟩,?_⟩
  rintro m x0 x1 x2 x3 x4 x5 x6 x7 x8 x9 x10 x11 x12 s' ⟨a,hv,rfl,hI⟩
  simp only [List.cons.injEq,and_true] at hv
  obtain ⟨rfl,rfl,rfl,rfl,rfl,rfl,rfl,rfl,rfl,rfl,rfl,rfl,rfl⟩:=hv
  exact h a s' hI
def J136_69 (env:Env)  (s0_j69 mantissa2_j69 exp3_j69 neg4_j69 trunc5_j69 hex6_j69 i7_j69 ok8_j69 underscores9_j69 ndMant16_j69 dp17_j69 esign19_j69 e20_j69:AV) (s:AS) (K:AV->AS->Prop) (X:PV->AS->Prop):Prop :=
 (∃ I69:Nat->List AV->AS->Prop,(∃ m,I69 m [s0_j69,mantissa2_j69,exp3_j69,neg4_j69,trunc5_j69,hex6_j69,i7_j69,ok8_j69,underscores9_j69,ndMant16_j69,dp17_j69,esign19_j69,e20_j69] s)/\∀ (m69:Nat) (s0_l69 mantissa2_l69 exp3_l69 neg4_l69 trunc5_l69 hex6_l69 i7_l69 ok8_l69 underscores9_l69 ndMant16_l69 dp17_l69 esign19_l69 e20_l69:AV),∀ s4,I69 m69 [s0_l69,mantissa2_l69,exp3_l69,neg4_l69,trunc5_l69,hex6_l69,i7_l69,ok8_l69,underscores9_l69,ndMant16_l69,dp17_l69,esign19_l69,e20_l69] s4 ->
 (L136_69 env I69 m69 s0_l69 mantissa2_l69 exp3_l69 neg4_l69 trunc5_l69 hex6_l69 i7_l69 ok8_l69 underscores9_l69 ndMant16_l69 dp17_l69 esign19_l69 e20_l69 s4 K X))
theorem J136_69_eq (env:Env)  (s0_j69 mantissa2_j69 exp3_j69 neg4_j69 trunc5_j69 hex6_j69 i7_j69 ok8_j69 underscores9_j69 ndMant16_j69 dp17_j69 esign19_j69 e20_j69:AV) (s:AS) (K:AV->AS->Prop) (X:PV->AS->Prop):J136_69 env  s0_j69 mantissa2_j69 exp3_j69 neg4_j69 trunc5_j69 hex6_j69 i7_j69 ok8_j69 underscores9_j69 ndMant16_j69 dp17_j69 esign19_j69 e20_j69 s K X=cutK (fun fr s=>wpD prog env an136 (subC (bodyC f136) [1,0,1,1,1,1,1,1,1,1,1,1,1,1,1,1,1,1,1,0,1,0,1,1,1,1,1,1]) (contQ prog env an136 (bodyC f136) [1,0,1,1,1,1,1,1,1,1,1,1,1,1,1,1,1,1,1,0,1,0,1,1,1,1,1,1] [] (rootQ prog f136 K X)) fr s) [(0,s0_j69),(2,mantissa2_j69),(3,exp3_j69),(4,neg4_j69),(5,trunc5_j69),(6,hex6_j69),(7,i7_j69),(8,ok8_j69),(9,underscores9_j69),(16,ndMant16_j69),(17,dp17_j69),(19,esign19_j69),(20,e20_j69)] s:=by
  unfold J136_69
  simp only [L136_69_eq]
  refine cutK_of ?_
  kernel_rfl
def J136_68 (env:Env)  (s0_j68 mantissa2_j68 exp3_j68 neg4_j68 trunc5_j68 hex6_j68 i7_j68 ok8_j68 underscores9_j68 ndMant16_j68 dp17_j68 esign19_j68:AV) (s:AS) (K:AV->AS->Prop) (X:PV->AS->Prop):Prop :=
 (J136_69 env  (s0_j68) (mantissa2_j68) (exp3_j68) (neg4_j68) (trunc5_j68) (hex6_j68) (i7_j68) (ok8_j68) (underscores9_j68) (ndMant16_j68) (dp17_j68) (esign19_j68) (.pv (.int .i64 0)) s K X)
theorem J136_68_eq (env:Env)  (s0_j68 mantissa2_j68 exp3_j68 neg4_j68 trunc5_j68 hex6_j68 i7_j68 ok8_j68 underscores9_j68 ndMant16_j68 dp17_j68 esign19_j68:AV) (s:AS) (K:AV->AS->Prop) (X:PV->AS->Prop):J136_68 env  s0_j68 mantissa2_j68 exp3_j68 neg4_j68 trunc5_j68 hex6_j68 i7_j68 ok8_j68 underscores9_j68 ndMant16_j68 dp17_j68 esign19_j68 s K X=cutK (fun fr s=>wpD prog env an136 (subC (bodyC f136) [1,0,1,1,1,1,1,1,1,1,1,1,1,1,1,1,1,1,1,0,1,0,1,1,1,1,1]) (contQ prog env an136 (bodyC f136) [1,0,1,1,1,1,1,1,1,1,1,1,1,1,1,1,1,1,1,0,1,0,1,1,1,1,1] [] (rootQ prog f136 K X)) fr s) [(0,s0_j68),(2,mantissa2_j68),(3,exp3_j68),(4,neg4_j68),(5,trunc5_j68),(6,hex6_j68),(7,i7_j68),(8,ok8_j68),(9,underscores9_j68),(16,ndMant16_j68),(17,dp17_j68),(19,esign19_j68)] s:=by
  unfold J136_68
  simp only [J136_69_eq]
  refine cutK_of ?_
  kernel_rfl
def J136_67 (env:Env)  (s0_j67 mantissa2_j67 exp3_j67 neg4_j67 trunc5_j67 hex6_j67 i7_j67 ok8_j67 underscores9_j67 ndMant16_j67 dp17_j67 esign19_j67:AV) (s:AS) (K:AV->AS->Prop) (X:PV->AS->Prop):Prop :=
 (lock lenD prog 9 s0_j67 fun t181 =>
 (lock binD prog .geq 3 i7_j67 t181 fun t182 =>
 (guardD t182 false
 (lock indexD prog 9 s0_j67 i7_j67 fun t186 =>
 (lock binD prog .lss 5 t186 (.pv (.int .u8 48)) fun t187 =>
 (guardD t187 false
 (lock indexD prog 9 s0_j67 i7_j67 fun t192 =>
 (lock binD prog .gtr 5 t192 (.pv (.int .u8 57)) fun t193 =>
 (condD t193
 (retV (.tuple [mantissa2_j67,exp3_j67,neg4_j67,trunc5_j67,hex6_j67,i7_j67,ok8_j67]) s K)
 (J136_68 env  (s0_j67) (mantissa2_j67) (exp3_j67) (neg4_j67) (trunc5_j67) (hex6_j67) (i7_j67) (ok8_j67) (underscores9_j67) (ndMant16_j67) (dp17_j67) (esign19_j67) s K X))))
 (retV (.tuple [mantissa2_j67,exp3_j67,neg4_j67,trunc5_j67,hex6_j67,i7_j67,ok8_j67]) s K))))
 (retV (.tuple [mantissa2_j67,exp3_j67,neg4_j67,trunc5_j67,hex6_j67,i7_j67,ok8_j67]) s K))))
theorem J136_67_eq (env:Env)  (s0_j67 mantissa2_j67 exp3_j67 neg4_j67 trunc5_j67 hex6_j67 i7_j67 ok8_j67 underscores9_j67 ndMant16_j67 dp17_j67 esign19_j67:AV) (s:AS) (K:AV->AS->Prop) (X:PV->AS->Prop):J136_67 env  s0_j67 mantissa2_j67 exp3_j67 neg4_j67 trunc5_j67 hex6_j67 i7_j67 ok8_j67 underscores9_j67 ndMant16_j67 dp17_j67 esign19_j67 s K X=cutK (fun fr s=>wpD prog env an136 (subC (bodyC f136) [1,0,1,1,1,1,1,1,1,1,1,1,1,1,1,1,1,1,1,0,1,0,1,1,1,1]) (contQ prog env an136 (bodyC f136) [1,0,1,1,1,1,1,1,1,1,1,1,1,1,1,1,1,1,1,0,1,0,1,1,1,1] [] (rootQ prog f136 K X)) fr s) [(0,s0_j67),(2,mantissa2_j67),(3,exp3_j67),(4,neg4_j67),(5,trunc5_j67),(6,hex6_j67),(7,i7_j67),(8,ok8_j67),(9,underscores9_j67),(16,ndMant16_j67),(17,dp17_j67),(19,esign19_j67)] s:=by
  unfold J136_67
  simp only [J136_68_eq]
  refine cutK_of ?_
  kernel_rfl
def J136_65 (env:Env)  (s0_j65 mantissa2_j65 exp3_j65 neg4_j65 trunc5_j65 hex6_j65 i7_j65 ok8_j65 underscores9_j65 ndMant16_j65 dp17_j65 esign19_j65 t175_j65:AV) (s:AS) (K:AV->AS->Prop) (X:PV->AS->Prop):Prop :=
 (condD t175_j65
 (lock binD prog .add 3 i7_j65 (.pv (.int .i64 1)) fun t178 =>
 (J136_67 env  (s0_j65) (mantissa2_j65) (exp3_j65) (neg4_j65) (trunc5_j65) (hex6_j65) (t178) (ok8_j65) (underscores9_j65) (ndMant16_j65) (dp17_j65) (.pv (.int .i64 (-1))) s K X))
 (J136_67 env  (s0_j65) (mantissa2_j65) (exp3_j65) (neg4_j65) (trunc5_j65) (hex6_j65) (i7_j65) (ok8_j65) (underscores9_j65) (ndMant16_j65) (dp17_j65) (esign19_j65) s K X))
theorem J136_65_eq (env:Env)  (s0_j65 mantissa2_j65 exp3_j65 neg4_j65 trunc5_j65 hex6_j65 i7_j65 ok8_j65 underscores9_j65 ndMant16_j65 dp17_j65 esign19_j65 t175_j65:AV) (s:AS) (K:AV->AS->Prop) (X:PV->AS->Prop):J136_65 env  s0_j65 mantissa2_j65 exp3_j65 neg4_j65 trunc5_j65 hex6_j65 i7_j65 ok8_j65 underscores9_j65 ndMant16_j65 dp17_j65 esign19_j65 t175_j65 s K X=cutK (fun fr s=>wpD prog env an136 (subC (bodyC f136) [1,0,1,1,1,1,1,1,1,1,1,1,1,1,1,1,1,1,1,0,1,0,1,1,1,0,1,0,1,1,1]) (contQ prog env an136 (bodyC f136) [1,0,1,1,1,1,1,1,1,1,1,1,1,1,1,1,1,1,1,0,1,0,1,1,1,0,1,0,1,1,1] [] (rootQ prog f136 K X)) fr s) [(0,s0_j65),(2,mantissa2_j65),(3,exp3_j65),(4,neg4_j65),(5,trunc5_j65),(6,hex6_j65),(7,i7_j65),(8,ok8_j65),(9,underscores9_j65),(16,ndMant16_j65),(17,dp17_j65),(19,esign19_j65),(175,t175_j65)] s:=by
  unfold J136_65
  simp only [J136_67_eq]
  refine cutK_of ?_
  kernel_rfl
def J136_63 (env:Env)  (s0_j63 mantissa2_j63 exp3_j63 neg4_j63 trunc5_j63 hex6_j63 i7_j63 ok8_j63 underscores9_j63 ndMant16_j63 dp17_j63 esign19_j63 t170_j63 t171_j63:AV) (s:AS) (K:AV->AS->Prop) (X:PV->AS->Prop):Prop :=
 (condD t171_j63
 (lock binD prog .add 3 i7_j63 (.pv (.int .i64 1)) fun t174 =>
 (J136_67 env  (s0_j63) (mantissa2_j63) (exp3_j63) (neg4_j63) (trunc5_j63) (hex6_j63) (t174) (ok8_j63) (underscores9_j63) (ndMant16_j63) (dp17_j63) (esign19_j63) s K X))
 (lock binD prog .eql 5 t170_j63 (.pv (.int .u8 45)) fun t176 =>
 (J136_65 env  (s0_j63) (mantissa2_j63) (exp3_j63) (neg4_j63) (trunc5_j63) (hex6_j63) (i7_j63) (ok8_j63) (underscores9_j63) (ndMant16_j63) (dp17_j63) (esign19_j63) (t176) s K X)))
theorem J136_63_eq (env:Env)  (s0_j63 mantissa2_j63 exp3_j63 neg4_j63 trunc5_j63 hex6_j63 i7_j63 ok8_j63 underscores9_j63 ndMant16_j63 dp17_j63 esign19_j63 t170_j63 t171_j63:AV) (s:AS) (K:AV->AS->Prop) (X:PV->AS->Prop):J136_63 env  s0_j63 mantissa2_j63 exp3_j63 neg4_j63 trunc5_j63 hex6_j63 i7_j63 ok8_j63 underscores9_j63 ndMant16_j63 dp17_j63 esign19_j63 t170_j63 t171_j63 s K X=cutK (fun fr s=>wpD prog env an136 (subC (bodyC f136) [1,0,1,1,1,1,1,1,1,1,1,1,1,1,1,1,1,1,1,0,1,0,1,1,1,0,1,0,1]) (contQ prog env an136 (bodyC f136) [1,0,1,1,1,1,1,1,1,1,1,1,1,1,1,1,1,1,1,0,1,0,1,1,1,0,1,0,1] [] (rootQ prog f136 K X)) fr s) [(0,s0_j63),(2,mantissa2_j63),(3,exp3_j63),(4,neg4_j63),(5,trunc5_j63),(6,hex6_j63),(7,i7_j63),(8,ok8_j63),(9,underscores9_j63),(16,ndMant16_j63),(17,dp17_j63),(19,esign19_j63),(170,t170_j63),(171,t171_j63)] s:=by
  unfold J136_63
  simp only [J136_67_eq,J136_65_eq]
  refine cutK_of ?_
  kernel_rfl
def J136_62 (env:Env)  (s0_j62 mantissa2_j62 exp3_j62 neg4_j62 trunc5_j62 hex6_j62 i7_j62 ok8_j62 underscores9_j62 ndMant16_j62 dp17_j62 esign19_j62 t170_j62:AV) (s:AS) (K:AV->AS->Prop) (X:PV->AS->Prop):Prop :=
 (lock binD prog .eql 5 t170_j62 (.pv (.int .u8 43)) fun t172 =>
 (J136_63 env  (s0_j62) (mantissa2_j62) (exp3_j62) (neg4_j62) (trunc5_j62) (hex6_j62) (i7_j62) (ok8_j62) (underscores9_j62) (ndMant16_j62) (dp17_j62) (esign19_j62) (t170_j62) (t172) s K X))
theorem J136_62_eq (env:Env)  (s0_j62 mantissa2_j62 exp3_j62 neg4_j62 trunc5_j62 hex6_j62 i7_j62 ok8_j62 underscores9_j62 ndMant16_j62 dp17_j62 esign19_j62 t170_j62:AV) (s:AS) (K:AV->AS->Prop) (X:PV->AS->Prop):J136_62 env  s0_j62 mantissa2_j62 exp3_j62 neg4_j62 trunc5_j62 hex6_j62 i7_j62 ok8_j62 underscores9_j62 ndMant16_j62 dp17_j62 esign19_j62 t170_j62 s K X=cutK (fun fr s=>wpD prog env an136 (subC (bodyC f136) [1,0,1,1,1,1,1,1,1,1,1,1,1,1,1,1,1,1,1,0,1,0,1,1,1,0,1]) (contQ prog env an136 (bodyC f136) [1,0,1,1,1,1,1,1,1,1,1,1,1,1,1,1,1,1,1,0,1,0,1,1,1,0,1] [] (rootQ prog f136 K X)) fr s) [(0,s0_j62),(2,mantissa2_j62),(3,exp3_j62),(4,neg4_j62),(5,trunc5_j62),(6,hex6_j62),(7,i7_j62),(8,ok8_j62),(9,underscores9_j62),(16,ndMant16_j62),(17,dp17_j62),(19,esign19_j62),(170,t170_j62)] s:=by
  unfold J136_62
  simp only [J136_63_eq]
  refine cutK_of ?_
  kernel_rfl
def J136_61 (env:Env)  (s0_j61 mantissa2_j61 exp3_j61 neg4_j61 trunc5_j61 hex6_j61 i7_j61 ok8_j61 underscores9_j61 ndMant16_j61 dp17_j61 esign19_j61:AV) (s:AS) (K:AV->AS->Prop) (X:PV->AS->Prop):Prop :=
 (lock indexD prog 9 s0_j61 i7_j61 fun t170 =>
 (J136_62 env  (s0_j61) (mantissa2_j61) (exp3_j61) (neg4_j61) (trunc5_j61) (hex6_j61) (i7_j61) (ok8_j61) (underscores9_j61) (ndMant16_j61) (dp17_j61) (esign19_j61) (t170) s K X))
theorem J136_61_eq (env:Env)  (s0_j61 mantissa2_j61 exp3_j61 neg4_j61 trunc5_j61 hex6_j61 i7_j61 ok8_j61 underscores9_j61 ndMant16_j61 dp17_j61 esign19_j61:AV) (s:AS) (K:AV->AS->Prop) (X:PV->AS->Prop):J136_61 env  s0_j61 mantissa2_j61 exp3_j61 neg4_j61 trunc5_j61 hex6_j61 i7_j61 ok8_j61 underscores9_j61 ndMant16_j61 dp17_j61 esign19_j61 s K X=cutK (fun fr s=>wpD prog env an136 (subC (bodyC f136) [1,0,1,1,1,1,1,1,1,1,1,1,1,1,1,1,1,1,1,0,1,0,1,1,1]) (contQ prog env an136 (bodyC f136) [1,0,1,1,1,1,1,1,1,1,1,1,1,1,1,1,1,1,1,0,1,0,1,1,1] [] (rootQ prog f136 K X)) fr s) [(0,s0_j61),(2,mantissa2_j61),(3,exp3_j61),(4,neg4_j61),(5,trunc5_j61),(6,hex6_j61),(7,i7_j61),(8,ok8_j61),(9,underscores9_j61),(16,ndMant16_j61),(17,dp17_j61),(19,esign19_j61)] s:=by
  unfold J136_61
  simp only [J136_62_eq]
  refine cutK_of ?_
  kernel_rfl
def J136_60 (env:Env)  (s0_j60 mantissa2_j60 exp3_j60 neg4_j60 trunc5_j60 hex6_j60 i7_j60 ok8_j60 underscores9_j60 ndMant16_j60 dp17_j60:AV) (s:AS) (K:AV->AS->Prop) (X:PV->AS->Prop):Prop :=
 (J136_61 env  (s0_j60) (mantissa2_j60) (exp3_j60) (neg4_j60) (trunc5_j60) (hex6_j60) (i7_j60) (ok8_j60) (underscores9_j60) (ndMant16_j60) (dp17_j60) (.pv (.int .i64 1)) s K X)
theorem J136_60_eq (env:Env)  (s0_j60 mantissa2_j60 exp3_j60 neg4_j60 trunc5_j60 hex6_j60 i7_j60 ok8_j60 underscores9_j60 ndMant16_j60 dp17_j60:AV) (s:AS) (K:AV->AS->Prop) (X:PV->AS->Prop):J136_60 env  s0_j60 mantissa2_j60 exp3_j60 neg4_j60 trunc5_j60 hex6_j60 i7_j60 ok8_j60 underscores9_j60 ndMant16_j60 dp17_j60 s K X=cutK (fun fr s=>wpD prog env an136 (subC (bodyC f136) [1,0,1,1,1,1,1,1,1,1,1,1,1,1,1,1,1,1,1,0,1,0,1,1]) (contQ prog env an136 (bodyC f136) [1,0,1,1,1,1,1,1,1,1,1,1,1,1,1,1,1,1,1,0,1,0,1,1] [] (rootQ prog f136 K X)) fr s) [(0,s0_j60),(2,mantissa2_j60),(3,exp3_j60),(4,neg4_j60),(5,trunc5_j60),(6,hex6_j60),(7,i7_j60),(8,ok8_j60),(9,underscores9_j60),(16,ndMant16_j60),(17,dp17_j60)] s:=by
  unfold J136_60
  simp only [J136_61_eq]
  refine cutK_of ?_
  kernel_rfl
def J136_59 (env:Env)  (s0_j59 mantissa2_j59 exp3_j59 neg4_j59 trunc5_j59 hex6_j59 i7_j59 ok8_j59 underscores9_j59 ndMant16_j59 dp17_j59:AV) (s:AS) (K:AV->AS->Prop) (X:PV->AS->Prop):Prop :=
 (lock lenD prog 9 s0_j59 fun t166 =>
 (lock binD prog .geq 3 i7_j59 t166 fun t167 =>
 (condD t167
 (retV (.tuple [mantissa2_j59,exp3_j59,neg4_j59,trunc5_j59,hex6_j59,i7_j59,ok8_j59]) s K)
 (J136_60 env  (s0_j59) (mantissa2_j59) (exp3_j59) (neg4_j59) (trunc5_j59) (hex6_j59) (i7_j59) (ok8_j59) (underscores9_j59) (ndMant16_j59) (dp17_j59) s K X))))
theorem J136_59_eq (env:Env)  (s0_j59 mantissa2_j59 exp3_j59 neg4_j59 trunc5_j59 hex6_j59 i7_j59 ok8_j59 underscores9_j59 ndMant16_j59 dp17_j59:AV) (s:AS) (K:AV->AS->Prop) (X:PV->AS->Prop):J136_59 env  s0_j59 mantissa2_j59 exp3_j59 neg4_j59 trunc5_j59 hex6_j59 i7_j59 ok8_j59 underscores9_j59 ndMant16_j59 dp17_j59 s K X=cutK (fun fr s=>wpD prog env an136 (subC (bodyC f136) [1,0,1,1,1,1,1,1,1,1,1,1,1,1,1,1,1,1,1,0,1,0,1]) (contQ prog env an136 (bodyC f136) [1,0,1,1,1,1,1,1,1,1,1,1,1,1,1,1,1,1,1,0,1,0,1] [] (rootQ prog f136 K X)) fr s) [(0,s0_j59),(2,mantissa2_j59),(3,exp3_j59),(4,neg4_j59),(5,trunc5_j59),(6,hex6_j59),(7,i7_j59),(8,ok8_j59),(9,underscores9_j59),(16,ndMant16_j59),(17,dp17_j59)] s:=by
  unfold J136_59
  simp only [J136_60_eq]
  refine cutK_of ?_
  kernel_rfl
def J136_58 (env:Env)  (s0_j58 mantissa2_j58 exp3_j58 neg4_j58 trunc5_j58 hex6_j58 i7_j58 ok8_j58 underscores9_j58 base10_j58 ndMant16_j58 dp17_j58 t161_j58:AV) (s:AS) (K:AV->AS->Prop) (X:PV->AS->Prop):Prop :=
 (condD t161_j58
 (lock binD prog .add 3 i7_j58 (.pv (.int .i64 1)) fun t163 =>
 (J136_59 env  (s0_j58) (mantissa2_j58) (exp3_j58) (neg4_j58) (trunc5_j58) (hex6_j58) (t163) (ok8_j58) (underscores9_j58) (ndMant16_j58) (dp17_j58) s K X))
 (lock binD prog .eql 37 base10_j58 (.pv (.int .u64 16)) fun t239 =>
 (condD t239
 (retV (.tuple [mantissa2_j58,exp3_j58,neg4_j58,trunc5_j58,hex6_j58,i7_j58,ok8_j58]) s K)
 (J136_77 env  (s0_j58) (mantissa2_j58) (exp3_j58) (neg4_j58) (trunc5_j58) (hex6_j58) (i7_j58) (ok8_j58) (underscores9_j58) (ndMant16_j58) (dp17_j58) s K X))))
theorem J136_58_eq (env:Env)  (s0_j58 mantissa2_j58 exp3_j58 neg4_j58 trunc5_j58 hex6_j58 i7_j58 ok8_j58 underscores9_j58 base10_j58 ndMant16_j58 dp17_j58 t161_j58:AV) (s:AS) (K:AV->AS->Prop) (X:PV->AS->Prop):J136_58 env  s0_j58 mantissa2_j58 exp3_j58 neg4_j58 trunc5_j58 hex6_j58 i7_j58 ok8_j58 underscores9_j58 base10_j58 ndMant16_j58 dp17_j58 t161_j58 s K X=cutK (fun fr s=>wpD prog env an136 (subC (bodyC f136) [1,0,1,1,1,1,1,1,1,1,1,1,1,1,1,1,1,1,1,0,1]) (contQ prog env an136 (bodyC f136) [1,0,1,1,1,1,1,1,1,1,1,1,1,1,1,1,1,1,1,0,1] [] (rootQ prog f136 K X)) fr s) [(0,s0_j58),(2,mantissa2_j58),(3,exp3_j58),(4,neg4_j58),(5,trunc5_j58),(6,hex6_j58),(7,i7_j58),(8,ok8_j58),(9,underscores9_j58),(10,base10_j58),(16,ndMant16_j58),(17,dp17_j58),(161,t161_j58)] s:=by
  unfold J136_58
  simp only [J136_77_eq,J136_59_eq]
  refine cutK_of ?_
  kernel_rfl
def J136_57 (env:Env)  (s0_j57 mantissa2_j57 exp3_j57 neg4_j57 trunc5_j57 hex6_j57 i7_j57 ok8_j57 underscores9_j57 base10_j57 expChar12_j57 ndMant16_j57 dp17_j57:AV) (s:AS) (K:AV->AS->Prop) (X:PV->AS->Prop):Prop :=
 (lock lenD prog 9 s0_j57 fun t152 =>
 (lock binD prog .lss 3 i7_j57 t152 fun t153 =>
 (guardD t153 true
 (lock indexD prog 9 s0_j57 i7_j57 fun t157 =>
 (env 170 [t157] s (fun t158 s3 =>
 (lock binD prog .eql 5 t158 expChar12_j57 fun t160 =>
 (J136_58 env  (s0_j57) (mantissa2_j57) (exp3_j57) (neg4_j57) (trunc5_j57) (hex6_j57) (i7_j57) (ok8_j57) (underscores9_j57) (base10_j57) (ndMant16_j57) (dp17_j57) (t160) s3 K X))) (panV X)))
 (J136_58 env  (s0_j57) (mantissa2_j57) (exp3_j57) (neg4_j57) (trunc5_j57) (hex6_j57) (i7_j57) (ok8_j57) (underscores9_j57) (base10_j57) (ndMant16_j57) (dp17_j57) (.pv (.bool false)) s K X))))
theorem J136_57_eq (env:Env)  (s0_j57 mantissa2_j57 exp3_j57 neg4_j57 trunc5_j57 hex6_j57 i7_j57 ok8_j57 underscores9_j57 base10_j57 expChar12_j57 ndMant16_j57 dp17_j57:AV) (s:AS) (K:AV->AS->Prop) (X:PV->AS->Prop):J136_57 env  s0_j57 mantissa2_j57 exp3_j57 neg4_j57 trunc5_j57 hex6_j57 i7_j57 ok8_j57 underscores9_j57 base10_j57 expChar12_j57 ndMant16_j57 dp17_j57 s K X=cutK (fun fr s=>wpD prog env an136 (subC (bodyC f136) [1,0,1,1,1,1,1,1,1,1,1,1,1,1,1,1,1,1,1]) (contQ prog env an136 (bodyC f136) [1,0,1,1,1,1,1,1,1,1,1,1,1,1,1,1,1,1,1] [] (rootQ prog f136 K X)) fr s) [(0,s0_j57),(2,mantissa2_j57),(3,exp3_j57),(4,neg4_j57),(5,trunc5_j57),(6,hex6_j57),(7,i7_j57),(8,ok8_j57),(9,underscores9_j57),(10,base10_j57),(12,expChar12_j57),(16,ndMant16_j57),(17,dp17_j57)] s:=by
  unfold J136_57
  simp only [J136_58_eq]
  refine cutK_of ?_
  kernel_rfl
def J136_55 (env:Env)  (s0_j55 mantissa2_j55 exp3_j55 neg4_j55 trunc5_j55 hex6_j55 i7_j55 ok8_j55 underscores9_j55 base10_j55 expChar12_j55 ndMant16_j55 dp17_j55 t145_j55:AV) (s:AS) (K:AV->AS->Prop) (X:PV->AS->Prop):Prop :=
 (condD t145_j55
 (lock binD prog .mul 3 dp17_j55 (.pv (.int .i64 4)) fun t147 =>
 (lock binD prog .mul 3 ndMant16_j55 (.pv (.int .i64 4)) fun t149 =>
 (J136_57 env  (s0_j55) (mantissa2_j55) (exp3_j55) (neg4_j55) (trunc5_j55) (hex6_j55) (i7_j55) (ok8_j55) (underscores9_j55) (base10_j55) (expChar12_j55) (t149) (t147) s K X)))
 (J136_57 env  (s0_j55) (mantissa2_j55) (exp3_j55) (neg4_j55) (trunc5_j55) (hex6_j55) (i7_j55) (ok8_j55) (underscores9_j55) (base10_j55) (expChar12_j55) (ndMant16_j55) (dp17_j55) s K X))
theorem J136_55_eq (env:Env)  (s0_j55 mantissa2_j55 exp3_j55 neg4_j55 trunc5_j55 hex6_j55 i7_j55 ok8_j55 underscores9_j55 base10_j55 expChar12_j55 ndMant16_j55 dp17_j55 t145_j55:AV) (s:AS) (K:AV->AS->Prop) (X:PV->AS->Prop):J136_55 env  s0_j55 mantissa2_j55 exp3_j55 neg4_j55 trunc5_j55 hex6_j55 i7_j55 ok8_j55 underscores9_j55 base10_j55 expChar12_j55 ndMant16_j55 dp17_j55 t145_j55 s K X=cutK (fun fr s=>wpD prog env an136 (subC (bodyC f136) [1,0,1,1,1,1,1,1,1,1,1,1,1,1,1,1,1,1,0,1]) (contQ prog env an136 (bodyC f136) [1,0,1,1,1,1,1,1,1,1,1,1,1,1,1,1,1,1,0,1] [] (rootQ prog f136 K X)) fr s) [(0,s0_j55),(2,mantissa2_j55),(3,exp3_j55),(4,neg4_j55),(5,trunc5_j55),(6,hex6_j55),(7,i7_j55),(8,ok8_j55),(9,underscores9_j55),(10,base10_j55),(12,expChar12_j55),(16,ndMant16_j55),(17,dp17_j55),(145,t145_j55)] s:=by
  unfold J136_55
  simp only [J136_57_eq]
  refine cutK_of ?_
  kernel_rfl
def J136_54 (env:Env)  (s0_j54 mantissa2_j54 exp3_j54 neg4_j54 trunc5_j54 hex6_j54 i7_j54 ok8_j54 underscores9_j54 base10_j54 expChar12_j54 ndMant16_j54 dp17_j54:AV) (s:AS) (K:AV->AS->Prop) (X:PV->AS->Prop):Prop :=
 (lock binD prog .eql 37 base10_j54 (.pv (.int .u64 16)) fun t145 =>
 (J136_55 env  (s0_j54) (mantissa2_j54) (exp3_j54) (neg4_j54) (trunc5_j54) (hex6_j54) (i7_j54) (ok8_j54) (underscores9_j54) (base10_j54) (expChar12_j54) (ndMant16_j54) (dp17_j54) (t145) s K X))
theorem J136_54_eq (env:Env)  (s0_j54 mantissa2_j54 exp3_j54 neg4_j54 trunc5_j54 hex6_j54 i7_j54 ok8_j54 underscores9_j54 base10_j54 expChar12_j54 ndMant16_j54 dp17_j54:AV) (s:AS) (K:AV->AS->Prop) (X:PV->AS->Prop):J136_54 env  s0_j54 mantissa2_j54 exp3_j54 neg4_j54 trunc5_j54 hex6_j54 i7_j54 ok8_j54 underscores9_j54 base10_j54 expChar12_j54 ndMant16_j54 dp17_j54 s K X=cutK (fun fr s=>wpD prog env an136 (subC (bodyC f136) [1,0,1,1,1,1,1,1,1,1,1,1,1,1,1,1,1,1]) (contQ prog env an136 (bodyC f136) [1,0,1,1,1,1,1,1,1,1,1,1,1,1,1,1,1,1] [] (rootQ prog f136 K X)) fr s) [(0,s0_j54),(2,mantissa2_j54),(3,exp3_j54),(4,neg4_j54),(5,trunc5_j54),(6,hex6_j54),(7,i7_j54),(8,ok8_j54),(9,underscores9_j54),(10,base10_j54),(12,expChar12_j54),(16,ndMant16_j54),(17,dp17_j54)] s:=by
  unfold J136_54
  simp only [J136_55_eq]
  refine cutK_of ?_
  kernel_rfl
def J136_52 (env:Env)  (s0_j52 mantissa2_j52 exp3_j52 neg4_j52 trunc5_j52 hex6_j52 i7_j52 ok8_j52 underscores9_j52 base10_j52 expChar12_j52 sawdot13_j52 nd15_j52 ndMant16_j52 dp17_j52:AV) (s:AS) (K:AV->AS->Prop) (X:PV->AS->Prop):Prop :=
 (unD .not sawdot13_j52 fun t142 =>
 (condD t142
 (J136_54 env  (s0_j52) (mantissa2_j52) (exp3_j52) (neg4_j52) (trunc5_j52) (hex6_j52) (i7_j52) (ok8_j52) (underscores9_j52) (base10_j52) (expChar12_j52) (ndMant16_j52) (nd15_j52) s K X)
 (J136_54 env  (s0_j52) (mantissa2_j52) (exp3_j52) (neg4_j52) (trunc5_j52) (hex6_j52) (i7_j52) (ok8_j52) (underscores9_j52) (base10_j52) (expChar12_j52) (ndMant16_j52) (dp17_j52) s K X)))
theorem J136_52_eq (env:Env)  (s0_j52 mantissa2_j52 exp3_j52 neg4_j52 trunc5_j52 hex6_j52 i7_j52 ok8_j52 underscores9_j52 base10_j52 expChar12_j52 sawdot13_j52 nd15_j52 ndMant16_j52 dp17_j52:AV) (s:AS) (K:AV->AS->Prop) (X:PV->AS->Prop):J136_52 env  s0_j52 mantissa2_j52 exp3_j52 neg4_j52 trunc5_j52 hex6_j52 i7_j52 ok8_j52 underscores9_j52 base10_j52 expChar12_j52 sawdot13_j52 nd15_j52 ndMant16_j52 dp17_j52 s K X=cutK (fun fr s=>wpD prog env an136 (subC (bodyC f136) [1,0,1,1,1,1,1,1,1,1,1,1,1,1,1,1,1]) (contQ prog env an136 (bodyC f136) [1,0,1,1,1,1,1,1,1,1,1,1,1,1,1,1,1] [] (rootQ prog f136 K X)) fr s) [(0,s0_j52),(2,mantissa2_j52),(3,exp3_j52),(4,neg4_j52),(5,trunc5_j52),(6,hex6_j52),(7,i7_j52),(8,ok8_j52),(9,underscores9_j52),(10,base10_j52),(12,expChar12_j52),(13,sawdot13_j52),(15,nd15_j52),(16,ndMant16_j52),(17,dp17_j52)] s:=by
  unfold J136_52
  simp only [J136_54_eq]
  refine cutK_of ?_
  kernel_rfl
def J136_51 (env:Env)  (s0_j51 mantissa2_j51 exp3_j51 neg4_j51 trunc5_j51 hex6_j51 i7_j51 ok8_j51 underscores9_j51 base10_j51 expChar12_j51 sawdot13_j51 sawdigits14_j51 nd15_j51 ndMant16_j51 dp17_j51:AV) (s:AS) (K:AV->AS->Prop) (X:PV->AS->Prop):Prop :=
 (unD .not sawdigits14_j51 fun t140 =>
 (condD t140
 (retV (.tuple [mantissa2_j51,exp3_j51,neg4_j51,trunc5_j51,hex6_j51,i7_j51,ok8_j51]) s K)
 (J136_52 env  (s0_j51) (mantissa2_j51) (exp3_j51) (neg4_j51) (trunc5_j51) (hex6_j51) (i7_j51) (ok8_j51) (underscores9_j51) (base10_j51) (expChar12_j51) (sawdot13_j51) (nd15_j51) (ndMant16_j51) (dp17_j51) s K X)))
theorem J136_51_eq (env:Env)  (s0_j51 mantissa2_j51 exp3_j51 neg4_j51 trunc5_j51 hex6_j51 i7_j51 ok8_j51 underscores9_j51 base10_j51 expChar12_j51 sawdot13_j51 sawdigits14_j51 nd15_j51 ndMant16_j51 dp17_j51:AV) (s:AS) (K:AV->AS->Prop) (X:PV->AS->Prop):J136_51 env  s0_j51 mantissa2_j51 exp3_j51 neg4_j51 trunc5_j51 hex6_j51 i7_j51 ok8_j51 underscores9_j51 base10_j51 expChar12_j51 sawdot13_j51 sawdigits14_j51 nd15_j51 ndMant16_j51 dp17_j51 s K X=cutK (fun fr s=>wpD prog env an136 (subC (bodyC f136) [1,0,1,1,1,1,1,1,1,1,1,1,1,1,1,1]) (contQ prog env an136 (bodyC f136) [1,0,1,1,1,1,1,1,1,1,1,1,1,1,1,1] [] (rootQ prog f136 K X)) fr s) [(0,s0_j51),(2,mantissa2_j51),(3,exp3_j51),(4,neg4_j51),(5,trunc5_j51),(6,hex6_j51),(7,i7_j51),(8,ok8_j51),(9,underscores9_j51),(10,base10_j51),(12,expChar12_j51),(13,sawdot13_j51),(14,sawdigits14_j51),(15,nd15_j51),(16,ndMant16_j51),(17,dp17_j51)] s:=by
  unfold J136_51
  simp only [J136_52_eq]
  refine cutK_of ?_
  kernel_rfl
def J136_39 (env:Env) (I23:Nat->List AV->AS->Prop) (m23:Nat) (s0_j39 mantissa2_j39 exp3_j39 neg4_j39 trunc5_j39 hex6_j39 i7_j39 ok8_j39 underscores9_j39 base10_j39 maxMantDigits11_j39 expChar12_j39 sawdot13_j39 sawdigits14_j39 nd15_j39 ndMant16_j39 dp17_j39 c18_j39:AV) (s:AS) (K:AV->AS->Prop) (X:PV->AS->Prop):Prop :=
 (lock binD prog .sub 5 c18_j39 (.pv (.int .u8 48)) fun t102 =>
 (lock convD prog s 5 37 t102 fun t103 =>
 (lock binD prog .add 37 mantissa2_j39 t103 fun t104 =>
 (lock binD prog .add 3 ndMant16_j39 (.pv (.int .i64 1)) fun t106 =>
 (lock binD prog .add 3 i7_j39 (.pv (.int .i64 1)) fun t62 =>
 (∃ m',m' < m23/\I23 m' [s0_j39,t104,exp3_j39,neg4_j39,trunc5_j39,hex6_j39,t62,ok8_j39,underscores9_j39,base10_j39,maxMantDigits11_j39,expChar12_j39,sawdot13_j39,sawdigits14_j39,nd15_j39,t106,dp17_j39] s))))))
theorem J136_39_eq (env:Env) (I23:Nat->List AV->AS->Prop) (m23:Nat) (s0_j39 mantissa2_j39 exp3_j39 neg4_j39 trunc5_j39 hex6_j39 i7_j39 ok8_j39 underscores9_j39 base10_j39 maxMantDigits11_j39 expChar12_j39 sawdot13_j39 sawdigits14_j39 nd15_j39 ndMant16_j39 dp17_j39 c18_j39:AV) (s:AS) (K:AV->AS->Prop) (X:PV->AS->Prop):J136_39 env I23 m23 s0_j39 mantissa2_j39 exp3_j39 neg4_j39 trunc5_j39 hex6_j39 i7_j39 ok8_j39 underscores9_j39 base10_j39 maxMantDigits11_j39 expChar12_j39 sawdot13_j39 sawdigits14_j39 nd15_j39 ndMant16_j39 dp17_j39 c18_j39 s K X=cutK (fun fr s=>wpD prog env an136 (subC (bodyC f136) [1,0,1,1,1,1,1,1,1,1,1,1,1,1,1,0,0,0,1,0,0,0,1,0,1,1,1,1,1,0,1,1,1,0,1,0,1]) (contQ prog env an136 (bodyC f136) [1,0,1,1,1,1,1,1,1,1,1,1,1,1,1,0,0,0,1,0,0,0,1,0,1,1,1,1,1,0,1,1,1,0,1,0,1] [(I23,m23)] (rootQ prog f136 K X)) fr s) [(0,s0_j39),(2,mantissa2_j39),(3,exp3_j39),(4,neg4_j39),(5,trunc5_j39),(6,hex6_j39),(7,i7_j39),(8,ok8_j39),(9,underscores9_j39),(10,base10_j39),(11,maxMantDigits11_j39),(12,expChar12_j39),(13,sawdot13_j39),(14,sawdigits14_j39),(15,nd15_j39),(16,ndMant16_j39),(17,dp17_j39),(18,c18_j39)] s:=by
  unfold J136_39
  refine cutK_of ?_
  kernel_rfl
def J136_38 (env:Env) (I23:Nat->List AV->AS->Prop) (m23:Nat) (s0_j38 mantissa2_j38 exp3_j38 neg4_j38 trunc5_j38 hex6_j38 i7_j38 ok8_j38 underscores9_j38 base10_j38 maxMantDigits11_j38 expChar12_j38 sawdot13_j38 sawdigits14_j38 nd15_j38 ndMant16_j38 dp17_j38 c18_j38 t96_j38:AV) (s:AS) (K:AV->AS->Prop) (X:PV->AS->Prop):Prop :=
 (condD t96_j38
 (lock binD prog .mul 37 mantissa2_j38 base10_j38 fun t99 =>
 (J136_39 env I23 m23 (s0_j38) (t99) (exp3_j38) (neg4_j38) (trunc5_j38) (hex6_j38) (i7_j38) (ok8_j38) (underscores9_j38) (base10_j38) (maxMantDigits11_j38) (expChar12_j38) (sawdot13_j38) (sawdigits14_j38) (nd15_j38) (ndMant16_j38) (dp17_j38) (c18_j38) s K X))
 (lock binD prog .neq 5 c18_j38 (.pv (.int .u8 48)) fun t108 =>
 (condD t108
 (lock binD prog .add 3 i7_j38 (.pv (.int .i64 1)) fun t62 =>
 (∃ m',m' < m23/\I23 m' [s0_j38,mantissa2_j38,exp3_j38,neg4_j38,(.pv (.bool true)),hex6_j38,t62,ok8_j38,underscores9_j38,base10_j38,maxMantDigits11_j38,expChar12_j38,sawdot13_j38,sawdigits14_j38,nd15_j38,ndMant16_j38,dp17_j38] s))
 (lock binD prog .add 3 i7_j38 (.pv (.int .i64 1)) fun t62 =>
 (∃ m',m' < m23/\I23 m' [s0_j38,mantissa2_j38,exp3_j38,neg4_j38,trunc5_j38,hex6_j38,t62,ok8_j38,underscores9_j38,base10_j38,maxMantDigits11_j38,expChar12_j38,sawdot13_j38,sawdigits14_j38,nd15_j38,ndMant16_j38,dp17_j38] s)))))
theorem J136_38_eq (env:Env) (I23:Nat->List AV->AS->Prop) (m23:Nat) (s0_j38 mantissa2_j38 exp3_j38 neg4_j38 trunc5_j38 hex6_j38 i7_j38 ok8_j38 underscores9_j38 base10_j38 maxMantDigits11_j38 expChar12_j38 sawdot13_j38 sawdigits14_j38 nd15_j38 ndMant16_j38 dp17_j38 c18_j38 t96_j38:AV) (s:AS) (K:AV->AS->Prop) (X:PV->AS->Prop):J136_38 env I23 m23 s0_j38 mantissa2_j38 exp3_j38 neg4_j38 trunc5_j38 hex6_j38 i7_j38 ok8_j38 underscores9_j38 base10_j38 maxMantDigits11_j38 expChar12_j38 sawdot13_j38 sawdigits14_j38 nd15_j38 ndMant16_j38 dp17_j38 c18_j38 t96_j38 s K X=cutK (fun fr s=>wpD prog env an136 (subC (bodyC f136) [1,0,1,1,1,1,1,1,1,1,1,1,1,1,1,0,0,0,1,0,0,0,1,0,1,1,1,1,1,0,1,1,1,0,1]) (contQ prog env an136 (bodyC f136) [1,0,1,1,1,1,1,1,1,1,1,1,1,1,1,0,0,0,1,0,0,0,1,0,1,1,1,1,1,0,1,1,1,0,1] [(I23,m23)] (rootQ prog f136 K X)) fr s) [(0,s0_j38),(2,mantissa2_j38),(3,exp3_j38),(4,neg4_j38),(5,trunc5_j38),(6,hex6_j38),(7,i7_j38),(8,ok8_j38),(9,underscores9_j38),(10,base10_j38),(11,maxMantDigits11_j38),(12,expChar12_j38),(13,sawdot13_j38),(14,sawdigits14_j38),(15,nd15_j38),(16,ndMant16_j38),(17,dp17_j38),(18,c18_j38),(96,t96_j38)] s:=by
  unfold J136_38
  simp only [J136_39_eq]
  refine cutK_of ?_
  kernel_rfl
def J136_37 (env:Env) (I23:Nat->List AV->AS->Prop) (m23:Nat) (s0_j37 mantissa2_j37 exp3_j37 neg4_j37 trunc5_j37 hex6_j37 i7_j37 ok8_j37 underscores9_j37 base10_j37 maxMantDigits11_j37 expChar12_j37 sawdot13_j37 sawdigits14_j37 nd15_j37 ndMant16_j37 dp17_j37 c18_j37:AV) (s:AS) (K:AV->AS->Prop) (X:PV->AS->Prop):Prop :=
 (lock binD prog .lss 3 ndMant16_j37 maxMantDigits11_j37 fun t96 =>
 (J136_38 env I23 m23 (s0_j37) (mantissa2_j37) (exp3_j37) (neg4_j37) (trunc5_j37) (hex6_j37) (i7_j37) (ok8_j37) (underscores9_j37) (base10_j37) (maxMantDigits11_j37) (expChar12_j37) (sawdot13_j37) (sawdigits14_j37) (nd15_j37) (ndMant16_j37) (dp17_j37) (c18_j37) (t96) s K X))
theorem J136_37_eq (env:Env) (I23:Nat->List AV->AS->Prop) (m23:Nat) (s0_j37 mantissa2_j37 exp3_j37 neg4_j37 trunc5_j37 hex6_j37 i7_j37 ok8_j37 underscores9_j37 base10_j37 maxMantDigits11_j37 expChar12_j37 sawdot13_j37 sawdigits14_j37 nd15_j37 ndMant16_j37 dp17_j37 c18_j37:AV) (s:AS) (K:AV->AS->Prop) (X:PV->AS->Prop):J136_37 env I23 m23 s0_j37 mantissa2_j37 exp3_j37 neg4_j37 trunc5_j37 hex6_j37 i7_j37 ok8_j37 underscores9_j37 base10_j37 maxMantDigits11_j37 expChar12_j37 sawdot13_j37 sawdigits14_j37 nd15_j37 ndMant16_j37 dp17_j37 c18_j37 s K X=cutK (fun fr s=>wpD prog env an136 (subC (bodyC f136) [1,0,1,1,1,1,1,1,1,1,1,1,1,1,1,0,0,0,1,0,0,0,1,0,1,1,1,1,1,0,1,1,1]) (contQ prog env an136 (bodyC f136) [1,0,1,1,1,1,1,1,1,1,1,1,1,1,1,0,0,0,1,0,0,0,1,0,1,1,1,1,1,0,1,1,1] [(I23,m23)] (rootQ prog f136 K X)) fr s) [(0,s0_j37),(2,mantissa2_j37),(3,exp3_j37),(4,neg4_j37),(5,trunc5_j37),(6,hex6_j37),(7,i7_j37),(8,ok8_j37),(9,underscores9_j37),(10,base10_j37),(11,maxMantDigits11_j37),(12,expChar12_j37),(13,sawdot13_j37),(14,sawdigits14_j37),(15,nd15_j37),(16,ndMant16_j37),(17,dp17_j37),(18,c18_j37)] s:=by
  unfold J136_37
  simp only [J136_38_eq]
  refine cutK_of ?_
  kernel_rfl
def J136_36 (env:Env) (I23:Nat->List AV->AS->Prop) (m23:Nat) (s0_j36 mantissa2_j36 exp3_j36 neg4_j36 trunc5_j36 hex6_j36 i7_j36 ok8_j36 underscores9_j36 base10_j36 maxMantDigits11_j36 expChar12_j36 sawdot13_j36 sawdigits14_j36 nd15_j36 ndMant16_j36 dp17_j36 c18_j36:AV) (s:AS) (K:AV->AS->Prop) (X:PV->AS->Prop):Prop :=
 (lock binD prog .add 3 nd15_j36 (.pv (.int .i64 1)) fun t93 =>
 (J136_37 env I23 m23 (s0_j36) (mantissa2_j36) (exp3_j36) (neg4_j36) (trunc5_j36) (hex6_j36) (i7_j36) (ok8_j36) (underscores9_j36) (base10_j36) (maxMantDigits11_j36) (expChar12_j36) (sawdot13_j36) (sawdigits14_j36) (t93) (ndMant16_j36) (dp17_j36) (c18_j36) s K X))
theorem J136_36_eq (env:Env) (I23:Nat->List AV->AS->Prop) (m23:Nat) (s0_j36 mantissa2_j36 exp3_j36 neg4_j36 trunc5_j36 hex6_j36 i7_j36 ok8_j36 underscores9_j36 base10_j36 maxMantDigits11_j36 expChar12_j36 sawdot13_j36 sawdigits14_j36 nd15_j36 ndMant16_j36 dp17_j36 c18_j36:AV) (s:AS) (K:AV->AS->Prop) (X:PV->AS->Prop):J136_36 env I23 m23 s0_j36 mantissa2_j36 exp3_j36 neg4_j36 trunc5_j36 hex6_j36 i7_j36 ok8_j36 underscores9_j36 base10_j36 maxMantDigits11_j36 expChar12_j36 sawdot13_j36 sawdigits14_j36 nd15_j36 ndMant16_j36 dp17_j36 c18_j36 s K X=cutK (fun fr s=>wpD prog env an136 (subC (bodyC f136) [1,0,1,1,1,1,1,1,1,1,1,1,1,1,1,0,0,0,1,0,0,0,1,0,1,1,1,1,1,0,1,1]) (contQ prog env an136 (bodyC f136) [1,0,1,1,1,1,1,1,1,1,1,1,1,1,1,0,0,0,1,0,0,0,1,0,1,1,1,1,1,0,1,1] [(I23,m23)] (rootQ prog f136 K X)) fr s) [(0,s0_j36),(2,mantissa2_j36),(3,exp3_j36),(4,neg4_j36),(5,trunc5_j36),(6,hex6_j36),(7,i7_j36),(8,ok8_j36),(9,underscores9_j36),(10,base10_j36),(11,maxMantDigits11_j36),(12,expChar12_j36),(13,sawdot13_j36),(14,sawdigits14_j36),(15,nd15_j36),(16,ndMant16_j36),(17,dp17_j36),(18,c18_j36)] s:=by
  unfold J136_36
  simp only [J136_37_eq]
  refine cutK_of ?_
  kernel_rfl
def J136_34 (env:Env) (I23:Nat->List AV->AS->Prop) (m23:Nat) (s0_j34 mantissa2_j34 exp3_j34 neg4_j34 trunc5_j34 hex6_j34 i7_j34 ok8_j34 underscores9_j34 base10_j34 maxMantDigits11_j34 expChar12_j34 sawdot13_j34 sawdigits14_j34 nd15_j34 ndMant16_j34 dp17_j34 c18_j34:AV) (s:AS) (K:AV->AS->Prop) (X:PV->AS->Prop):Prop :=
 (lock binD prog .eql 5 c18_j34 (.pv (.int .u8 48)) fun t85 =>
 (guardD t85 true
 (lock binD prog .eql 3 nd15_j34 (.pv (.int .i64 0)) fun t88 =>
 (condD t88
 (lock binD prog .sub 3 dp17_j34 (.pv (.int .i64 1)) fun t91 =>
 (lock binD prog .add 3 i7_j34 (.pv (.int .i64 1)) fun t62 =>
 (∃ m',m' < m23/\I23 m' [s0_j34,mantissa2_j34,exp3_j34,neg4_j34,trunc5_j34,hex6_j34,t62,ok8_j34,underscores9_j34,base10_j34,maxMantDigits11_j34,expChar12_j34,sawdot13_j34,sawdigits14_j34,nd15_j34,ndMant16_j34,t91] s)))
 (J136_36 env I23 m23 (s0_j34) (mantissa2_j34) (exp3_j34) (neg4_j34) (trunc5_j34) (hex6_j34) (i7_j34) (ok8_j34) (underscores9_j34) (base10_j34) (maxMantDigits11_j34) (expChar12_j34) (sawdot13_j34) (sawdigits14_j34) (nd15_j34) (ndMant16_j34) (dp17_j34) (c18_j34) s K X)))
 (J136_36 env I23 m23 (s0_j34) (mantissa2_j34) (exp3_j34) (neg4_j34) (trunc5_j34) (hex6_j34) (i7_j34) (ok8_j34) (underscores9_j34) (base10_j34) (maxMantDigits11_j34) (expChar12_j34) (sawdot13_j34) (sawdigits14_j34) (nd15_j34) (ndMant16_j34) (dp17_j34) (c18_j34) s K X)))
theorem J136_34_eq (env:Env) (I23:Nat->List AV->AS->Prop) (m23:Nat) (s0_j34 mantissa2_j34 exp3_j34 neg4_j34 trunc5_j34 hex6_j34 i7_j34 ok8_j34 underscores9_j34 base10_j34 maxMantDigits11_j34 expChar12_j34 sawdot13_j34 sawdigits14_j34 nd15_j34 ndMant16_j34 dp17_j34 c18_j34:AV) (s:AS) (K:AV->AS->Prop) (X:PV->AS->Prop):J136_34 env I23 m23 s0_j34 mantissa2_j34 exp3_j34 neg4_j34 trunc5_j34 hex6_j34 i7_j34 ok8_j34 underscores9_j34 base10_j34 maxMantDigits11_j34 expChar12_j34 sawdot13_j34 sawdigits14_j34 nd15_j34 ndMant16_j34 dp17_j34 c18_j34 s K X=cutK (fun fr s=>wpD prog env an136 (subC (bodyC f136) [1,0,1,1,1,1,1,1,1,1,1,1,1,1,1,0,0,0,1,0,0,0,1,0,1,1,1,1,1,0,1]) (contQ prog env an136 (bodyC f136) [1,0,1,1,1,1,1,1,1,1,1,1,1,1,1,0,0,0,1,0,0,0,1,0,1,1,1,1,1,0,1] [(I23,m23)] (rootQ prog f136 K X)) fr s) [(0,s0_j34),(2,mantissa2_j34),(3,exp3_j34),(4,neg4_j34),(5,trunc5_j34),(6,hex6_j34),(7,i7_j34),(8,ok8_j34),(9,underscores9_j34),(10,base10_j34),(11,maxMantDigits11_j34),(12,expChar12_j34),(13,sawdot13_j34),(14,sawdigits14_j34),(15,nd15_j34),(16,ndMant16_j34),(17,dp17_j34),(18,c18_j34)] s:=by
  unfold J136_34
  simp only [J136_36_eq]
  refine cutK_of ?_
  kernel_rfl
def J136_48 (env:Env) (I23:Nat->List AV->AS->Prop) (m23:Nat) (s0_j48 mantissa2_j48 exp3_j48 neg4_j48 trunc5_j48 hex6_j48 i7_j48 ok8_j48 underscores9_j48 base10_j48 maxMantDigits11_j48 expChar12_j48 sawdot13_j48 sawdigits14_j48 nd15_j48 ndMant16_j48 dp17_j48 c18_j48:AV) (s:AS) (K:AV->AS->Prop) (X:PV->AS->Prop):Prop :=
 (env 170 [c18_j48] s (fun t132 s8 =>
 (lock binD prog .sub 5 t132 (.pv (.int .u8 97)) fun t133 =>
 (lock binD prog .add 5 t133 (.pv (.int .u8 10)) fun t134 =>
 (lock convD prog s8 5 37 t134 fun t135 =>
 (lock binD prog .add 37 mantissa2_j48 t135 fun t136 =>
 (lock binD prog .add 3 ndMant16_j48 (.pv (.int .i64 1)) fun t138 =>
 (lock binD prog .add 3 i7_j48 (.pv (.int .i64 1)) fun t62 =>
 (∃ m',m' < m23/\I23 m' [s0_j48,t136,exp3_j48,neg4_j48,trunc5_j48,hex6_j48,t62,ok8_j48,underscores9_j48,base10_j48,maxMantDigits11_j48,expChar12_j48,sawdot13_j48,sawdigits14_j48,nd15_j48,t138,dp17_j48] s8)))))))) (panV X))
theorem J136_48_eq (env:Env) (I23:Nat->List AV->AS->Prop) (m23:Nat) (s0_j48 mantissa2_j48 exp3_j48 neg4_j48 trunc5_j48 hex6_j48 i7_j48 ok8_j48 underscores9_j48 base10_j48 maxMantDigits11_j48 expChar12_j48 sawdot13_j48 sawdigits14_j48 nd15_j48 ndMant16_j48 dp17_j48 c18_j48:AV) (s:AS) (K:AV->AS->Prop) (X:PV->AS->Prop):J136_48 env I23 m23 s0_j48 mantissa2_j48 exp3_j48 neg4_j48 trunc5_j48 hex6_j48 i7_j48 ok8_j48 underscores9_j48 base10_j48 maxMantDigits11_j48 expChar12_j48 sawdot13_j48 sawdigits14_j48 nd15_j48 ndMant16_j48 dp17_j48 c18_j48 s K X=cutK (fun fr s=>wpD prog env an136 (subC (bodyC f136) [1,0,1,1,1,1,1,1,1,1,1,1,1,1,1,0,0,0,1,0,0,0,1,0,1,1,1,1,1,1,1,0,1,1,0,1,0,1]) (contQ prog env an136 (bodyC f136) [1,0,1,1,1,1,1,1,1,1,1,1,1,1,1,0,0,0,1,0,0,0,1,0,1,1,1,1,1,1,1,0,1,1,0,1,0,1] [(I23,m23)] (rootQ prog f136 K X)) fr s) [(0,s0_j48),(2,mantissa2_j48),(3,exp3_j48),(4,neg4_j48),(5,trunc5_j48),(6,hex6_j48),(7,i7_j48),(8,ok8_j48),(9,underscores9_j48),(10,base10_j48),(11,maxMantDigits11_j48),(12,expChar12_j48),(13,sawdot13_j48),(14,sawdigits14_j48),(15,nd15_j48),(16,ndMant16_j48),(17,dp17_j48),(18,c18_j48)] s:=by
  unfold J136_48
  refine cutK_of ?_
  kernel_rfl
def J136_47 (env:Env) (I23:Nat->List AV->AS->Prop) (m23:Nat) (s0_j47 mantissa2_j47 exp3_j47 neg4_j47 trunc5_j47 hex6_j47 i7_j47 ok8_j47 underscores9_j47 base10_j47 maxMantDigits11_j47 expChar12_j47 sawdot13_j47 sawdigits14_j47 nd15_j47 ndMant16_j47 dp17_j47 c18_j47 t127_j47:AV) (s:AS) (K:AV->AS->Prop) (X:PV->AS->Prop):Prop :=
 (condD t127_j47
 (lock binD prog .mul 37 mantissa2_j47 (.pv (.int .u64 16)) fun t129 =>
 (J136_48 env I23 m23 (s0_j47) (t129) (exp3_j47) (neg4_j47) (trunc5_j47) (hex6_j47) (i7_j47) (ok8_j47) (underscores9_j47) (base10_j47) (maxMantDigits11_j47) (expChar12_j47) (sawdot13_j47) (sawdigits14_j47) (nd15_j47) (ndMant16_j47) (dp17_j47) (c18_j47) s K X))
 (lock binD prog .add 3 i7_j47 (.pv (.int .i64 1)) fun t62 =>
 (∃ m',m' < m23/\I23 m' [s0_j47,mantissa2_j47,exp3_j47,neg4_j47,(.pv (.bool true)),hex6_j47,t62,ok8_j47,underscores9_j47,base10_j47,maxMantDigits11_j47,expChar12_j47,sawdot13_j47,sawdigits14_j47,nd15_j47,ndMant16_j47,dp17_j47] s)))
theorem J136_47_eq (env:Env) (I23:Nat->List AV->AS->Prop) (m23:Nat) (s0_j47 mantissa2_j47 exp3_j47 neg4_j47 trunc5_j47 hex6_j47 i7_j47 ok8_j47 underscores9_j47 base10_j47 maxMantDigits11_j47 expChar12_j47 sawdot13_j47 sawdigits14_j47 nd15_j47 ndMant16_j47 dp17_j47 c18_j47 t127_j47:AV) (s:AS) (K:AV->AS->Prop) (X:PV->AS->Prop):J136_47 env I23 m23 s0_j47 mantissa2_j47 exp3_j47 neg4_j47 trunc5_j47 hex6_j47 i7_j47 ok8_j47 underscores9_j47 base10_j47 maxMantDigits11_j47 expChar12_j47 sawdot13_j47 sawdigits14_j47 nd15_j47 ndMant16_j47 dp17_j47 c18_j47 t127_j47 s K X=cutK (fun fr s=>wpD prog env an136 (subC (bodyC f136) [1,0,1,1,1,1,1,1,1,1,1,1,1,1,1,0,0,0,1,0,0,0,1,0,1,1,1,1,1,1,1,0,1,1,0,1]) (contQ prog env an136 (bodyC f136) [1,0,1,1,1,1,1,1,1,1,1,1,1,1,1,0,0,0,1,0,0,0,1,0,1,1,1,1,1,1,1,0,1,1,0,1] [(I23,m23)] (rootQ prog f136 K X)) fr s) [(0,s0_j47),(2,mantissa2_j47),(3,exp3_j47),(4,neg4_j47),(5,trunc5_j47),(6,hex6_j47),(7,i7_j47),(8,ok8_j47),(9,underscores9_j47),(10,base10_j47),(11,maxMantDigits11_j47),(12,expChar12_j47),(13,sawdot13_j47),(14,sawdigits14_j47),(15,nd15_j47),(16,ndMant16_j47),(17,dp17_j47),(18,c18_j47),(127,t127_j47)] s:=by
  unfold J136_47
  simp only [J136_48_eq]
  refine cutK_of ?_
  kernel_rfl
def J136_46 (env:Env) (I23:Nat->List AV->AS->Prop) (m23:Nat) (s0_j46 mantissa2_j46 exp3_j46 neg4_j46 trunc5_j46 hex6_j46 i7_j46 ok8_j46 underscores9_j46 base10_j46 maxMantDigits11_j46 expChar12_j46 sawdot13_j46 sawdigits14_j46 nd15_j46 ndMant16_j46 dp17_j46 c18_j46:AV) (s:AS) (K:AV->AS->Prop) (X:PV->AS->Prop):Prop :=
 (lock binD prog .lss 3 ndMant16_j46 maxMantDigits11_j46 fun t127 =>
 (J136_47 env I23 m23 (s0_j46) (mantissa2_j46) (exp3_j46) (neg4_j46) (trunc5_j46) (hex6_j46) (i7_j46) (ok8_j46) (underscores9_j46) (base10_j46) (maxMantDigits11_j46) (expChar12_j46) (sawdot13_j46) (sawdigits14_j46) (nd15_j46) (ndMant16_j46) (dp17_j46) (c18_j46) (t127) s K X))
theorem J136_46_eq (env:Env) (I23:Nat->List AV->AS->Prop) (m23:Nat) (s0_j46 mantissa2_j46 exp3_j46 neg4_j46 trunc5_j46 hex6_j46 i7_j46 ok8_j46 underscores9_j46 base10_j46 maxMantDigits11_j46 expChar12_j46 sawdot13_j46 sawdigits14_j46 nd15_j46 ndMant16_j46 dp17_j46 c18_j46:AV) (s:AS) (K:AV->AS->Prop) (X:PV->AS->Prop):J136_46 env I23 m23 s0_j46 mantissa2_j46 exp3_j46 neg4_j46 trunc5_j46 hex6_j46 i7_j46 ok8_j46 underscores9_j46 base10_j46 maxMantDigits11_j46 expChar12_j46 sawdot13_j46 sawdigits14_j46 nd15_j46 ndMant16_j46 dp17_j46 c18_j46 s K X=cutK (fun fr s=>wpD prog env an136 (subC (bodyC f136) [1,0,1,1,1,1,1,1,1,1,1,1,1,1,1,0,0,0,1,0,0,0,1,0,1,1,1,1,1,1,1,0,1,1]) (contQ prog env an136 (bodyC f136) [1,0,1,1,1,1,1,1,1,1,1,1,1,1,1,0,0,0,1,0,0,0,1,0,1,1,1,1,1,1,1,0,1,1] [(I23,m23)] (rootQ prog f136 K X)) fr s) [(0,s0_j46),(2,mantissa2_j46),(3,exp3_j46),(4,neg4_j46),(5,trunc5_j46),(6,hex6_j46),(7,i7_j46),(8,ok8_j46),(9,underscores9_j46),(10,base10_j46),(11,maxMantDigits11_j46),(12,expChar12_j46),(13,sawdot13_j46),(14,sawdigits14_j46),(15,nd15_j46),(16,ndMant16_j46),(17,dp17_j46),(18,c18_j46)] s:=by
  unfold J136_46
  simp only [J136_47_eq]
  refine cutK_of ?_
  kernel_rfl
def J136_45 (env:Env) (I23:Nat->List AV->AS->Prop) (m23:Nat) (s0_j45 mantissa2_j45 exp3_j45 neg4_j45 trunc5_j45 hex6_j45 i7_j45 ok8_j45 underscores9_j45 base10_j45 maxMantDigits11_j45 expChar12_j45 sawdot13_j45 sawdigits14_j45 nd15_j45 ndMant16_j45 dp17_j45 c18_j45:AV) (s:AS) (K:AV->AS->Prop) (X:PV->AS->Prop):Prop :=
 (lock binD prog .add 3 nd15_j45 (.pv (.int .i64 1)) fun t124 =>
 (J136_46 env I23 m23 (s0_j45) (mantissa2_j45) (exp3_j45) (neg4_j45) (trunc5_j45) (hex6_j45) (i7_j45) (ok8_j45) (underscores9_j45) (base10_j45) (maxMantDigits11_j45) (expChar12_j45) (sawdot13_j45) (sawdigits14_j45) (t124) (ndMant16_j45) (dp17_j45) (c18_j45) s K X))
theorem J136_45_eq (env:Env) (I23:Nat->List AV->AS->Prop) (m23:Nat) (s0_j45 mantissa2_j45 exp3_j45 neg4_j45 trunc5_j45 hex6_j45 i7_j45 ok8_j45 underscores9_j45 base10_j45 maxMantDigits11_j45 expChar12_j45 sawdot13_j45 sawdigits14_j45 nd15_j45 ndMant16_j45 dp17_j45 c18_j45:AV) (s:AS) (K:AV->AS->Prop) (X:PV->AS->Prop):J136_45 env I23 m23 s0_j45 mantissa2_j45 exp3_j45 neg4_j45 trunc5_j45 hex6_j45 i7_j45 ok8_j45 underscores9_j45 base10_j45 maxMantDigits11_j45 expChar12_j45 sawdot13_j45 sawdigits14_j45 nd15_j45 ndMant16_j45 dp17_j45 c18_j45 s K X=cutK (fun fr s=>wpD prog env an136 (subC (bodyC f136) [1,0,1,1,1,1,1,1,1,1,1,1,1,1,1,0,0,0,1,0,0,0,1,0,1,1,1,1,1,1,1,0,1]) (contQ prog env an136 (bodyC f136) [1,0,1,1,1,1,1,1,1,1,1,1,1,1,1,0,0,0,1,0,0,0,1,0,1,1,1,1,1,1,1,0,1] [(I23,m23)] (rootQ prog f136 K X)) fr s) [(0,s0_j45),(2,mantissa2_j45),(3,exp3_j45),(4,neg4_j45),(5,trunc5_j45),(6,hex6_j45),(7,i7_j45),(8,ok8_j45),(9,underscores9_j45),(10,base10_j45),(11,maxMantDigits11_j45),(12,expChar12_j45),(13,sawdot13_j45),(14,sawdigits14_j45),(15,nd15_j45),(16,ndMant16_j45),(17,dp17_j45),(18,c18_j45)] s:=by
  unfold J136_45
  simp only [J136_46_eq]
  refine cutK_of ?_
  kernel_rfl
def J136_44 (env:Env) (I23:Nat->List AV->AS->Prop) (m23:Nat) (s0_j44 mantissa2_j44 exp3_j44 neg4_j44 trunc5_j44 hex6_j44 i7_j44 ok8_j44 underscores9_j44 base10_j44 maxMantDigits11_j44 expChar12_j44 sawdot13_j44 sawdigits14_j44 nd15_j44 ndMant16_j44 dp17_j44 c18_j44 t109_j44:AV) (s:AS) (K:AV->AS->Prop) (X:PV->AS->Prop):Prop :=
 (condD t109_j44
 (J136_45 env I23 m23 (s0_j44) (mantissa2_j44) (exp3_j44) (neg4_j44) (trunc5_j44) (hex6_j44) (i7_j44) (ok8_j44) (underscores9_j44) (base10_j44) (maxMantDigits11_j44) (expChar12_j44) (sawdot13_j44) (.pv (.bool true)) (nd15_j44) (ndMant16_j44) (dp17_j44) (c18_j44) s K X)
 (J136_51 env  (s0_j44) (mantissa2_j44) (exp3_j44) (neg4_j44) (trunc5_j44) (hex6_j44) (i7_j44) (ok8_j44) (underscores9_j44) (base10_j44) (expChar12_j44) (sawdot13_j44) (sawdigits14_j44) (nd15_j44) (ndMant16_j44) (dp17_j44) s K X))
theorem J136_44_eq (env:Env) (I23:Nat->List AV->AS->Prop) (m23:Nat) (s0_j44 mantissa2_j44 exp3_j44 neg4_j44 trunc5_j44 hex6_j44 i7_j44 ok8_j44 underscores9_j44 base10_j44 maxMantDigits11_j44 expChar12_j44 sawdot13_j44 sawdigits14_j44 nd15_j44 ndMant16_j44 dp17_j44 c18_j44 t109_j44:AV) (s:AS) (K:AV->AS->Prop) (X:PV->AS->Prop):J136_44 env I23 m23 s0_j44 mantissa2_j44 exp3_j44 neg4_j44 trunc5_j44 hex6_j44 i7_j44 ok8_j44 underscores9_j44 base10_j44 maxMantDigits11_j44 expChar12_j44 sawdot13_j44 sawdigits14_j44 nd15_j44 ndMant16_j44 dp17_j44 c18_j44 t109_j44 s K X=cutK (fun fr s=>wpD prog env an136 (subC (bodyC f136) [1,0,1,1,1,1,1,1,1,1,1,1,1,1,1,0,0,0,1,0,0,0,1,0,1,1,1,1,1,1,1]) (contQ prog env an136 (bodyC f136) [1,0,1,1,1,1,1,1,1,1,1,1,1,1,1,0,0,0,1,0,0,0,1,0,1,1,1,1,1,1,1] [(I23,m23)] (rootQ prog f136 K X)) fr s) [(0,s0_j44),(2,mantissa2_j44),(3,exp3_j44),(4,neg4_j44),(5,trunc5_j44),(6,hex6_j44),(7,i7_j44),(8,ok8_j44),(9,underscores9_j44),(10,base10_j44),(11,maxMantDigits11_j44),(12,expChar12_j44),(13,sawdot13_j44),(14,sawdigits14_j44),(15,nd15_j44),(16,ndMant16_j44),(17,dp17_j44),(18,c18_j44),(109,t109_j44)] s:=by
  unfold J136_44
  simp only [J136_51_eq,J136_45_eq]
  refine cutK_of ?_
  kernel_rfl
def J136_33 (env:Env) (I23:Nat->List AV->AS->Prop) (m23:Nat) (s0_j33 mantissa2_j33 exp3_j33 neg4_j33 trunc5_j33 hex6_j33 i7_j33 ok8_j33 underscores9_j33 base10_j33 maxMantDigits11_j33 expChar12_j33 sawdot13_j33 sawdigits14_j33 nd15_j33 ndMant16_j33 dp17_j33 c18_j33 t76_j33:AV) (s:AS) (K:AV->AS->Prop) (X:PV->AS->Prop):Prop :=
 (condD t76_j33
 (J136_34 env I23 m23 (s0_j33) (mantissa2_j33) (exp3_j33) (neg4_j33) (trunc5_j33) (hex6_j33) (i7_j33) (ok8_j33) (underscores9_j33) (base10_j33) (maxMantDigits11_j33) (expChar12_j33) (sawdot13_j33) (.pv (.bool true)) (nd15_j33) (ndMant16_j33) (dp17_j33) (c18_j33) s K X)
 (lock binD prog .eql 37 base10_j33 (.pv (.int .u64 16)) fun t111 =>
 (guardD t111 true
 (env 170 [c18_j33] s (fun t114 s6 =>
 (lock binD prog .leq 5 (.pv (.int .u8 97)) t114 fun t115 =>
 (guardD t115 true
 (env 170 [c18_j33] s6 (fun t119 s7 =>
 (lock binD prog .leq 5 t119 (.pv (.int .u8 102)) fun t120 =>
 (lock binD prog .eql 4 (.pv (.bool true)) t120 fun t122 =>
 (J136_44 env I23 m23 (s0_j33) (mantissa2_j33) (exp3_j33) (neg4_j33) (trunc5_j33) (hex6_j33) (i7_j33) (ok8_j33) (underscores9_j33) (base10_j33) (maxMantDigits11_j33) (expChar12_j33) (sawdot13_j33) (sawdigits14_j33) (nd15_j33) (ndMant16_j33) (dp17_j33) (c18_j33) (t122) s7 K X)))) (panV X))
 (lock binD prog .eql 4 (.pv (.bool true)) (.pv (.bool false)) fun t122 =>
 (J136_44 env I23 m23 (s0_j33) (mantissa2_j33) (exp3_j33) (neg4_j33) (trunc5_j33) (hex6_j33) (i7_j33) (ok8_j33) (underscores9_j33) (base10_j33) (maxMantDigits11_j33) (expChar12_j33) (sawdot13_j33) (sawdigits14_j33) (nd15_j33) (ndMant16_j33) (dp17_j33) (c18_j33) (t122) s6 K X))))) (panV X))
 (lock binD prog .eql 4 (.pv (.bool true)) (.pv (.bool false)) fun t122 =>
 (J136_44 env I23 m23 (s0_j33) (mantissa2_j33) (exp3_j33) (neg4_j33) (trunc5_j33) (hex6_j33) (i7_j33) (ok8_j33) (underscores9_j33) (base10_j33) (maxMantDigits11_j33) (expChar12_j33) (sawdot13_j33) (sawdigits14_j33) (nd15_j33) (ndMant16_j33) (dp17_j33) (c18_j33) (t122) s K X)))))
theorem J136_33_eq (env:Env) (I23:Nat->List AV->AS->Prop) (m23:Nat) (s0_j33 mantissa2_j33 exp3_j33 neg4_j33 trunc5_j33 hex6_j33 i7_j33 ok8_j33 underscores9_j33 base10_j33 maxMantDigits11_j33 expChar12_j33 sawdot13_j33 sawdigits14_j33 nd15_j33 ndMant16_j33 dp17_j33 c18_j33 t76_j33:AV) (s:AS) (K:AV->AS->Prop) (X:PV->AS->Prop):J136_33 env I23 m23 s0_j33 mantissa2_j33 exp3_j33 neg4_j33 trunc5_j33 hex6_j33 i7_j33 ok8_j33 underscores9_j33 base10_j33 maxMantDigits11_j33 expChar12_j33 sawdot13_j33 sawdigits14_j33 nd15_j33 ndMant16_j33 dp17_j33 c18_j33 t76_j33 s K X=cutK (fun fr s=>wpD prog env an136 (subC (bodyC f136) [1,0,1,1,1,1,1,1,1,1,1,1,1,1,1,0,0,0,1,0,0,0,1,0,1,1,1,1,1]) (contQ prog env an136 (bodyC f136) [1,0,1,1,1,1,1,1,1,1,1,1,1,1,1,0,0,0,1,0,0,0,1,0,1,1,1,1,1] [(I23,m23)] (rootQ prog f136 K X)) fr s) [(0,s0_j33),(2,mantissa2_j33),(3,exp3_j33),(4,neg4_j33),(5,trunc5_j33),(6,hex6_j33),(7,i7_j33),(8,ok8_j33),(9,underscores9_j33),(10,base10_j33),(11,maxMantDigits11_j33),(12,expChar12_j33),(13,sawdot13_j33),(14,sawdigits14_j33),(15,nd15_j33),(16,ndMant16_j33),(17,dp17_j33),(18,c18_j33),(76,t76_j33)] s:=by
  unfold J136_33
  simp only [J136_34_eq,J136_44_eq]
  refine cutK_of ?_
  kernel_rfl
def J136_29 (env:Env) (I23:Nat->List AV->AS->Prop) (m23:Nat) (s0_j29 mantissa2_j29 exp3_j29 neg4_j29 trunc5_j29 hex6_j29 i7_j29 ok8_j29 underscores9_j29 base10_j29 maxMantDigits11_j29 expChar12_j29 sawdot13_j29 sawdigits14_j29 nd15_j29 ndMant16_j29 dp17_j29 c18_j29 t70_j29:AV) (s:AS) (K:AV->AS->Prop) (X:PV->AS->Prop):Prop :=
 (condD t70_j29
 (condD sawdot13_j29
 (J136_51 env  (s0_j29) (mantissa2_j29) (exp3_j29) (neg4_j29) (trunc5_j29) (hex6_j29) (i7_j29) (ok8_j29) (underscores9_j29) (base10_j29) (expChar12_j29) (sawdot13_j29) (sawdigits14_j29) (nd15_j29) (ndMant16_j29) (dp17_j29) s K X)
 (lock binD prog .add 3 i7_j29 (.pv (.int .i64 1)) fun t62 =>
 (∃ m',m' < m23/\I23 m' [s0_j29,mantissa2_j29,exp3_j29,neg4_j29,trunc5_j29,hex6_j29,t62,ok8_j29,underscores9_j29,base10_j29,maxMantDigits11_j29,expChar12_j29,(.pv (.bool true)),sawdigits14_j29,nd15_j29,ndMant16_j29,nd15_j29] s)))
 (lock binD prog .leq 5 (.pv (.int .u8 48)) c18_j29 fun t78 =>
 (guardD t78 true
 (lock binD prog .leq 5 c18_j29 (.pv (.int .u8 57)) fun t81 =>
 (lock binD prog .eql 4 (.pv (.bool true)) t81 fun t83 =>
 (J136_33 env I23 m23 (s0_j29) (mantissa2_j29) (exp3_j29) (neg4_j29) (trunc5_j29) (hex6_j29) (i7_j29) (ok8_j29) (underscores9_j29) (base10_j29) (maxMantDigits11_j29) (expChar12_j29) (sawdot13_j29) (sawdigits14_j29) (nd15_j29) (ndMant16_j29) (dp17_j29) (c18_j29) (t83) s K X)))
 (lock binD prog .eql 4 (.pv (.bool true)) (.pv (.bool false)) fun t83 =>
 (J136_33 env I23 m23 (s0_j29) (mantissa2_j29) (exp3_j29) (neg4_j29) (trunc5_j29) (hex6_j29) (i7_j29) (ok8_j29) (underscores9_j29) (base10_j29) (maxMantDigits11_j29) (expChar12_j29) (sawdot13_j29) (sawdigits14_j29) (nd15_j29) (ndMant16_j29) (dp17_j29) (c18_j29) (t83) s K X)))))
theorem J136_29_eq (env:Env) (I23:Nat->List AV->AS->Prop) (m23:Nat) (s0_j29 mantissa2_j29 exp3_j29 neg4_j29 trunc5_j29 hex6_j29 i7_j29 ok8_j29 underscores9_j29 base10_j29 maxMantDigits11_j29 expChar12_j29 sawdot13_j29 sawdigits14_j29 nd15_j29 ndMant16_j29 dp17_j29 c18_j29 t70_j29:AV) (s:AS) (K:AV->AS->Prop) (X:PV->AS->Prop):J136_29 env I23 m23 s0_j29 mantissa2_j29 exp3_j29 neg4_j29 trunc5_j29 hex6_j29 i7_j29 ok8_j29 underscores9_j29 base10_j29 maxMantDigits11_j29 expChar12_j29 sawdot13_j29 sawdigits14_j29 nd15_j29 ndMant16_j29 dp17_j29 c18_j29 t70_j29 s K X=cutK (fun fr s=>wpD prog env an136 (subC (bodyC f136) [1,0,1,1,1,1,1,1,1,1,1,1,1,1,1,0,0,0,1,0,0,0,1,0,1,1,1]) (contQ prog env an136 (bodyC f136) [1,0,1,1,1,1,1,1,1,1,1,1,1,1,1,0,0,0,1,0,0,0,1,0,1,1,1] [(I23,m23)] (rootQ prog f136 K X)) fr s) [(0,s0_j29),(2,mantissa2_j29),(3,exp3_j29),(4,neg4_j29),(5,trunc5_j29),(6,hex6_j29),(7,i7_j29),(8,ok8_j29),(9,underscores9_j29),(10,base10_j29),(11,maxMantDigits11_j29),(12,expChar12_j29),(13,sawdot13_j29),(14,sawdigits14_j29),(15,nd15_j29),(16,ndMant16_j29),(17,dp17_j29),(18,c18_j29),(70,t70_j29)] s:=by
  unfold J136_29
  simp only [J136_51_eq,J136_33_eq]
  refine cutK_of ?_
  kernel_rfl
def J136_27 (env:Env) (I23:Nat->List AV->AS->Prop) (m23:Nat) (s0_j27 mantissa2_j27 exp3_j27 neg4_j27 trunc5_j27 hex6_j27 i7_j27 ok8_j27 underscores9_j27 base10_j27 maxMantDigits11_j27 expChar12_j27 sawdot13_j27 sawdigits14_j27 nd15_j27 ndMant16_j27 dp17_j27 c18_j27 t66_j27:AV) (s:AS) (K:AV->AS->Prop) (X:PV->AS->Prop):Prop :=
 (condD t66_j27
 (lock binD prog .add 3 i7_j27 (.pv (.int .i64 1)) fun t62 =>
 (∃ m',m' < m23/\I23 m' [s0_j27,mantissa2_j27,exp3_j27,neg4_j27,trunc5_j27,hex6_j27,t62,ok8_j27,(.pv (.bool true)),base10_j27,maxMantDigits11_j27,expChar12_j27,sawdot13_j27,sawdigits14_j27,nd15_j27,ndMant16_j27,dp17_j27] s))
 (lock binD prog .eql 5 c18_j27 (.pv (.int .u8 46)) fun t72 =>
 (lock binD prog .eql 4 (.pv (.bool true)) t72 fun t73 =>
 (J136_29 env I23 m23 (s0_j27) (mantissa2_j27) (exp3_j27) (neg4_j27) (trunc5_j27) (hex6_j27) (i7_j27) (ok8_j27) (underscores9_j27) (base10_j27) (maxMantDigits11_j27) (expChar12_j27) (sawdot13_j27) (sawdigits14_j27) (nd15_j27) (ndMant16_j27) (dp17_j27) (c18_j27) (t73) s K X))))
theorem J136_27_eq (env:Env) (I23:Nat->List AV->AS->Prop) (m23:Nat) (s0_j27 mantissa2_j27 exp3_j27 neg4_j27 trunc5_j27 hex6_j27 i7_j27 ok8_j27 underscores9_j27 base10_j27 maxMantDigits11_j27 expChar12_j27 sawdot13_j27 sawdigits14_j27 nd15_j27 ndMant16_j27 dp17_j27 c18_j27 t66_j27:AV) (s:AS) (K:AV->AS->Prop) (X:PV->AS->Prop):J136_27 env I23 m23 s0_j27 mantissa2_j27 exp3_j27 neg4_j27 trunc5_j27 hex6_j27 i7_j27 ok8_j27 underscores9_j27 base10_j27 maxMantDigits11_j27 expChar12_j27 sawdot13_j27 sawdigits14_j27 nd15_j27 ndMant16_j27 dp17_j27 c18_j27 t66_j27 s K X=cutK (fun fr s=>wpD prog env an136 (subC (bodyC f136) [1,0,1,1,1,1,1,1,1,1,1,1,1,1,1,0,0,0,1,0,0,0,1,0,1]) (contQ prog env an136 (bodyC f136) [1,0,1,1,1,1,1,1,1,1,1,1,1,1,1,0,0,0,1,0,0,0,1,0,1] [(I23,m23)] (rootQ prog f136 K X)) fr s) [(0,s0_j27),(2,mantissa2_j27),(3,exp3_j27),(4,neg4_j27),(5,trunc5_j27),(6,hex6_j27),(7,i7_j27),(8,ok8_j27),(9,underscores9_j27),(10,base10_j27),(11,maxMantDigits11_j27),(12,expChar12_j27),(13,sawdot13_j27),(14,sawdigits14_j27),(15,nd15_j27),(16,ndMant16_j27),(17,dp17_j27),(18,c18_j27),(66,t66_j27)] s:=by
  unfold J136_27
  simp only [J136_29_eq]
  refine cutK_of ?_
  kernel_rfl
def J136_26 (env:Env) (I23:Nat->List AV->AS->Prop) (m23:Nat) (s0_j26 mantissa2_j26 exp3_j26 neg4_j26 trunc5_j26 hex6_j26 i7_j26 ok8_j26 underscores9_j26 base10_j26 maxMantDigits11_j26 expChar12_j26 sawdot13_j26 sawdigits14_j26 nd15_j26 ndMant16_j26 dp17_j26 c18_j26:AV) (s:AS) (K:AV->AS->Prop) (X:PV->AS->Prop):Prop :=
 (lock binD prog .eql 5 c18_j26 (.pv (.int .u8 95)) fun t68 =>
 (lock binD prog .eql 4 (.pv (.bool true)) t68 fun t69 =>
 (J136_27 env I23 m23 (s0_j26) (mantissa2_j26) (exp3_j26) (neg4_j26) (trunc5_j26) (hex6_j26) (i7_j26) (ok8_j26) (underscores9_j26) (base10_j26) (maxMantDigits11_j26) (expChar12_j26) (sawdot13_j26) (sawdigits14_j26) (nd15_j26) (ndMant16_j26) (dp17_j26) (c18_j26) (t69) s K X)))
theorem J136_26_eq (env:Env) (I23:Nat->List AV->AS->Prop) (m23:Nat) (s0_j26 mantissa2_j26 exp3_j26 neg4_j26 trunc5_j26 hex6_j26 i7_j26 ok8_j26 underscores9_j26 base10_j26 maxMantDigits11_j26 expChar12_j26 sawdot13_j26 sawdigits14_j26 nd15_j26 ndMant16_j26 dp17_j26 c18_j26:AV) (s:AS) (K:AV->AS->Prop) (X:PV->AS->Prop):J136_26 env I23 m23 s0_j26 mantissa2_j26 exp3_j26 neg4_j26 trunc5_j26 hex6_j26 i7_j26 ok8_j26 underscores9_j26 base10_j26 maxMantDigits11_j26 expChar12_j26 sawdot13_j26 sawdigits14_j26 nd15_j26 ndMant16_j26 dp17_j26 c18_j26 s K X=cutK (fun fr s=>wpD prog env an136 (subC (bodyC f136) [1,0,1,1,1,1,1,1,1,1,1,1,1,1,1,0,0,0,1,0,0,0,1]) (contQ prog env an136 (bodyC f136) [1,0,1,1,1,1,1,1,1,1,1,1,1,1,1,0,0,0,1,0,0,0,1] [(I23,m23)] (rootQ prog f136 K X)) fr s) [(0,s0_j26),(2,mantissa2_j26),(3,exp3_j26),(4,neg4_j26),(5,trunc5_j26),(6,hex6_j26),(7,i7_j26),(8,ok8_j26),(9,underscores9_j26),(10,base10_j26),(11,maxMantDigits11_j26),(12,expChar12_j26),(13,sawdot13_j26),(14,sawdigits14_j26),(15,nd15_j26),(16,ndMant16_j26),(17,dp17_j26),(18,c18_j26)] s:=by
  unfold J136_26
  simp only [J136_27_eq]
  refine cutK_of ?_
  kernel_rfl
def J136_25 (env:Env) (I23:Nat->List AV->AS->Prop) (m23:Nat) (s0_j25 mantissa2_j25 exp3_j25 neg4_j25 trunc5_j25 hex6_j25 i7_j25 ok8_j25 underscores9_j25 base10_j25 maxMantDigits11_j25 expChar12_j25 sawdot13_j25 sawdigits14_j25 nd15_j25 ndMant16_j25 dp17_j25:AV) (s:AS) (K:AV->AS->Prop) (X:PV->AS->Prop):Prop :=
 (lock indexD prog 9 s0_j25 i7_j25 fun t65 =>
 (J136_26 env I23 m23 (s0_j25) (mantissa2_j25) (exp3_j25) (neg4_j25) (trunc5_j25) (hex6_j25) (i7_j25) (ok8_j25) (underscores9_j25) (base10_j25) (maxMantDigits11_j25) (expChar12_j25) (sawdot13_j25) (sawdigits14_j25) (nd15_j25) (ndMant16_j25) (dp17_j25) (t65) s K X))
theorem J136_25_eq (env:Env) (I23:Nat->List AV->AS->Prop) (m23:Nat) (s0_j25 mantissa2_j25 exp3_j25 neg4_j25 trunc5_j25 hex6_j25 i7_j25 ok8_j25 underscores9_j25 base10_j25 maxMantDigits11_j25 expChar12_j25 sawdot13_j25 sawdigits14_j25 nd15_j25 ndMant16_j25 dp17_j25:AV) (s:AS) (K:AV->AS->Prop) (X:PV->AS->Prop):J136_25 env I23 m23 s0_j25 mantissa2_j25 exp3_j25 neg4_j25 trunc5_j25 hex6_j25 i7_j25 ok8_j25 underscores9_j25 base10_j25 maxMantDigits11_j25 expChar12_j25 sawdot13_j25 sawdigits14_j25 nd15_j25 ndMant16_j25 dp17_j25 s K X=cutK (fun fr s=>wpD prog env an136 (subC (bodyC f136) [1,0,1,1,1,1,1,1,1,1,1,1,1,1,1,0,0,0,1]) (contQ prog env an136 (bodyC f136) [1,0,1,1,1,1,1,1,1,1,1,1,1,1,1,0,0,0,1] [(I23,m23)] (rootQ prog f136 K X)) fr s) [(0,s0_j25),(2,mantissa2_j25),(3,exp3_j25),(4,neg4_j25),(5,trunc5_j25),(6,hex6_j25),(7,i7_j25),(8,ok8_j25),(9,underscores9_j25),(10,base10_j25),(11,maxMantDigits11_j25),(12,expChar12_j25),(13,sawdot13_j25),(14,sawdigits14_j25),(15,nd15_j25),(16,ndMant16_j25),(17,dp17_j25)] s:=by
  unfold J136_25
  simp only [J136_26_eq]
  refine cutK_of ?_
  kernel_rfl
def L136_23 (env:Env) (I23:Nat->List AV->AS->Prop) (m23:Nat) (s0_l23 mantissa2_l23 exp3_l23 neg4_l23 trunc5_l23 hex6_l23 i7_l23 ok8_l23 underscores9_l23 base10_l23 maxMantDigits11_l23 expChar12_l23 sawdot13_l23 sawdigits14_l23 nd15_l23 ndMant16_l23 dp17_l23:AV) (s:AS) (K:AV->AS->Prop) (X:PV->AS->Prop):Prop :=
 (lock lenD prog 9 s0_l23 fun t59 =>
 (lock binD prog .lss 3 i7_l23 t59 fun t60 =>
 (condD t60
 (J136_25 env I23 m23 (s0_l23) (mantissa2_l23) (exp3_l23) (neg4_l23) (trunc5_l23) (hex6_l23) (i7_l23) (ok8_l23) (underscores9_l23) (base10_l23) (maxMantDigits11_l23) (expChar12_l23) (sawdot13_l23) (sawdigits14_l23) (nd15_l23) (ndMant16_l23) (dp17_l23) s K X)
 (J136_51 env  (s0_l23) (mantissa2_l23) (exp3_l23) (neg4_l23) (trunc5_l23) (hex6_l23) (i7_l23) (ok8_l23) (underscores9_l23) (base10_l23) (expChar12_l23) (sawdot13_l23) (sawdigits14_l23) (nd15_l23) (ndMant16_l23) (dp17_l23) s K X))))
theorem L136_23_eq (env:Env) (I23:Nat->List AV->AS->Prop) (m23:Nat) (s0_l23 mantissa2_l23 exp3_l23 neg4_l23 trunc5_l23 hex6_l23 i7_l23 ok8_l23 underscores9_l23 base10_l23 maxMantDigits11_l23 expChar12_l23 sawdot13_l23 sawdigits14_l23 nd15_l23 ndMant16_l23 dp17_l23:AV) (s:AS) (K:AV->AS->Prop) (X:PV->AS->Prop):L136_23 env I23 m23 s0_l23 mantissa2_l23 exp3_l23 neg4_l23 trunc5_l23 hex6_l23 i7_l23 ok8_l23 underscores9_l23 base10_l23 maxMantDigits11_l23 expChar12_l23 sawdot13_l23 sawdigits14_l23 nd15_l23 ndMant16_l23 dp17_l23 s K X=wpD prog env an136 (subC (bodyC f136) [1,0,1,1,1,1,1,1,1,1,1,1,1,1,1,0,0,0]) (contQ prog env an136 (bodyC f136) [1,0,1,1,1,1,1,1,1,1,1,1,1,1,1,0,0,0] [(I23,m23)] (rootQ prog f136 K X)) [(0,s0_l23),(2,mantissa2_l23),(3,exp3_l23),(4,neg4_l23),(5,trunc5_l23),(6,hex6_l23),(7,i7_l23),(8,ok8_l23),(9,underscores9_l23),(10,base10_l23),(11,maxMantDigits11_l23),(12,expChar12_l23),(13,sawdot13_l23),(14,sawdigits14_l23),(15,nd15_l23),(16,ndMant16_l23),(17,dp17_l23)] s:=by
  unfold L136_23
  simp only [J136_51_eq,J136_25_eq]
  kernel_rfl
theorem lp136_23 {α:Type} {env:Env}  {s0_l23 exp3_l23 neg4_l23 hex6_l23 ok8_l23 base10_l23 maxMantDigits11_l23 expChar12_l23:AV} {s:AS} {K:AV->AS->Prop} {X:PV->AS->Prop} (μ:α->AS->Nat) (I:α->AS->Prop) (emantissa2_l23 etrunc5_l23 ei7_l23 eunderscores9_l23 esawdot13_l23 esawdigits14_l23 end15_l23 endMant16_l23 edp17_l23:α->AV) (a0:α) (h0:I a0 s)
 (h:∀ a s,I a s->L136_23 env  (Inv (fun a=>[s0_l23,emantissa2_l23 a,exp3_l23,neg4_l23,etrunc5_l23 a,hex6_l23,ei7_l23 a,ok8_l23,eunderscores9_l23 a,base10_l23,maxMantDigits11_l23,expChar12_l23,esawdot13_l23 a,esawdigits14_l23 a,end15_l23 a,endMant16_l23 a,edp17_l23 a]) μ I) (μ a s) s0_l23 (emantissa2_l23 a) exp3_l23 neg4_l23 (etrunc5_l23 a) hex6_l23 (ei7_l23 a) ok8_l23 (eunderscores9_l23 a) base10_l23 maxMantDigits11_l23 expChar12_l23 (esawdot13_l23 a) (esawdigits14_l23 a) (end15_l23 a) (endMant16_l23 a) (edp17_l23 a) s K X) :
 ∃ I23:Nat->List AV->AS->Prop,(∃ m,I23 m [s0_l23,emantissa2_l23 a0,exp3_l23,neg4_l23,etrunc5_l23 a0,hex6_l23,ei7_l23 a0,ok8_l23,eunderscores9_l23 a0,base10_l23,maxMantDigits11_l23,expChar12_l23,esawdot13_l23 a0,esawdigits14_l23 a0,end15_l23 a0,endMant16_l23 a0,edp17_l23 a0] s)/\∀ (m:Nat) (x0 x1 x2 x3 x4 x5 x6 x7 x8 x9 x10 x11 x12 x13 x14 x15 x16:AV),∀ s,I23 m [x0,x1,x2,x3,x4,x5,x6,x7,x8,x9,x10,x11,x12,x13,x14,x15,x16] s ->
 L136_23 env  I23 m x0 x1 x2 x3 x4 x5 x6 x7 x8 x9 x10 x11 x12 x13 x14 x15 x16 s K X:=by
  refine ⟨Inv (fun a=>[s0_l23,emantissa2_l23 a,exp3_l23,neg4_l23,etrunc5_l23 a,hex6_l23,ei7_l23 a,ok8_l23,eunderscores9_l23 a,base10_l23,maxMantDigits11_l23,expChar12_l23,esawdot13_l23 a,esawdigits14_l23 a,end15_l23 a,endMant16_l23 a,edp17_l23 a]) μ I,⟨_,a0,rfl,rfl,h0⟩,?_⟩
  rintro m x0 x1 x2 x3 x4 x5 x6 x7 x8 x9 x10 x11 x12 x13 x14 x15 x16 s' ⟨a,hv,rfl,hI⟩
  simp only [List.cons.injEq,and_true] at hv
  obtain ⟨rfl,rfl,rfl,rfl,rfl,rfl,rfl,rfl,rfl,rfl,rfl,rfl,rfl,rfl,rfl,rfl,rfl⟩:=hv
  exact h a s' hI
def J136_23x (env:Env)  (s0_j23 mantissa2_j23 exp3_j23 neg4_j23 trunc5_j23 hex6_j23 i7_j23 ok8_j23 underscores9_j23 base10_j23 maxMantDigits11_j23 expChar12_j23 sawdot13_j23 sawdigits14_j23 nd15_j23 ndMant16_j23 dp17_j23:AV) (s:AS) (K:AV->AS->Prop) (X:PV->AS->Prop):Prop :=
 (∃ I23:Nat->List AV->AS->Prop,(∃ m,I23 m [s0_j23,mantissa2_j23,exp3_j23,neg4_j23,trunc5_j23,hex6_j23,i7_j23,ok8_j23,underscores9_j23,base10_j23,maxMantDigits11_j23,expChar12_j23,sawdot13_j23,sawdigits14_j23,nd15_j23,ndMant16_j23,dp17_j23] s)/\∀ (m23:Nat) (s0_l23 mantissa2_l23 exp3_l23 neg4_l23 trunc5_l23 hex6_l23 i7_l23 ok8_l23 underscores9_l23 base10_l23 maxMantDigits11_l23 expChar12_l23 sawdot13_l23 sawdigits14_l23 nd15_l23 ndMant16_l23 dp17_l23:AV),∀ s2,I23 m23 [s0_l23,mantissa2_l23,exp3_l23,neg4_l23,trunc5_l23,hex6_l23,i7_l23,ok8_l23,underscores9_l23,base10_l23,maxMantDigits11_l23,expChar12_l23,sawdot13_l23,sawdigits14_l23,nd15_l23,ndMant16_l23,dp17_l23] s2 ->
 (L136_23 env I23 m23 s0_l23 mantissa2_l23 exp3_l23 neg4_l23 trunc5_l23 hex6_l23 i7_l23 ok8_l23 underscores9_l23 base10_l23 maxMantDigits11_l23 expChar12_l23 sawdot13_l23 sawdigits14_l23 nd15_l23 ndMant16_l23 dp17_l23 s2 K X))
theorem J136_23x_eq (env:Env)  (s0_j23 mantissa2_j23 exp3_j23 neg4_j23 trunc5_j23 hex6_j23 i7_j23 ok8_j23 underscores9_j23 base10_j23 maxMantDigits11_j23 expChar12_j23 sawdot13_j23 sawdigits14_j23 nd15_j23 ndMant16_j23 dp17_j23:AV) (s:AS) (K:AV->AS->Prop) (X:PV->AS->Prop):J136_23x env  s0_j23 mantissa2_j23 exp3_j23 neg4_j23 trunc5_j23 hex6_j23 i7_j23 ok8_j23 underscores9_j23 base10_j23 maxMantDigits11_j23 expChar12_j23 sawdot13_j23 sawdigits14_j23 nd15_j23 ndMant16_j23 dp17_j23 s K X=cutK (fun fr s=>wpD prog env an136 (subC (bodyC f136) [1,0,1,1,1,1,1,1,1,1,1,1,1,1,1]) (contQ prog env an136 (bodyC f136) [1,0,1,1,1,1,1,1,1,1,1,1,1,1,1] [] (rootQ prog f136 K X)) fr s) [(0,s0_j23),(2,mantissa2_j23),(3,exp3_j23),(4,neg4_j23),(5,trunc5_j23),(6,hex6_j23),(7,i7_j23),(8,ok8_j23),(9,underscores9_j23),(10,base10_j23),(11,maxMantDigits11_j23),(12,expChar12_j23),(13,sawdot13_j23),(14,sawdigits14_j23),(15,nd15_j23),(16,ndMant16_j23),(17,dp17_j23)] s:=by
  unfold J136_23x
  simp only [L136_23_eq]
  refine cutK_of ?_
  kernel_rfl
def J136_23 (env:Env)  (s0_j23 mantissa2_j23 exp3_j23 neg4_j23 trunc5_j23 hex6_j23 i7_j23 ok8_j23 underscores9_j23 base10_j23 maxMantDigits11_j23 expChar12_j23 sawdot13_j23 sawdigits14_j23 nd15_j23 ndMant16_j23 dp17_j23:AV) (s:AS) (K:AV->AS->Prop) (X:PV->AS->Prop):Prop :=
 (J136_23x env  (s0_j23) (mantissa2_j23) (exp3_j23) (neg4_j23) (trunc5_j23) (hex6_j23) (i7_j23) (ok8_j23) (underscores9_j23) (base10_j23) (maxMantDigits11_j23) (expChar12_j23) (sawdot13_j23) (sawdigits14_j23) (nd15_j23) (ndMant16_j23) (dp17_j23) s K X)
theorem J136_23_eq (env:Env)  (s0_j23 mantissa2_j23 exp3_j23 neg4_j23 trunc5_j23 hex6_j23 i7_j23 ok8_j23 underscores9_j23 base10_j23 maxMantDigits11_j23 expChar12_j23 sawdot13_j23 sawdigits14_j23 nd15_j23 ndMant16_j23 dp17_j23:AV) (s:AS) (K:AV->AS->Prop) (X:PV->AS->Prop):J136_23 env  s0_j23 mantissa2_j23 exp3_j23 neg4_j23 trunc5_j23 hex6_j23 i7_j23 ok8_j23 underscores9_j23 base10_j23 maxMantDigits11_j23 expChar12_j23 sawdot13_j23 sawdigits14_j23 nd15_j23 ndMant16_j23 dp17_j23 s K X=cutK (fun fr s=>wpD prog env an136 (subC (bodyC f136) [1,0,1,1,1,1,1,1,1,1,1,1,1,1]) (contQ prog env an136 (bodyC f136) [1,0,1,1,1,1,1,1,1,1,1,1,1,1] [] (rootQ prog f136 K X)) fr s) [(0,s0_j23),(2,mantissa2_j23),(3,exp3_j23),(4,neg4_j23),(5,trunc5_j23),(6,hex6_j23),(7,i7_j23),(8,ok8_j23),(9,underscores9_j23),(10,base10_j23),(11,maxMantDigits11_j23),(12,expChar12_j23),(13,sawdot13_j23),(14,sawdigits14_j23),(15,nd15_j23),(16,ndMant16_j23),(17,dp17_j23)] s:=by
  unfold J136_23
  simp only [J136_23x_eq]
  refine cutK_of ?_
  kernel_rfl
def J136_22 (env:Env)  (s0_j22 mantissa2_j22 exp3_j22 neg4_j22 trunc5_j22 hex6_j22 i7_j22 ok8_j22 underscores9_j22 base10_j22 maxMantDigits11_j22 expChar12_j22 sawdot13_j22 sawdigits14_j22 nd15_j22 ndMant16_j22:AV) (s:AS) (K:AV->AS->Prop) (X:PV->AS->Prop):Prop :=
 (J136_23 env  (s0_j22) (mantissa2_j22) (exp3_j22) (neg4_j22) (trunc5_j22) (hex6_j22) (i7_j22) (ok8_j22) (underscores9_j22) (base10_j22) (maxMantDigits11_j22) (expChar12_j22) (sawdot13_j22) (sawdigits14_j22) (nd15_j22) (ndMant16_j22) (.pv (.int .i64 0)) s K X)
theorem J136_22_eq (env:Env)  (s0_j22 mantissa2_j22 exp3_j22 neg4_j22 trunc5_j22 hex6_j22 i7_j22 ok8_j22 underscores9_j22 base10_j22 maxMantDigits11_j22 expChar12_j22 sawdot13_j22 sawdigits14_j22 nd15_j22 ndMant16_j22:AV) (s:AS) (K:AV->AS->Prop) (X:PV->AS->Prop):J136_22 env  s0_j22 mantissa2_j22 exp3_j22 neg4_j22 trunc5_j22 hex6_j22 i7_j22 ok8_j22 underscores9_j22 base10_j22 maxMantDigits11_j22 expChar12_j22 sawdot13_j22 sawdigits14_j22 nd15_j22 ndMant16_j22 s K X=cutK (fun fr s=>wpD prog env an136 (subC (bodyC f136) [1,0,1,1,1,1,1,1,1,1,1,1,1]) (contQ prog env an136 (bodyC f136) [1,0,1,1,1,1,1,1,1,1,1,1,1] [] (rootQ prog f136 K X)) fr s) [(0,s0_j22),(2,mantissa2_j22),(3,exp3_j22),(4,neg4_j22),(5,trunc5_j22),(6,hex6_j22),(7,i7_j22),(8,ok8_j22),(9,underscores9_j22),(10,base10_j22),(11,maxMantDigits11_j22),(12,expChar12_j22),(13,sawdot13_j22),(14,sawdigits14_j22),(15,nd15_j22),(16,ndMant16_j22)] s:=by
  unfold J136_22
  simp only [J136_23_eq]
  refine cutK_of ?_
  kernel_rfl
def J136_21 (env:Env)  (s0_j21 mantissa2_j21 exp3_j21 neg4_j21 trunc5_j21 hex6_j21 i7_j21 ok8_j21 underscores9_j21 base10_j21 maxMantDigits11_j21 expChar12_j21 sawdot13_j21 sawdigits14_j21 nd15_j21:AV) (s:AS) (K:AV->AS->Prop) (X:PV->AS->Prop):Prop :=
 (J136_22 env  (s0_j21) (mantissa2_j21) (exp3_j21) (neg4_j21) (trunc5_j21) (hex6_j21) (i7_j21) (ok8_j21) (underscores9_j21) (base10_j21) (maxMantDigits11_j21) (expChar12_j21) (sawdot13_j21) (sawdigits14_j21) (nd15_j21) (.pv (.int .i64 0)) s K X)
theorem J136_21_eq (env:Env)  (s0_j21 mantissa2_j21 exp3_j21 neg4_j21 trunc5_j21 hex6_j21 i7_j21 ok8_j21 underscores9_j21 base10_j21 maxMantDigits11_j21 expChar12_j21 sawdot13_j21 sawdigits14_j21 nd15_j21:AV) (s:AS) (K:AV->AS->Prop) (X:PV->AS->Prop):J136_21 env  s0_j21 mantissa2_j21 exp3_j21 neg4_j21 trunc5_j21 hex6_j21 i7_j21 ok8_j21 underscores9_j21 base10_j21 maxMantDigits11_j21 expChar12_j21 sawdot13_j21 sawdigits14_j21 nd15_j21 s K X=cutK (fun fr s=>wpD prog env an136 (subC (bodyC f136) [1,0,1,1,1,1,1,1,1,1,1,1]) (contQ prog env an136 (bodyC f136) [1,0,1,1,1,1,1,1,1,1,1,1] [] (rootQ prog f136 K X)) fr s) [(0,s0_j21),(2,mantissa2_j21),(3,exp3_j21),(4,neg4_j21),(5,trunc5_j21),(6,hex6_j21),(7,i7_j21),(8,ok8_j21),(9,underscores9_j21),(10,base10_j21),(11,maxMantDigits11_j21),(12,expChar12_j21),(13,sawdot13_j21),(14,sawdigits14_j21),(15,nd15_j21)] s:=by
  unfold J136_21
  simp only [J136_22_eq]
  refine cutK_of ?_
  kernel_rfl
def J136_20 (env:Env)  (s0_j20 mantissa2_j20 exp3_j20 neg4_j20 trunc5_j20 hex6_j20 i7_j20 ok8_j20 underscores9_j20 base10_j20 maxMantDigits11_j20 expChar12_j20 sawdot13_j20 sawdigits14_j20:AV) (s:AS) (K:AV->AS->Prop) (X:PV->AS->Prop):Prop :=
 (J136_21 env  (s0_j20) (mantissa2_j20) (exp3_j20) (neg4_j20) (trunc5_j20) (hex6_j20) (i7_j20) (ok8_j20) (underscores9_j20) (base10_j20) (maxMantDigits11_j20) (expChar12_j20) (sawdot13_j20) (sawdigits14_j20) (.pv (.int .i64 0)) s K X)
theorem J136_20_eq (env:Env)  (s0_j20 mantissa2_j20 exp3_j20 neg4_j20 trunc5_j20 hex6_j20 i7_j20 ok8_j20 underscores9_j20 base10_j20 maxMantDigits11_j20 expChar12_j20 sawdot13_j20 sawdigits14_j20:AV) (s:AS) (K:AV->AS->Prop) (X:PV->AS->Prop):J136_20 env  s0_j20 mantissa2_j20 exp3_j20 neg4_j20 trunc5_j20 hex6_j20 i7_j20 ok8_j20 underscores9_j20 base10_j20 maxMantDigits11_j20 expChar12_j20 sawdot13_j20 sawdigits14_j20 s K X=cutK (fun fr s=>wpD prog env an136 (subC (bodyC f136) [1,0,1,1,1,1,1,1,1,1,1]) (contQ prog env an136 (bodyC f136) [1,0,1,1,1,1,1,1,1,1,1] [] (rootQ prog f136 K X)) fr s) [(0,s0_j20),(2,mantissa2_j20),(3,exp3_j20),(4,neg4_j20),(5,trunc5_j20),(6,hex6_j20),(7,i7_j20),(8,ok8_j20),(9,underscores9_j20),(10,base10_j20),(11,maxMantDigits11_j20),(12,expChar12_j20),(13,sawdot13_j20),(14,sawdigits14_j20)] s:=by
  unfold J136_20
  simp only [J136_21_eq]
  refine cutK_of ?_
  kernel_rfl
def J136_19 (env:Env)  (s0_j19 mantissa2_j19 exp3_j19 neg4_j19 trunc5_j19 hex6_j19 i7_j19 ok8_j19 underscores9_j19 base10_j19 maxMantDigits11_j19 expChar12_j19 sawdot13_j19:AV) (s:AS) (K:AV->AS->Prop) (X:PV->AS->Prop):Prop :=
 (J136_20 env  (s0_j19) (mantissa2_j19) (exp3_j19) (neg4_j19) (trunc5_j19) (hex6_j19) (i7_j19) (ok8_j19) (underscores9_j19) (base10_j19) (maxMantDigits11_j19) (expChar12_j19) (sawdot13_j19) (.pv (.bool false)) s K X)
theorem J136_19_eq (env:Env)  (s0_j19 mantissa2_j19 exp3_j19 neg4_j19 trunc5_j19 hex6_j19 i7_j19 ok8_j19 underscores9_j19 base10_j19 maxMantDigits11_j19 expChar12_j19 sawdot13_j19:AV) (s:AS) (K:AV->AS->Prop) (X:PV->AS->Prop):J136_19 env  s0_j19 mantissa2_j19 exp3_j19 neg4_j19 trunc5_j19 hex6_j19 i7_j19 ok8_j19 underscores9_j19 base10_j19 maxMantDigits11_j19 expChar12_j19 sawdot13_j19 s K X=cutK (fun fr s=>wpD prog env an136 (subC (bodyC f136) [1,0,1,1,1,1,1,1,1,1]) (contQ prog env an136 (bodyC f136) [1,0,1,1,1,1,1,1,1,1] [] (rootQ prog f136 K X)) fr s) [(0,s0_j19),(2,mantissa2_j19),(3,exp3_j19),(4,neg4_j19),(5,trunc5_j19),(6,hex6_j19),(7,i7_j19),(8,ok8_j19),(9,underscores9_j19),(10,base10_j19),(11,maxMantDigits11_j19),(12,expChar12_j19),(13,sawdot13_j19)] s:=by
  unfold J136_19
  simp only [J136_20_eq]
  refine cutK_of ?_
  kernel_rfl
def J136_18 (env:Env)  (s0_j18 mantissa2_j18 exp3_j18 neg4_j18 trunc5_j18 hex6_j18 i7_j18 ok8_j18 underscores9_j18 base10_j18 maxMantDigits11_j18 expChar12_j18:AV) (s:AS) (K:AV->AS->Prop) (X:PV->AS->Prop):Prop :=
 (J136_19 env  (s0_j18) (mantissa2_j18) (exp3_j18) (neg4_j18) (trunc5_j18) (hex6_j18) (i7_j18) (ok8_j18) (underscores9_j18) (base10_j18) (maxMantDigits11_j18) (expChar12_j18) (.pv (.bool false)) s K X)
theorem J136_18_eq (env:Env)  (s0_j18 mantissa2_j18 exp3_j18 neg4_j18 trunc5_j18 hex6_j18 i7_j18 ok8_j18 underscores9_j18 base10_j18 maxMantDigits11_j18 expChar12_j18:AV) (s:AS) (K:AV->AS->Prop) (X:PV->AS->Prop):J136_18 env  s0_j18 mantissa2_j18 exp3_j18 neg4_j18 trunc5_j18 hex6_j18 i7_j18 ok8_j18 underscores9_j18 base10_j18 maxMantDigits11_j18 expChar12_j18 s K X=cutK (fun fr s=>wpD prog env an136 (subC (bodyC f136) [1,0,1,1,1,1,1,1,1]) (contQ prog env an136 (bodyC f136) [1,0,1,1,1,1,1,1,1] [] (rootQ prog f136 K X)) fr s) [(0,s0_j18),(2,mantissa2_j18),(3,exp3_j18),(4,neg4_j18),(5,trunc5_j18),(6,hex6_j18),(7,i7_j18),(8,ok8_j18),(9,underscores9_j18),(10,base10_j18),(11,maxMantDigits11_j18),(12,expChar12_j18)] s:=by
  unfold J136_18
  simp only [J136_19_eq]
  refine cutK_of ?_
  kernel_rfl
def J136_15 (env:Env)  (s0_j15 mantissa2_j15 exp3_j15 neg4_j15 trunc5_j15 i7_j15 ok8_j15 underscores9_j15 base10_j15 maxMantDigits11_j15:AV) (s:AS) (K:AV->AS->Prop) (X:PV->AS->Prop):Prop :=
 (lock binD prog .add 3 i7_j15 (.pv (.int .i64 2)) fun t56 =>
 (J136_18 env  (s0_j15) (mantissa2_j15) (exp3_j15) (neg4_j15) (trunc5_j15) (.pv (.bool true)) (t56) (ok8_j15) (underscores9_j15) (base10_j15) (maxMantDigits11_j15) (.pv (.int .u8 112)) s K X))
theorem J136_15_eq (env:Env)  (s0_j15 mantissa2_j15 exp3_j15 neg4_j15 trunc5_j15 i7_j15 ok8_j15 underscores9_j15 base10_j15 maxMantDigits11_j15:AV) (s:AS) (K:AV->AS->Prop) (X:PV->AS->Prop):J136_15 env  s0_j15 mantissa2_j15 exp3_j15 neg4_j15 trunc5_j15 i7_j15 ok8_j15 underscores9_j15 base10_j15 maxMantDigits11_j15 s K X=cutK (fun fr s=>wpD prog env an136 (subC (bodyC f136) [1,0,1,1,1,1,1,1,0,1,0,1,1]) (contQ prog env an136 (bodyC f136) [1,0,1,1,1,1,1,1,0,1,0,1,1] [] (rootQ prog f136 K X)) fr s) [(0,s0_j15),(2,mantissa2_j15),(3,exp3_j15),(4,neg4_j15),(5,trunc5_j15),(7,i7_j15),(8,ok8_j15),(9,underscores9_j15),(10,base10_j15),(11,maxMantDigits11_j15)] s:=by
  unfold J136_15
  simp only [J136_18_eq]
  refine cutK_of ?_
  kernel_rfl
def J136_14 (env:Env)  (s0_j14 mantissa2_j14 exp3_j14 neg4_j14 trunc5_j14 i7_j14 ok8_j14 underscores9_j14 base10_j14:AV) (s:AS) (K:AV->AS->Prop) (X:PV->AS->Prop):Prop :=
 (J136_15 env  (s0_j14) (mantissa2_j14) (exp3_j14) (neg4_j14) (trunc5_j14) (i7_j14) (ok8_j14) (underscores9_j14) (base10_j14) (.pv (.int .i64 16)) s K X)
theorem J136_14_eq (env:Env)  (s0_j14 mantissa2_j14 exp3_j14 neg4_j14 trunc5_j14 i7_j14 ok8_j14 underscores9_j14 base10_j14:AV) (s:AS) (K:AV->AS->Prop) (X:PV->AS->Prop):J136_14 env  s0_j14 mantissa2_j14 exp3_j14 neg4_j14 trunc5_j14 i7_j14 ok8_j14 underscores9_j14 base10_j14 s K X=cutK (fun fr s=>wpD prog env an136 (subC (bodyC f136) [1,0,1,1,1,1,1,1,0,1,0,1]) (contQ prog env an136 (bodyC f136) [1,0,1,1,1,1,1,1,0,1,0,1] [] (rootQ prog f136 K X)) fr s) [(0,s0_j14),(2,mantissa2_j14),(3,exp3_j14),(4,neg4_j14),(5,trunc5_j14),(7,i7_j14),(8,ok8_j14),(9,underscores9_j14),(10,base10_j14)] s:=by
  unfold J136_14
  simp only [J136_15_eq]
  refine cutK_of ?_
  kernel_rfl
def J136_13 (env:Env)  (s0_j13 mantissa2_j13 exp3_j13 neg4_j13 trunc5_j13 hex6_j13 i7_j13 ok8_j13 underscores9_j13 base10_j13 maxMantDigits11_j13 expChar12_j13 t54_j13:AV) (s:AS) (K:AV->AS->Prop) (X:PV->AS->Prop):Prop :=
 (condD t54_j13
 (J136_14 env  (s0_j13) (mantissa2_j13) (exp3_j13) (neg4_j13) (trunc5_j13) (i7_j13) (ok8_j13) (underscores9_j13) (.pv (.int .u64 16)) s K X)
 (J136_18 env  (s0_j13) (mantissa2_j13) (exp3_j13) (neg4_j13) (trunc5_j13) (hex6_j13) (i7_j13) (ok8_j13) (underscores9_j13) (base10_j13) (maxMantDigits11_j13) (expChar12_j13) s K X))
theorem J136_13_eq (env:Env)  (s0_j13 mantissa2_j13 exp3_j13 neg4_j13 trunc5_j13 hex6_j13 i7_j13 ok8_j13 underscores9_j13 base10_j13 maxMantDigits11_j13 expChar12_j13 t54_j13:AV) (s:AS) (K:AV->AS->Prop) (X:PV->AS->Prop):J136_13 env  s0_j13 mantissa2_j13 exp3_j13 neg4_j13 trunc5_j13 hex6_j13 i7_j13 ok8_j13 underscores9_j13 base10_j13 maxMantDigits11_j13 expChar12_j13 t54_j13 s K X=cutK (fun fr s=>wpD prog env an136 (subC (bodyC f136) [1,0,1,1,1,1,1,1,0,1]) (contQ prog env an136 (bodyC f136) [1,0,1,1,1,1,1,1,0,1] [] (rootQ prog f136 K X)) fr s) [(0,s0_j13),(2,mantissa2_j13),(3,exp3_j13),(4,neg4_j13),(5,trunc5_j13),(6,hex6_j13),(7,i7_j13),(8,ok8_j13),(9,underscores9_j13),(10,base10_j13),(11,maxMantDigits11_j13),(12,expChar12_j13),(54,t54_j13)] s:=by
  unfold J136_13
  simp only [J136_18_eq,J136_14_eq]
  refine cutK_of ?_
  kernel_rfl
def J136_12 (env:Env)  (s0_j12 mantissa2_j12 exp3_j12 neg4_j12 trunc5_j12 hex6_j12 i7_j12 ok8_j12 underscores9_j12 base10_j12 maxMantDigits11_j12 expChar12_j12:AV) (s:AS) (K:AV->AS->Prop) (X:PV->AS->Prop):Prop :=
 (lock binD prog .add 3 i7_j12 (.pv (.int .i64 2)) fun t37 =>
 (lock lenD prog 9 s0_j12 fun t39 =>
 (lock binD prog .lss 3 t37 t39 fun t40 =>
 (guardD t40 true
 (lock indexD prog 9 s0_j12 i7_j12 fun t44 =>
 (lock binD prog .eql 5 t44 (.pv (.int .u8 48)) fun t45 =>
 (guardD t45 true
 (lock binD prog .add 3 i7_j12 (.pv (.int .i64 1)) fun t50 =>
 (lock indexD prog 9 s0_j12 t50 fun t51 =>
 (env 170 [t51] s (fun t52 s1 =>
 (lock binD prog .eql 5 t52 (.pv (.int .u8 120)) fun t53 =>
 (J136_13 env  (s0_j12) (mantissa2_j12) (exp3_j12) (neg4_j12) (trunc5_j12) (hex6_j12) (i7_j12) (ok8_j12) (underscores9_j12) (base10_j12) (maxMantDigits11_j12) (expChar12_j12) (t53) s1 K X))) (panV X))))
 (J136_13 env  (s0_j12) (mantissa2_j12) (exp3_j12) (neg4_j12) (trunc5_j12) (hex6_j12) (i7_j12) (ok8_j12) (underscores9_j12) (base10_j12) (maxMantDigits11_j12) (expChar12_j12) (.pv (.bool false)) s K X))))
 (J136_13 env  (s0_j12) (mantissa2_j12) (exp3_j12) (neg4_j12) (trunc5_j12) (hex6_j12) (i7_j12) (ok8_j12) (underscores9_j12) (base10_j12) (maxMantDigits11_j12) (expChar12_j12) (.pv (.bool false)) s K X)))))
theorem J136_12_eq (env:Env)  (s0_j12 mantissa2_j12 exp3_j12 neg4_j12 trunc5_j12 hex6_j12 i7_j12 ok8_j12 underscores9_j12 base10_j12 maxMantDigits11_j12 expChar12_j12:AV) (s:AS) (K:AV->AS->Prop) (X:PV->AS->Prop):J136_12 env  s0_j12 mantissa2_j12 exp3_j12 neg4_j12 trunc5_j12 hex6_j12 i7_j12 ok8_j12 underscores9_j12 base10_j12 maxMantDigits11_j12 expChar12_j12 s K X=cutK (fun fr s=>wpD prog env an136 (subC (bodyC f136) [1,0,1,1,1,1,1,1]) (contQ prog env an136 (bodyC f136) [1,0,1,1,1,1,1,1] [] (rootQ prog f136 K X)) fr s) [(0,s0_j12),(2,mantissa2_j12),(3,exp3_j12),(4,neg4_j12),(5,trunc5_j12),(6,hex6_j12),(7,i7_j12),(8,ok8_j12),(9,underscores9_j12),(10,base10_j12),(11,maxMantDigits11_j12),(12,expChar12_j12)] s:=by
  unfold J136_12
  simp only [J136_13_eq]
  refine cutK_of ?_
  kernel_rfl
def J136_11 (env:Env)  (s0_j11 mantissa2_j11 exp3_j11 neg4_j11 trunc5_j11 hex6_j11 i7_j11 ok8_j11 underscores9_j11 base10_j11 maxMantDigits11_j11:AV) (s:AS) (K:AV->AS->Prop) (X:PV->AS->Prop):Prop :=
 (J136_12 env  (s0_j11) (mantissa2_j11) (exp3_j11) (neg4_j11) (trunc5_j11) (hex6_j11) (i7_j11) (ok8_j11) (underscores9_j11) (base10_j11) (maxMantDigits11_j11) (.pv (.int .u8 101)) s K X)
theorem J136_11_eq (env:Env)  (s0_j11 mantissa2_j11 exp3_j11 neg4_j11 trunc5_j11 hex6_j11 i7_j11 ok8_j11 underscores9_j11 base10_j11 maxMantDigits11_j11:AV) (s:AS) (K:AV->AS->Prop) (X:PV->AS->Prop):J136_11 env  s0_j11 mantissa2_j11 exp3_j11 neg4_j11 trunc5_j11 hex6_j11 i7_j11 ok8_j11 underscores9_j11 base10_j11 maxMantDigits11_j11 s K X=cutK (fun fr s=>wpD prog env an136 (subC (bodyC f136) [1,0,1,1,1,1,1]) (contQ prog env an136 (bodyC f136) [1,0,1,1,1,1,1] [] (rootQ prog f136 K X)) fr s) [(0,s0_j11),(2,mantissa2_j11),(3,exp3_j11),(4,neg4_j11),(5,trunc5_j11),(6,hex6_j11),(7,i7_j11),(8,ok8_j11),(9,underscores9_j11),(10,base10_j11),(11,maxMantDigits11_j11)] s:=by
  unfold J136_11
  simp only [J136_12_eq]
  refine cutK_of ?_
  kernel_rfl
def J136_10 (env:Env)  (s0_j10 mantissa2_j10 exp3_j10 neg4_j10 trunc5_j10 hex6_j10 i7_j10 ok8_j10 underscores9_j10 base10_j10:AV) (s:AS) (K:AV->AS->Prop) (X:PV->AS->Prop):Prop :=
 (J136_11 env  (s0_j10) (mantissa2_j10) (exp3_j10) (neg4_j10) (trunc5_j10) (hex6_j10) (i7_j10) (ok8_j10) (underscores9_j10) (base10_j10) (.pv (.int .i64 19)) s K X)
theorem J136_10_eq (env:Env)  (s0_j10 mantissa2_j10 exp3_j10 neg4_j10 trunc5_j10 hex6_j10 i7_j10 ok8_j10 underscores9_j10 base10_j10:AV) (s:AS) (K:AV->AS->Prop) (X:PV->AS->Prop):J136_10 env  s0_j10 mantissa2_j10 exp3_j10 neg4_j10 trunc5_j10 hex6_j10 i7_j10 ok8_j10 underscores9_j10 base10_j10 s K X=cutK (fun fr s=>wpD prog env an136 (subC (bodyC f136) [1,0,1,1,1,1]) (contQ prog env an136 (bodyC f136) [1,0,1,1,1,1] [] (rootQ prog f136 K X)) fr s) [(0,s0_j10),(2,mantissa2_j10),(3,exp3_j10),(4,neg4_j10),(5,trunc5_j10),(6,hex6_j10),(7,i7_j10),(8,ok8_j10),(9,underscores9_j10),(10,base10_j10)] s:=by
  unfold J136_10
  simp only [J136_11_eq]
  refine cutK_of ?_
  kernel_rfl
def J136_9 (env:Env)  (s0_j9 mantissa2_j9 exp3_j9 neg4_j9 trunc5_j9 hex6_j9 i7_j9 ok8_j9 underscores9_j9:AV) (s:AS) (K:AV->AS->Prop) (X:PV->AS->Prop):Prop :=
 (J136_10 env  (s0_j9) (mantissa2_j9) (exp3_j9) (neg4_j9) (trunc5_j9) (hex6_j9) (i7_j9) (ok8_j9) (underscores9_j9) (.pv (.int .u64 10)) s K X)
theorem J136_9_eq (env:Env)  (s0_j9 mantissa2_j9 exp3_j9 neg4_j9 trunc5_j9 hex6_j9 i7_j9 ok8_j9 underscores9_j9:AV) (s:AS) (K:AV->AS->Prop) (X:PV->AS->Prop):J136_9 env  s0_j9 mantissa2_j9 exp3_j9 neg4_j9 trunc5_j9 hex6_j9 i7_j9 ok8_j9 underscores9_j9 s K X=cutK (fun fr s=>wpD prog env an136 (subC (bodyC f136) [1,0,1,1,1]) (contQ prog env an136 (bodyC f136) [1,0,1,1,1] [] (rootQ prog f136 K X)) fr s) [(0,s0_j9),(2,mantissa2_j9),(3,exp3_j9),(4,neg4_j9),(5,trunc5_j9),(6,hex6_j9),(7,i7_j9),(8,ok8_j9),(9,underscores9_j9)] s:=by
  unfold J136_9
  simp only [J136_10_eq]
  refine cutK_of ?_
  kernel_rfl
def J136_7_53 (env:Env)  (s0_j7 mantissa2_j7 exp3_j7 neg4_j7 trunc5_j7 hex6_j7 i7_j7 ok8_j7 underscores9_j7 t32_j7:AV) (s:AS) (K:AV->AS->Prop) (X:PV->AS->Prop):Prop :=
 (condD t32_j7
 (lock binD prog .add 3 i7_j7 (.pv (.int .i64 1)) fun t35 =>
 (J136_9 env  (s0_j7) (mantissa2_j7) (exp3_j7) (.pv (.bool true)) (trunc5_j7) (hex6_j7) (t35) (ok8_j7) (underscores9_j7) s K X))
 (J136_9 env  (s0_j7) (mantissa2_j7) (exp3_j7) (neg4_j7) (trunc5_j7) (hex6_j7) (i7_j7) (ok8_j7) (underscores9_j7) s K X))
theorem J136_7_53_eq (env:Env)  (s0_j7 mantissa2_j7 exp3_j7 neg4_j7 trunc5_j7 hex6_j7 i7_j7 ok8_j7 underscores9_j7 t32_j7:AV) (s:AS) (K:AV->AS->Prop) (X:PV->AS->Prop):J136_7_53 env  s0_j7 mantissa2_j7 exp3_j7 neg4_j7 trunc5_j7 hex6_j7 i7_j7 ok8_j7 underscores9_j7 t32_j7 s K X=cutK (fun fr s=>wpD prog env an136 (subC (bodyC f136) [1,0,1,1,0,1,0,1,1,1]) (contQ prog env an136 (bodyC f136) [1,0,1,1,0,1,0,1,1,1] [] (rootQ prog f136 K X)) fr s) [(0,s0_j7),(2,mantissa2_j7),(3,exp3_j7),(4,neg4_j7),(5,trunc5_j7),(6,hex6_j7),(7,i7_j7),(8,ok8_j7),(9,underscores9_j7),(32,t32_j7)] s:=by
  unfold J136_7_53
  simp only [J136_9_eq]
  refine cutK_of ?_
  kernel_rfl
def J136_5 (env:Env)  (s0_j5 mantissa2_j5 exp3_j5 neg4_j5 trunc5_j5 hex6_j5 i7_j5 ok8_j5 underscores9_j5 t27_j5 t28_j5:AV) (s:AS) (K:AV->AS->Prop) (X:PV->AS->Prop):Prop :=
 (condD t28_j5
 (lock binD prog .add 3 i7_j5 (.pv (.int .i64 1)) fun t31 =>
 (J136_9 env  (s0_j5) (mantissa2_j5) (exp3_j5) (neg4_j5) (trunc5_j5) (hex6_j5) (t31) (ok8_j5) (underscores9_j5) s K X))
 (lock binD prog .eql 5 t27_j5 (.pv (.int .u8 45)) fun t33 =>
 (J136_7_53 env  (s0_j5) (mantissa2_j5) (exp3_j5) (neg4_j5) (trunc5_j5) (hex6_j5) (i7_j5) (ok8_j5) (underscores9_j5) (t33) s K X)))
theorem J136_5_eq (env:Env)  (s0_j5 mantissa2_j5 exp3_j5 neg4_j5 trunc5_j5 hex6_j5 i7_j5 ok8_j5 underscores9_j5 t27_j5 t28_j5:AV) (s:AS) (K:AV->AS->Prop) (X:PV->AS->Prop):J136_5 env  s0_j5 mantissa2_j5 exp3_j5 neg4_j5 trunc5_j5 hex6_j5 i7_j5 ok8_j5 underscores9_j5 t27_j5 t28_j5 s K X=cutK (fun fr s=>wpD prog env an136 (subC (bodyC f136) [1,0,1,1,0,1,0,1]) (contQ prog env an136 (bodyC f136) [1,0,1,1,0,1,0,1] [] (rootQ prog f136 K X)) fr s) [(0,s0_j5),(2,mantissa2_j5),(3,exp3_j5),(4,neg4_j5),(5,trunc5_j5),(6,hex6_j5),(7,i7_j5),(8,ok8_j5),(9,underscores9_j5),(27,t27_j5),(28,t28_j5)] s:=by
  unfold J136_5
  simp only [J136_9_eq,J136_7_53_eq]
  refine cutK_of ?_
  kernel_rfl
def J136_4 (env:Env)  (s0_j4 mantissa2_j4 exp3_j4 neg4_j4 trunc5_j4 hex6_j4 i7_j4 ok8_j4 underscores9_j4 t27_j4:AV) (s:AS) (K:AV->AS->Prop) (X:PV->AS->Prop):Prop :=
 (lock binD prog .eql 5 t27_j4 (.pv (.int .u8 43)) fun t29 =>
 (J136_5 env  (s0_j4) (mantissa2_j4) (exp3_j4) (neg4_j4) (trunc5_j4) (hex6_j4) (i7_j4) (ok8_j4) (underscores9_j4) (t27_j4) (t29) s K X))
theorem J136_4_eq (env:Env)  (s0_j4 mantissa2_j4 exp3_j4 neg4_j4 trunc5_j4 hex6_j4 i7_j4 ok8_j4 underscores9_j4 t27_j4:AV) (s:AS) (K:AV->AS->Prop) (X:PV->AS->Prop):J136_4 env  s0_j4 mantissa2_j4 exp3_j4 neg4_j4 trunc5_j4 hex6_j4 i7_j4 ok8_j4 underscores9_j4 t27_j4 s K X=cutK (fun fr s=>wpD prog env an136 (subC (bodyC f136) [1,0,1,1,0,1]) (contQ prog env an136 (bodyC f136) [1,0,1,1,0,1] [] (rootQ prog f136 K X)) fr s) [(0,s0_j4),(2,mantissa2_j4),(3,exp3_j4),(4,neg4_j4),(5,trunc5_j4),(6,hex6_j4),(7,i7_j4),(8,ok8_j4),(9,underscores9_j4),(27,t27_j4)] s:=by
  unfold J136_4
  simp only [J136_5_eq]
  refine cutK_of ?_
  kernel_rfl
def J136_3 (env:Env)  (s0_j3 mantissa2_j3 exp3_j3 neg4_j3 trunc5_j3 hex6_j3 i7_j3 ok8_j3 underscores9_j3:AV) (s:AS) (K:AV->AS->Prop) (X:PV->AS->Prop):Prop :=
 (lock indexD prog 9 s0_j3 i7_j3 fun t27 =>
 (J136_4 env  (s0_j3) (mantissa2_j3) (exp3_j3) (neg4_j3) (trunc5_j3) (hex6_j3) (i7_j3) (ok8_j3) (underscores9_j3) (t27) s K X))
theorem J136_3_eq (env:Env)  (s0_j3 mantissa2_j3 exp3_j3 neg4_j3 trunc5_j3 hex6_j3 i7_j3 ok8_j3 underscores9_j3:AV) (s:AS) (K:AV->AS->Prop) (X:PV->AS->Prop):J136_3 env  s0_j3 mantissa2_j3 exp3_j3 neg4_j3 trunc5_j3 hex6_j3 i7_j3 ok8_j3 underscores9_j3 s K X=cutK (fun fr s=>wpD prog env an136 (subC (bodyC f136) [1,0,1,1]) (contQ prog env an136 (bodyC f136) [1,0,1,1] [] (rootQ prog f136 K X)) fr s) [(0,s0_j3),(2,mantissa2_j3),(3,exp3_j3),(4,neg4_j3),(5,trunc5_j3),(6,hex6_j3),(7,i7_j3),(8,ok8_j3),(9,underscores9_j3)] s:=by
  unfold J136_3
  simp only [J136_4_eq]
  refine cutK_of ?_
  kernel_rfl
def J136_2 (env:Env)  (s0_j2 mantissa2_j2 exp3_j2 neg4_j2 trunc5_j2 hex6_j2 i7_j2 ok8_j2 underscores9_j2:AV) (s:AS) (K:AV->AS->Prop) (X:PV->AS->Prop):Prop :=
 (lock lenD prog 9 s0_j2 fun t23 =>
 (lock binD prog .geq 3 i7_j2 t23 fun t24 =>
 (condD t24
 (retV (.tuple [mantissa2_j2,exp3_j2,neg4_j2,trunc5_j2,hex6_j2,i7_j2,ok8_j2]) s K)
 (J136_3 env  (s0_j2) (mantissa2_j2) (exp3_j2) (neg4_j2) (trunc5_j2) (hex6_j2) (i7_j2) (ok8_j2) (underscores9_j2) s K X))))
theorem J136_2_eq (env:Env)  (s0_j2 mantissa2_j2 exp3_j2 neg4_j2 trunc5_j2 hex6_j2 i7_j2 ok8_j2 underscores9_j2:AV) (s:AS) (K:AV->AS->Prop) (X:PV->AS->Prop):J136_2 env  s0_j2 mantissa2_j2 exp3_j2 neg4_j2 trunc5_j2 hex6_j2 i7_j2 ok8_j2 underscores9_j2 s K X=cutK (fun fr s=>wpD prog env an136 (subC (bodyC f136) [1,0,1]) (contQ prog env an136 (bodyC f136) [1,0,1] [] (rootQ prog f136 K X)) fr s) [(0,s0_j2),(2,mantissa2_j2),(3,exp3_j2),(4,neg4_j2),(5,trunc5_j2),(6,hex6_j2),(7,i7_j2),(8,ok8_j2),(9,underscores9_j2)] s:=by
  unfold J136_2
  simp only [J136_3_eq]
  refine cutK_of ?_
  kernel_rfl
def J136_1 (env:Env)  (s0_j1 mantissa2_j1 exp3_j1 neg4_j1 trunc5_j1 hex6_j1 i7_j1 ok8_j1:AV) (s:AS) (K:AV->AS->Prop) (X:PV->AS->Prop):Prop :=
 (J136_2 env  (s0_j1) (mantissa2_j1) (exp3_j1) (neg4_j1) (trunc5_j1) (hex6_j1) (i7_j1) (ok8_j1) (.pv (.bool false)) s K X)
theorem J136_1_eq (env:Env)  (s0_j1 mantissa2_j1 exp3_j1 neg4_j1 trunc5_j1 hex6_j1 i7_j1 ok8_j1:AV) (s:AS) (K:AV->AS->Prop) (X:PV->AS->Prop):J136_1 env  s0_j1 mantissa2_j1 exp3_j1 neg4_j1 trunc5_j1 hex6_j1 i7_j1 ok8_j1 s K X=cutK (fun fr s=>wpD prog env an136 (subC (bodyC f136) [1]) (contQ prog env an136 (bodyC f136) [1] [] (rootQ prog f136 K X)) fr s) [(0,s0_j1),(2,mantissa2_j1),(3,exp3_j1),(4,neg4_j1),(5,trunc5_j1),(6,hex6_j1),(7,i7_j1),(8,ok8_j1)] s:=by
  unfold J136_1
  simp only [J136_2_eq]
  refine cutK_of ?_
  kernel_rfl
def S136 (env:Env) (s0_a:AV) (s:AS) (K:AV->AS->Prop) (X:PV->AS->Prop):Prop :=
 (J136_1 env  (s0_a) (.pv (.int .u64 0)) (.pv (.int .i64 0)) (.pv (.bool false)) (.pv (.bool false)) (.pv (.bool false)) (.pv (.int .i64 0)) (.pv (.bool false)) s K X)
theorem S136_eq (env:Env) (s0_a:AV) (s:AS) (K:AV->AS->Prop) (X:PV->AS->Prop):S136 env s0_a s K X=bodyD prog env an136 f136 [s0_a] s K X:=by
  unfold S136
  simp only [J136_1_eq]
  kernel_rfl
theorem S136_ok:(match f136.body with | some c=>okCode an136 prog f136.ntmps c | none=>false)=true:=by kernel_rfl
end Go.AD
