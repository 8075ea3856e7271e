import Derived.Test.YteabilbccbhecaaGreatDoorM8
set_option linter.unusedVariables false
set_option maxRecDepth 100000
namespace Go.AD
open Go.Proofs.Tryz
def an142:An:={ mu:=[],cut:=[(1,[0,1,4]),(2,[0,1,4,5]),(3,[0,1,4,5]),(4,[0,1,4,5]),(5,[0,1,4,5]),(6,[0,1,4,5,22]),(7,[0,1,4,5,22,23]),(9,[0,1,4,5,27]),(10,[0,1,4,5]),(11,[0,1,4,5]),(12,[0,1,4,5,6]),(13,[0,1,4,5,6,7]),(15,[0,1,4,5,6,7]),(16,[0,1,4,5,6,7,40]),(17,[0,1,4,5,6,7,45]),(18,[0,1,4,5,7]),(19,[0,1,4,5,6,7]),(21,[0,1,4,5,6,7,58]),(22,[0,1,4,5,6,7]),(23,[0,1,4,5,6,7,79]),(24,[0,1,4,5,6,7]),(25,[0,1,4,5,6,7,91]),(26,[0,1,4,5,6,7]),(28,[0,1,4,5,6,7,113]),(29,[0,1,4,5,6,7]),(30,[0,1,4,5,6]),(31,[0,1,4,5,120]),(32,[0,1,4,5]),(33,[0,1,4,5,138]),(34,[0,1,4,5]),(35,[0,1,4,5]),(36,[0,1,4,5,8]),(37,[0,1,4,5,8,147]),(38,[0,1,4,5,8,147,148]),(40,[0,1,4,5,8,152]),(42,[0,1,4,5,8]),(43,[0,1,4,5,8]),(44,[0,1,4,5,8,9]),(46,[0,1,4,5,8,9]),(47,[0,1,4,5,8,9]),(48,[0,1,4,5,8,9,201]),(49,[0,1,4,5,8,9]),(50,[1,4,5])],loop:=[(13,[0,1,4,5,6,7]),(44,[0,1,4,5,8,9])] }
def J142_19 (env:Env) (I13:Nat->List AV->AS->Prop) (m13:Nat) (b0_j19 s1_j19 ok4_j19 i5_j19 sawdot6_j19 sawdigits7_j19:AV) (s:AS) (K:AV->AS->Prop) (X:PV->AS->Prop):Prop :=
 (lock nilD b0_j19 fun t53 =>
 (lock fieldAddrD prog 181 t53 1 fun t54 =>
 (lock loadD prog s 3 t54 fun t55 =>
 (lock nilD b0_j19 fun t56 =>
 (lock fieldAddrD prog 181 t56 2 fun t57 =>
 (lock storeD prog s 3 t57 t55 fun s4 =>
 (lock binD prog .add 3 i5_j19 (.pv (.int .i64 1)) fun t39 =>
 (∃ m',m' < m13/\I13 m' [b0_j19,s1_j19,ok4_j19,t39,sawdot6_j19,sawdigits7_j19] s4))))))))
theorem J142_19_eq (env:Env) (I13:Nat->List AV->AS->Prop) (m13:Nat) (b0_j19 s1_j19 ok4_j19 i5_j19 sawdot6_j19 sawdigits7_j19:AV) (s:AS) (K:AV->AS->Prop) (X:PV->AS->Prop):J142_19 env I13 m13 b0_j19 s1_j19 ok4_j19 i5_j19 sawdot6_j19 sawdigits7_j19 s K X=cutK (fun fr s=>wpD prog env an142 (subC (bodyC f142) [1,1,1,1,1,1,1,1,0,0,0,1,0,0,0,0,1,1,1,0,1,1]) (contQ prog env an142 (bodyC f142) [1,1,1,1,1,1,1,1,0,0,0,1,0,0,0,0,1,1,1,0,1,1] [(I13,m13)] (rootQ prog f142 K X)) fr s) [(0,b0_j19),(1,s1_j19),(4,ok4_j19),(5,i5_j19),(6,sawdot6_j19),(7,sawdigits7_j19)] s:=by
  unfold J142_19
  refine cutK_of ?_
  kernel_rfl
def J142_18 (env:Env) (I13:Nat->List AV->AS->Prop) (m13:Nat) (b0_j18 s1_j18 ok4_j18 i5_j18 sawdigits7_j18:AV) (s:AS) (K:AV->AS->Prop) (X:PV->AS->Prop):Prop :=
 (J142_19 env I13 m13 (b0_j18) (s1_j18) (ok4_j18) (i5_j18) (.pv (.bool true)) (sawdigits7_j18) s K X)
theorem J142_18_eq (env:Env) (I13:Nat->List AV->AS->Prop) (m13:Nat) (b0_j18 s1_j18 ok4_j18 i5_j18 sawdigits7_j18:AV) (s:AS) (K:AV->AS->Prop) (X:PV->AS->Prop):J142_18 env I13 m13 b0_j18 s1_j18 ok4_j18 i5_j18 sawdigits7_j18 s K X=cutK (fun fr s=>wpD prog env an142 (subC (bodyC f142) [1,1,1,1,1,1,1,1,0,0,0,1,0,0,0,0,1,1,1,0,1]) (contQ prog env an142 (bodyC f142) [1,1,1,1,1,1,1,1,0,0,0,1,0,0,0,0,1,1,1,0,1] [(I13,m13)] (rootQ prog f142 K X)) fr s) [(0,b0_j18),(1,s1_j18),(4,ok4_j18),(5,i5_j18),(7,sawdigits7_j18)] s:=by
  unfold J142_18
  simp only [J142_19_eq]
  refine cutK_of ?_
  kernel_rfl
def J142_26 (env:Env) (I13:Nat->List AV->AS->Prop) (m13:Nat) (b0_j26 s1_j26 ok4_j26 i5_j26 sawdot6_j26 sawdigits7_j26:AV) (s:AS) (K:AV->AS->Prop) (X:PV->AS->Prop):Prop :=
 (lock nilD b0_j26 fun t104 =>
 (lock fieldAddrD prog 181 t104 1 fun t105 =>
 (lock loadD prog s 3 t105 fun t106 =>
 (lock binD prog .add 3 t106 (.pv (.int .i64 1)) fun t107 =>
 (lock nilD b0_j26 fun t108 =>
 (lock fieldAddrD prog 181 t108 1 fun t109 =>
 (lock storeD prog s 3 t109 t107 fun s7 =>
 (lock binD prog .add 3 i5_j26 (.pv (.int .i64 1)) fun t39 =>
 (∃ m',m' < m13/\I13 m' [b0_j26,s1_j26,ok4_j26,t39,sawdot6_j26,sawdigits7_j26] s7)))))))))
theorem J142_26_eq (env:Env) (I13:Nat->List AV->AS->Prop) (m13:Nat) (b0_j26 s1_j26 ok4_j26 i5_j26 sawdot6_j26 sawdigits7_j26:AV) (s:AS) (K:AV->AS->Prop) (X:PV->AS->Prop):J142_26 env I13 m13 b0_j26 s1_j26 ok4_j26 i5_j26 sawdot6_j26 sawdigits7_j26 s K X=cutK (fun fr s=>wpD prog env an142 (subC (bodyC f142) [1,1,1,1,1,1,1,1,0,0,0,1,0,0,0,0,1,1,1,1,1,0,1,1,0,1,0,1]) (contQ prog env an142 (bodyC f142) [1,1,1,1,1,1,1,1,0,0,0,1,0,0,0,0,1,1,1,1,1,0,1,1,0,1,0,1] [(I13,m13)] (rootQ prog f142 K X)) fr s) [(0,b0_j26),(1,s1_j26),(4,ok4_j26),(5,i5_j26),(6,sawdot6_j26),(7,sawdigits7_j26)] s:=by
  unfold J142_26
  refine cutK_of ?_
  kernel_rfl
def J142_28 (env:Env) (I13:Nat->List AV->AS->Prop) (m13:Nat) (b0_j28 s1_j28 ok4_j28 i5_j28 sawdot6_j28 sawdigits7_j28 t113_j28:AV) (s:AS) (K:AV->AS->Prop) (X:PV->AS->Prop):Prop :=
 (condD t113_j28
 (lock nilD b0_j28 fun t115 =>
 (lock fieldAddrD prog 181 t115 4 fun t116 =>
 (lock storeD prog s 4 t116 (.pv (.bool true)) fun s8 =>
 (lock binD prog .add 3 i5_j28 (.pv (.int .i64 1)) fun t39 =>
 (∃ m',m' < m13/\I13 m' [b0_j28,s1_j28,ok4_j28,t39,sawdot6_j28,sawdigits7_j28] s8)))))
 (lock binD prog .add 3 i5_j28 (.pv (.int .i64 1)) fun t39 =>
 (∃ m',m' < m13/\I13 m' [b0_j28,s1_j28,ok4_j28,t39,sawdot6_j28,sawdigits7_j28] s)))
theorem J142_28_eq (env:Env) (I13:Nat->List AV->AS->Prop) (m13:Nat) (b0_j28 s1_j28 ok4_j28 i5_j28 sawdot6_j28 sawdigits7_j28 t113_j28:AV) (s:AS) (K:AV->AS->Prop) (X:PV->AS->Prop):J142_28 env I13 m13 b0_j28 s1_j28 ok4_j28 i5_j28 sawdot6_j28 sawdigits7_j28 t113_j28 s K X=cutK (fun fr s=>wpD prog env an142 (subC (bodyC f142) [1,1,1,1,1,1,1,1,0,0,0,1,0,0,0,0,1,1,1,1,1,0,1,1,0,1,1,1]) (contQ prog env an142 (bodyC f142) [1,1,1,1,1,1,1,1,0,0,0,1,0,0,0,0,1,1,1,1,1,0,1,1,0,1,1,1] [(I13,m13)] (rootQ prog f142 K X)) fr s) [(0,b0_j28),(1,s1_j28),(4,ok4_j28),(5,i5_j28),(6,sawdot6_j28),(7,sawdigits7_j28),(113,t113_j28)] s:=by
  unfold J142_28
  refine cutK_of ?_
  kernel_rfl
def J142_25 (env:Env) (I13:Nat->List AV->AS->Prop) (m13:Nat) (b0_j25 s1_j25 ok4_j25 i5_j25 sawdot6_j25 sawdigits7_j25 t91_j25:AV) (s:AS) (K:AV->AS->Prop) (X:PV->AS->Prop):Prop :=
 (condD t91_j25
 (lock nilD b0_j25 fun t94 =>
 (lock fieldAddrD prog 181 t94 1 fun t95 =>
 (lock loadD prog s 3 t95 fun t96 =>
 (lock indexD prog 9 s1_j25 i5_j25 fun t99 =>
 (lock nilD b0_j25 fun t100 =>
 (lock fieldAddrD prog 181 t100 0 fun t101 =>
 (lock indexAddrD prog 179 t101 t96 fun t102 =>
 (lock storeD prog s 5 t102 t99 fun s6 =>
 (J142_26 env I13 m13 (b0_j25) (s1_j25) (ok4_j25) (i5_j25) (sawdot6_j25) (sawdigits7_j25) s6 K X)))))))))
 (lock indexD prog 9 s1_j25 i5_j25 fun t112 =>
 (lock binD prog .neq 5 t112 (.pv (.int .u8 48)) fun t113 =>
 (J142_28 env I13 m13 (b0_j25) (s1_j25) (ok4_j25) (i5_j25) (sawdot6_j25) (sawdigits7_j25) (t113) s K X))))
theorem J142_25_eq (env:Env) (I13:Nat->List AV->AS->Prop) (m13:Nat) (b0_j25 s1_j25 ok4_j25 i5_j25 sawdot6_j25 sawdigits7_j25 t91_j25:AV) (s:AS) (K:AV->AS->Prop) (X:PV->AS->Prop):J142_25 env I13 m13 b0_j25 s1_j25 ok4_j25 i5_j25 sawdot6_j25 sawdigits7_j25 t91_j25 s K X=cutK (fun fr s=>wpD prog env an142 (subC (bodyC f142) [1,1,1,1,1,1,1,1,0,0,0,1,0,0,0,0,1,1,1,1,1,0,1,1,0,1]) (contQ prog env an142 (bodyC f142) [1,1,1,1,1,1,1,1,0,0,0,1,0,0,0,0,1,1,1,1,1,0,1,1,0,1] [(I13,m13)] (rootQ prog f142 K X)) fr s) [(0,b0_j25),(1,s1_j25),(4,ok4_j25),(5,i5_j25),(6,sawdot6_j25),(7,sawdigits7_j25),(91,t91_j25)] s:=by
  unfold J142_25
  simp only [J142_26_eq,J142_28_eq]
  refine cutK_of ?_
  kernel_rfl
def J142_24 (env:Env) (I13:Nat->List AV->AS->Prop) (m13:Nat) (b0_j24 s1_j24 ok4_j24 i5_j24 sawdot6_j24 sawdigits7_j24:AV) (s:AS) (K:AV->AS->Prop) (X:PV->AS->Prop):Prop :=
 (lock nilD b0_j24 fun t88 =>
 (lock fieldAddrD prog 181 t88 1 fun t89 =>
 (lock loadD prog s 3 t89 fun t90 =>
 (lock binD prog .lss 3 t90 (.pv (.int .i64 800)) fun t91 =>
 (J142_25 env I13 m13 (b0_j24) (s1_j24) (ok4_j24) (i5_j24) (sawdot6_j24) (sawdigits7_j24) (t91) s K X)))))
theorem J142_24_eq (env:Env) (I13:Nat->List AV->AS->Prop) (m13:Nat) (b0_j24 s1_j24 ok4_j24 i5_j24 sawdot6_j24 sawdigits7_j24:AV) (s:AS) (K:AV->AS->Prop) (X:PV->AS->Prop):J142_24 env I13 m13 b0_j24 s1_j24 ok4_j24 i5_j24 sawdot6_j24 sawdigits7_j24 s K X=cutK (fun fr s=>wpD prog env an142 (subC (bodyC f142) [1,1,1,1,1,1,1,1,0,0,0,1,0,0,0,0,1,1,1,1,1,0,1,1]) (contQ prog env an142 (bodyC f142) [1,1,1,1,1,1,1,1,0,0,0,1,0,0,0,0,1,1,1,1,1,0,1,1] [(I13,m13)] (rootQ prog f142 K X)) fr s) [(0,b0_j24),(1,s1_j24),(4,ok4_j24),(5,i5_j24),(6,sawdot6_j24),(7,sawdigits7_j24)] s:=by
  unfold J142_24
  simp only [J142_25_eq]
  refine cutK_of ?_
  kernel_rfl
def J142_23 (env:Env) (I13:Nat->List AV->AS->Prop) (m13:Nat) (b0_j23 s1_j23 ok4_j23 i5_j23 sawdot6_j23 sawdigits7_j23 t79_j23:AV) (s:AS) (K:AV->AS->Prop) (X:PV->AS->Prop):Prop :=
 (condD t79_j23
 (lock nilD b0_j23 fun t81 =>
 (lock fieldAddrD prog 181 t81 2 fun t82 =>
 (lock loadD prog s 3 t82 fun t83 =>
 (lock binD prog .sub 3 t83 (.pv (.int .i64 1)) fun t84 =>
 (lock nilD b0_j23 fun t85 =>
 (lock fieldAddrD prog 181 t85 2 fun t86 =>
 (lock storeD prog s 3 t86 t84 fun s5 =>
 (lock binD prog .add 3 i5_j23 (.pv (.int .i64 1)) fun t39 =>
 (∃ m',m' < m13/\I13 m' [b0_j23,s1_j23,ok4_j23,t39,sawdot6_j23,sawdigits7_j23] s5)))))))))
 (J142_24 env I13 m13 (b0_j23) (s1_j23) (ok4_j23) (i5_j23) (sawdot6_j23) (sawdigits7_j23) s K X))
theorem J142_23_eq (env:Env) (I13:Nat->List AV->AS->Prop) (m13:Nat) (b0_j23 s1_j23 ok4_j23 i5_j23 sawdot6_j23 sawdigits7_j23 t79_j23:AV) (s:AS) (K:AV->AS->Prop) (X:PV->AS->Prop):J142_23 env I13 m13 b0_j23 s1_j23 ok4_j23 i5_j23 sawdot6_j23 sawdigits7_j23 t79_j23 s K X=cutK (fun fr s=>wpD prog env an142 (subC (bodyC f142) [1,1,1,1,1,1,1,1,0,0,0,1,0,0,0,0,1,1,1,1,1,0,1,0,1]) (contQ prog env an142 (bodyC f142) [1,1,1,1,1,1,1,1,0,0,0,1,0,0,0,0,1,1,1,1,1,0,1,0,1] [(I13,m13)] (rootQ prog f142 K X)) fr s) [(0,b0_j23),(1,s1_j23),(4,ok4_j23),(5,i5_j23),(6,sawdot6_j23),(7,sawdigits7_j23),(79,t79_j23)] s:=by
  unfold J142_23
  simp only [J142_24_eq]
  refine cutK_of ?_
  kernel_rfl
def J142_22 (env:Env) (I13:Nat->List AV->AS->Prop) (m13:Nat) (b0_j22 s1_j22 ok4_j22 i5_j22 sawdot6_j22 sawdigits7_j22:AV) (s:AS) (K:AV->AS->Prop) (X:PV->AS->Prop):Prop :=
 (lock indexD prog 9 s1_j22 i5_j22 fun t71 =>
 (lock binD prog .eql 5 t71 (.pv (.int .u8 48)) fun t72 =>
 (guardD t72 true
 (lock nilD b0_j22 fun t75 =>
 (lock fieldAddrD prog 181 t75 1 fun t76 =>
 (lock loadD prog s 3 t76 fun t77 =>
 (lock binD prog .eql 3 t77 (.pv (.int .i64 0)) fun t78 =>
 (J142_23 env I13 m13 (b0_j22) (s1_j22) (ok4_j22) (i5_j22) (sawdot6_j22) (sawdigits7_j22) (t78) s K X)))))
 (J142_23 env I13 m13 (b0_j22) (s1_j22) (ok4_j22) (i5_j22) (sawdot6_j22) (sawdigits7_j22) (.pv (.bool false)) s K X))))
theorem J142_22_eq (env:Env) (I13:Nat->List AV->AS->Prop) (m13:Nat) (b0_j22 s1_j22 ok4_j22 i5_j22 sawdot6_j22 sawdigits7_j22:AV) (s:AS) (K:AV->AS->Prop) (X:PV->AS->Prop):J142_22 env I13 m13 b0_j22 s1_j22 ok4_j22 i5_j22 sawdot6_j22 sawdigits7_j22 s K X=cutK (fun fr s=>wpD prog env an142 (subC (bodyC f142) [1,1,1,1,1,1,1,1,0,0,0,1,0,0,0,0,1,1,1,1,1,0,1]) (contQ prog env an142 (bodyC f142) [1,1,1,1,1,1,1,1,0,0,0,1,0,0,0,0,1,1,1,1,1,0,1] [(I13,m13)] (rootQ prog f142 K X)) fr s) [(0,b0_j22),(1,s1_j22),(4,ok4_j22),(5,i5_j22),(6,sawdot6_j22),(7,sawdigits7_j22)] s:=by
  unfold J142_22
  simp only [J142_23_eq]
  refine cutK_of ?_
  kernel_rfl
def J142_48 (env:Env) (I44:Nat->List AV->AS->Prop) (m44:Nat) (b0_j48 s1_j48 ok4_j48 i5_j48 esign8_j48 e9_j48 t201_j48:AV) (s:AS) (K:AV->AS->Prop) (X:PV->AS->Prop):Prop :=
 (condD t201_j48
 (lock binD prog .mul 3 e9_j48 (.pv (.int .i64 10)) fun t203 =>
 (lock indexD prog 9 s1_j48 i5_j48 fun t206 =>
 (lock convD prog s 5 3 t206 fun t207 =>
 (lock binD prog .add 3 t203 t207 fun t208 =>
 (lock binD prog .sub 3 t208 (.pv (.int .i64 48)) fun t209 =>
 (lock binD prog .add 3 i5_j48 (.pv (.int .i64 1)) fun t195 =>
 (∃ m',m' < m44/\I44 m' [b0_j48,s1_j48,ok4_j48,t195,esign8_j48,t209] s)))))))
 (lock binD prog .add 3 i5_j48 (.pv (.int .i64 1)) fun t195 =>
 (∃ m',m' < m44/\I44 m' [b0_j48,s1_j48,ok4_j48,t195,esign8_j48,e9_j48] s)))
theorem J142_48_eq (env:Env) (I44:Nat->List AV->AS->Prop) (m44:Nat) (b0_j48 s1_j48 ok4_j48 i5_j48 esign8_j48 e9_j48 t201_j48:AV) (s:AS) (K:AV->AS->Prop) (X:PV->AS->Prop):J142_48 env I44 m44 b0_j48 s1_j48 ok4_j48 i5_j48 esign8_j48 e9_j48 t201_j48 s K X=cutK (fun fr s=>wpD prog env an142 (subC (bodyC f142) [1,1,1,1,1,1,1,1,1,1,1,0,1,0,1,1,1,1,1,1,0,0,0,1,0,0,1,1]) (contQ prog env an142 (bodyC f142) [1,1,1,1,1,1,1,1,1,1,1,0,1,0,1,1,1,1,1,1,0,0,0,1,0,0,1,1] [(I44,m44)] (rootQ prog f142 K X)) fr s) [(0,b0_j48),(1,s1_j48),(4,ok4_j48),(5,i5_j48),(8,esign8_j48),(9,e9_j48),(201,t201_j48)] s:=by
  unfold J142_48
  refine cutK_of ?_
  kernel_rfl
def J142_47 (env:Env) (I44:Nat->List AV->AS->Prop) (m44:Nat) (b0_j47 s1_j47 ok4_j47 i5_j47 esign8_j47 e9_j47:AV) (s:AS) (K:AV->AS->Prop) (X:PV->AS->Prop):Prop :=
 (lock binD prog .lss 3 e9_j47 (.pv (.int .i64 10000)) fun t201 =>
 (J142_48 env I44 m44 (b0_j47) (s1_j47) (ok4_j47) (i5_j47) (esign8_j47) (e9_j47) (t201) s K X))
theorem J142_47_eq (env:Env) (I44:Nat->List AV->AS->Prop) (m44:Nat) (b0_j47 s1_j47 ok4_j47 i5_j47 esign8_j47 e9_j47:AV) (s:AS) (K:AV->AS->Prop) (X:PV->AS->Prop):J142_47 env I44 m44 b0_j47 s1_j47 ok4_j47 i5_j47 esign8_j47 e9_j47 s K X=cutK (fun fr s=>wpD prog env an142 (subC (bodyC f142) [1,1,1,1,1,1,1,1,1,1,1,0,1,0,1,1,1,1,1,1,0,0,0,1,0,0,1]) (contQ prog env an142 (bodyC f142) [1,1,1,1,1,1,1,1,1,1,1,0,1,0,1,1,1,1,1,1,0,0,0,1,0,0,1] [(I44,m44)] (rootQ prog f142 K X)) fr s) [(0,b0_j47),(1,s1_j47),(4,ok4_j47),(5,i5_j47),(8,esign8_j47),(9,e9_j47)] s:=by
  unfold J142_47
  simp only [J142_48_eq]
  refine cutK_of ?_
  kernel_rfl
def J142_46 (env:Env) (I44:Nat->List AV->AS->Prop) (m44:Nat) (b0_j46 s1_j46 ok4_j46 i5_j46 esign8_j46 e9_j46:AV) (s:AS) (K:AV->AS->Prop) (X:PV->AS->Prop):Prop :=
 (lock indexD prog 9 s1_j46 i5_j46 fun t198 =>
 (lock binD prog .eql 5 t198 (.pv (.int .u8 95)) fun t199 =>
 (condD t199
 (lock binD prog .add 3 i5_j46 (.pv (.int .i64 1)) fun t195 =>
 (∃ m',m' < m44/\I44 m' [b0_j46,s1_j46,ok4_j46,t195,esign8_j46,e9_j46] s))
 (J142_47 env I44 m44 (b0_j46) (s1_j46) (ok4_j46) (i5_j46) (esign8_j46) (e9_j46) s K X))))
theorem J142_46_eq (env:Env) (I44:Nat->List AV->AS->Prop) (m44:Nat) (b0_j46 s1_j46 ok4_j46 i5_j46 esign8_j46 e9_j46:AV) (s:AS) (K:AV->AS->Prop) (X:PV->AS->Prop):J142_46 env I44 m44 b0_j46 s1_j46 ok4_j46 i5_j46 esign8_j46 e9_j46 s K X=cutK (fun fr s=>wpD prog env an142 (subC (bodyC f142) [1,1,1,1,1,1,1,1,1,1,1,0,1,0,1,1,1,1,1,1,0,0,0,1]) (contQ prog env an142 (bodyC f142) [1,1,1,1,1,1,1,1,1,1,1,0,1,0,1,1,1,1,1,1,0,0,0,1] [(I44,m44)] (rootQ prog f142 K X)) fr s) [(0,b0_j46),(1,s1_j46),(4,ok4_j46),(5,i5_j46),(8,esign8_j46),(9,e9_j46)] s:=by
  unfold J142_46
  simp only [J142_47_eq]
  refine cutK_of ?_
  kernel_rfl
def J142_50 (env:Env)  (s1_j50 ok4_j50 i5_j50:AV) (s:AS) (K:AV->AS->Prop) (X:PV->AS->Prop):Prop :=
 (lock lenD prog 9 s1_j50 fun t222 =>
 (lock binD prog .neq 3 i5_j50 t222 fun t223 =>
 (condD t223
 (retV (ok4_j50) s K)
 (retV ((.pv (.bool true))) s K))))
theorem J142_50_eq (env:Env)  (s1_j50 ok4_j50 i5_j50:AV) (s:AS) (K:AV->AS->Prop) (X:PV->AS->Prop):J142_50 env  s1_j50 ok4_j50 i5_j50 s K X=cutK (fun fr s=>wpD prog env an142 (subC (bodyC f142) [1,1,1,1,1,1,1,1,1,1,1,1]) (contQ prog env an142 (bodyC f142) [1,1,1,1,1,1,1,1,1,1,1,1] [] (rootQ prog f142 K X)) fr s) [(1,s1_j50),(4,ok4_j50),(5,i5_j50)] s:=by
  unfold J142_50
  refine cutK_of ?_
  kernel_rfl
def J142_49 (env:Env)  (b0_j49 s1_j49 ok4_j49 i5_j49 esign8_j49 e9_j49:AV) (s:AS) (K:AV->AS->Prop) (X:PV->AS->Prop):Prop :=
 (lock nilD b0_j49 fun t211 =>
 (lock fieldAddrD prog 181 t211 2 fun t212 =>
 (lock loadD prog s 3 t212 fun t213 =>
 (lock binD prog .mul 3 e9_j49 esign8_j49 fun t216 =>
 (lock binD prog .add 3 t213 t216 fun t217 =>
 (lock nilD b0_j49 fun t218 =>
 (lock fieldAddrD prog 181 t218 2 fun t219 =>
 (lock storeD prog s 3 t219 t217 fun s12 =>
 (J142_50 env  (s1_j49) (ok4_j49) (i5_j49) s12 K X)))))))))
theorem J142_49_eq (env:Env)  (b0_j49 s1_j49 ok4_j49 i5_j49 esign8_j49 e9_j49:AV) (s:AS) (K:AV->AS->Prop) (X:PV->AS->Prop):J142_49 env  b0_j49 s1_j49 ok4_j49 i5_j49 esign8_j49 e9_j49 s K X=cutK (fun fr s=>wpD prog env an142 (subC (bodyC f142) [1,1,1,1,1,1,1,1,1,1,1,0,1,0,1,1,1,1,1,1,1]) (contQ prog env an142 (bodyC f142) [1,1,1,1,1,1,1,1,1,1,1,0,1,0,1,1,1,1,1,1,1] [] (rootQ prog f142 K X)) fr s) [(0,b0_j49),(1,s1_j49),(4,ok4_j49),(5,i5_j49),(8,esign8_j49),(9,e9_j49)] s:=by
  unfold J142_49
  simp only [J142_50_eq]
  refine cutK_of ?_
  kernel_rfl
def L142_44 (env:Env) (I44:Nat->List AV->AS->Prop) (m44:Nat) (b0_l44 s1_l44 ok4_l44 i5_l44 esign8_l44 e9_l44:AV) (s:AS) (K:AV->AS->Prop) (X:PV->AS->Prop):Prop :=
 (lock lenD prog 9 s1_l44 fun t174 =>
 (lock binD prog .lss 3 i5_l44 t174 fun t175 =>
 (guardD t175 true
 (lock indexD prog 9 s1_l44 i5_l44 fun t179 =>
 (lock binD prog .leq 5 (.pv (.int .u8 48)) t179 fun t180 =>
 (guardD t180 true
 (lock indexD prog 9 s1_l44 i5_l44 fun t184 =>
 (lock binD prog .leq 5 t184 (.pv (.int .u8 57)) fun t185 =>
 (guardD t185 false
 (lock indexD prog 9 s1_l44 i5_l44 fun t190 =>
 (lock binD prog .eql 5 t190 (.pv (.int .u8 95)) fun t191 =>
 (condD t191
 (J142_46 env I44 m44 (b0_l44) (s1_l44) (ok4_l44) (i5_l44) (esign8_l44) (e9_l44) s K X)
 (J142_49 env  (b0_l44) (s1_l44) (ok4_l44) (i5_l44) (esign8_l44) (e9_l44) s K X))))
 (J142_46 env I44 m44 (b0_l44) (s1_l44) (ok4_l44) (i5_l44) (esign8_l44) (e9_l44) s K X))))
 (lock indexD prog 9 s1_l44 i5_l44 fun t190 =>
 (lock binD prog .eql 5 t190 (.pv (.int .u8 95)) fun t191 =>
 (condD t191
 (J142_46 env I44 m44 (b0_l44) (s1_l44) (ok4_l44) (i5_l44) (esign8_l44) (e9_l44) s K X)
 (J142_49 env  (b0_l44) (s1_l44) (ok4_l44) (i5_l44) (esign8_l44) (e9_l44) s K X)))))))
 (J142_49 env  (b0_l44) (s1_l44) (ok4_l44) (i5_l44) (esign8_l44) (e9_l44) s K X))))
theorem L142_44_eq (env:Env) (I44:Nat->List AV->AS->Prop) (m44:Nat) (b0_l44 s1_l44 ok4_l44 i5_l44 esign8_l44 e9_l44:AV) (s:AS) (K:AV->AS->Prop) (X:PV->AS->Prop):L142_44 env I44 m44 b0_l44 s1_l44 ok4_l44 i5_l44 esign8_l44 e9_l44 s K X=wpD prog env an142 (subC (bodyC f142) [1,1,1,1,1,1,1,1,1,1,1,0,1,0,1,1,1,1,1,1,0,0,0]) (contQ prog env an142 (bodyC f142) [1,1,1,1,1,1,1,1,1,1,1,0,1,0,1,1,1,1,1,1,0,0,0] [(I44,m44)] (rootQ prog f142 K X)) [(0,b0_l44),(1,s1_l44),(4,ok4_l44),(5,i5_l44),(8,esign8_l44),(9,e9_l44)] s:=by
  unfold L142_44
  simp only [J142_46_eq,J142_49_eq]
  kernel_rfl
theorem lp142_44 {α:Type} {env:Env}  {b0_l44 s1_l44 ok4_l44 esign8_l44:AV} {s:AS} {K:AV->AS->Prop} {X:PV->AS->Prop} (μ:α->AS->Nat) (I:α->AS->Prop) (ei5_l44 ee9_l44:α->AV) (a0:α) (h0:I a0 s)
 (h:∀ a s,I a s->L142_44 env  (Inv (fun a=>[b0_l44,s1_l44,ok4_l44,ei5_l44 a,esign8_l44,ee9_l44 a]) μ I) (μ a s) b0_l44 s1_l44 ok4_l44 (ei5_l44 a) esign8_l44 (ee9_l44 a) s K X) :
 ∃ I44:Nat->List AV->AS->Prop,(∃ m,I44 m [b0_l44,s1_l44,ok4_l44,ei5_l44 a0,esign8_l44,ee9_l44 a0] s)/\∀ (m:Nat) (x0 x1 x2 x3 x4 x5:AV),∀ s,I44 m [x0,x1,x2,x3,x4,x5] s ->
 L142_44 env  I44 m x0 x1 x2 x3 x4 x5 s K X:=by
  refine ⟨Inv (fun a=>[b0_l44,s1_l44,ok4_l44,ei5_l44 a,esign8_l44,ee9_l44 a]) μ I,⟨_,a0,rfl,rfl,h0⟩,?_⟩
  rintro m x0 x1 x2 x3 x4 x5 s' ⟨a,hv,rfl,hI⟩
  simp only [List.cons.injEq,and_true] at hv
  obtain ⟨rfl,rfl,rfl,rfl,rfl,rfl⟩:=hv
  exact h a s' hI
def J142_44 (env:Env)  (b0_j44 s1_j44 ok4_j44 i5_j44 esign8_j44 e9_j44:AV) (s:AS) (K:AV->AS->Prop) (X:PV->AS->Prop):Prop :=
 (∃ I44:Nat->List AV->AS->Prop,(∃ m,I44 m [b0_j44,s1_j44,ok4_j44,i5_j44,esign8_j44,e9_j44] s)/\∀ (m44:Nat) (b0_l44 s1_l44 ok4_l44 i5_l44 esign8_l44 e9_l44:AV),∀ s11,I44 m44 [b0_l44,s1_l44,ok4_l44,i5_l44,esign8_l44,e9_l44] s11 ->
 (L142_44 env I44 m44 b0_l44 s1_l44 ok4_l44 i5_l44 esign8_l44 e9_l44 s11 K X))
theorem J142_44_eq (env:Env)  (b0_j44 s1_j44 ok4_j44 i5_j44 esign8_j44 e9_j44:AV) (s:AS) (K:AV->AS->Prop) (X:PV->AS->Prop):J142_44 env  b0_j44 s1_j44 ok4_j44 i5_j44 esign8_j44 e9_j44 s K X=cutK (fun fr s=>wpD prog env an142 (subC (bodyC f142) [1,1,1,1,1,1,1,1,1,1,1,0,1,0,1,1,1,1,1,1]) (contQ prog env an142 (bodyC f142) [1,1,1,1,1,1,1,1,1,1,1,0,1,0,1,1,1,1,1,1] [] (rootQ prog f142 K X)) fr s) [(0,b0_j44),(1,s1_j44),(4,ok4_j44),(5,i5_j44),(8,esign8_j44),(9,e9_j44)] s:=by
  unfold J142_44
  simp only [L142_44_eq]
  refine cutK_of ?_
  kernel_rfl
def J142_43 (env:Env)  (b0_j43 s1_j43 ok4_j43 i5_j43 esign8_j43:AV) (s:AS) (K:AV->AS->Prop) (X:PV->AS->Prop):Prop :=
 (J142_44 env  (b0_j43) (s1_j43) (ok4_j43) (i5_j43) (esign8_j43) (.pv (.int .i64 0)) s K X)
theorem J142_43_eq (env:Env)  (b0_j43 s1_j43 ok4_j43 i5_j43 esign8_j43:AV) (s:AS) (K:AV->AS->Prop) (X:PV->AS->Prop):J142_43 env  b0_j43 s1_j43 ok4_j43 i5_j43 esign8_j43 s K X=cutK (fun fr s=>wpD prog env an142 (subC (bodyC f142) [1,1,1,1,1,1,1,1,1,1,1,0,1,0,1,1,1,1,1]) (contQ prog env an142 (bodyC f142) [1,1,1,1,1,1,1,1,1,1,1,0,1,0,1,1,1,1,1] [] (rootQ prog f142 K X)) fr s) [(0,b0_j43),(1,s1_j43),(4,ok4_j43),(5,i5_j43),(8,esign8_j43)] s:=by
  unfold J142_43
  simp only [J142_44_eq]
  refine cutK_of ?_
  kernel_rfl
def J142_42 (env:Env)  (b0_j42 s1_j42 ok4_j42 i5_j42 esign8_j42:AV) (s:AS) (K:AV->AS->Prop) (X:PV->AS->Prop):Prop :=
 (lock lenD prog 9 s1_j42 fun t158 =>
 (lock binD prog .geq 3 i5_j42 t158 fun t159 =>
 (guardD t159 false
 (lock indexD prog 9 s1_j42 i5_j42 fun t163 =>
 (lock binD prog .lss 5 t163 (.pv (.int .u8 48)) fun t164 =>
 (guardD t164 false
 (lock indexD prog 9 s1_j42 i5_j42 fun t169 =>
 (lock binD prog .gtr 5 t169 (.pv (.int .u8 57)) fun t170 =>
 (condD t170
 (retV (ok4_j42) s K)
 (J142_43 env  (b0_j42) (s1_j42) (ok4_j42) (i5_j42) (esign8_j42) s K X))))
 (retV (ok4_j42) s K))))
 (retV (ok4_j42) s K))))
theorem J142_42_eq (env:Env)  (b0_j42 s1_j42 ok4_j42 i5_j42 esign8_j42:AV) (s:AS) (K:AV->AS->Prop) (X:PV->AS->Prop):J142_42 env  b0_j42 s1_j42 ok4_j42 i5_j42 esign8_j42 s K X=cutK (fun fr s=>wpD prog env an142 (subC (bodyC f142) [1,1,1,1,1,1,1,1,1,1,1,0,1,0,1,1,1,1]) (contQ prog env an142 (bodyC f142) [1,1,1,1,1,1,1,1,1,1,1,0,1,0,1,1,1,1] [] (rootQ prog f142 K X)) fr s) [(0,b0_j42),(1,s1_j42),(4,ok4_j42),(5,i5_j42),(8,esign8_j42)] s:=by
  unfold J142_42
  simp only [J142_43_eq]
  refine cutK_of ?_
  kernel_rfl
def J142_40 (env:Env)  (b0_j40 s1_j40 ok4_j40 i5_j40 esign8_j40 t152_j40:AV) (s:AS) (K:AV->AS->Prop) (X:PV->AS->Prop):Prop :=
 (condD t152_j40
 (lock binD prog .add 3 i5_j40 (.pv (.int .i64 1)) fun t155 =>
 (J142_42 env  (b0_j40) (s1_j40) (ok4_j40) (t155) (.pv (.int .i64 (-1))) s K X))
 (J142_42 env  (b0_j40) (s1_j40) (ok4_j40) (i5_j40) (esign8_j40) s K X))
theorem J142_40_eq (env:Env)  (b0_j40 s1_j40 ok4_j40 i5_j40 esign8_j40 t152_j40:AV) (s:AS) (K:AV->AS->Prop) (X:PV->AS->Prop):J142_40 env  b0_j40 s1_j40 ok4_j40 i5_j40 esign8_j40 t152_j40 s K X=cutK (fun fr s=>wpD prog env an142 (subC (bodyC f142) [1,1,1,1,1,1,1,1,1,1,1,0,1,0,1,1,1,0,1,0,1,1,1]) (contQ prog env an142 (bodyC f142) [1,1,1,1,1,1,1,1,1,1,1,0,1,0,1,1,1,0,1,0,1,1,1] [] (rootQ prog f142 K X)) fr s) [(0,b0_j40),(1,s1_j40),(4,ok4_j40),(5,i5_j40),(8,esign8_j40),(152,t152_j40)] s:=by
  unfold J142_40
  simp only [J142_42_eq]
  refine cutK_of ?_
  kernel_rfl
def J142_38 (env:Env)  (b0_j38 s1_j38 ok4_j38 i5_j38 esign8_j38 t147_j38 t148_j38:AV) (s:AS) (K:AV->AS->Prop) (X:PV->AS->Prop):Prop :=
 (condD t148_j38
 (lock binD prog .add 3 i5_j38 (.pv (.int .i64 1)) fun t151 =>
 (J142_42 env  (b0_j38) (s1_j38) (ok4_j38) (t151) (esign8_j38) s K X))
 (lock binD prog .eql 5 t147_j38 (.pv (.int .u8 45)) fun t153 =>
 (J142_40 env  (b0_j38) (s1_j38) (ok4_j38) (i5_j38) (esign8_j38) (t153) s K X)))
theorem J142_38_eq (env:Env)  (b0_j38 s1_j38 ok4_j38 i5_j38 esign8_j38 t147_j38 t148_j38:AV) (s:AS) (K:AV->AS->Prop) (X:PV->AS->Prop):J142_38 env  b0_j38 s1_j38 ok4_j38 i5_j38 esign8_j38 t147_j38 t148_j38 s K X=cutK (fun fr s=>wpD prog env an142 (subC (bodyC f142) [1,1,1,1,1,1,1,1,1,1,1,0,1,0,1,1,1,0,1,0,1]) (contQ prog env an142 (bodyC f142) [1,1,1,1,1,1,1,1,1,1,1,0,1,0,1,1,1,0,1,0,1] [] (rootQ prog f142 K X)) fr s) [(0,b0_j38),(1,s1_j38),(4,ok4_j38),(5,i5_j38),(8,esign8_j38),(147,t147_j38),(148,t148_j38)] s:=by
  unfold J142_38
  simp only [J142_42_eq,J142_40_eq]
  refine cutK_of ?_
  kernel_rfl
def J142_37 (env:Env)  (b0_j37 s1_j37 ok4_j37 i5_j37 esign8_j37 t147_j37:AV) (s:AS) (K:AV->AS->Prop) (X:PV->AS->Prop):Prop :=
 (lock binD prog .eql 5 t147_j37 (.pv (.int .u8 43)) fun t149 =>
 (J142_38 env  (b0_j37) (s1_j37) (ok4_j37) (i5_j37) (esign8_j37) (t147_j37) (t149) s K X))
theorem J142_37_eq (env:Env)  (b0_j37 s1_j37 ok4_j37 i5_j37 esign8_j37 t147_j37:AV) (s:AS) (K:AV->AS->Prop) (X:PV->AS->Prop):J142_37 env  b0_j37 s1_j37 ok4_j37 i5_j37 esign8_j37 t147_j37 s K X=cutK (fun fr s=>wpD prog env an142 (subC (bodyC f142) [1,1,1,1,1,1,1,1,1,1,1,0,1,0,1,1,1,0,1]) (contQ prog env an142 (bodyC f142) [1,1,1,1,1,1,1,1,1,1,1,0,1,0,1,1,1,0,1] [] (rootQ prog f142 K X)) fr s) [(0,b0_j37),(1,s1_j37),(4,ok4_j37),(5,i5_j37),(8,esign8_j37),(147,t147_j37)] s:=by
  unfold J142_37
  simp only [J142_38_eq]
  refine cutK_of ?_
  kernel_rfl
def J142_36 (env:Env)  (b0_j36 s1_j36 ok4_j36 i5_j36 esign8_j36:AV) (s:AS) (K:AV->AS->Prop) (X:PV->AS->Prop):Prop :=
 (lock indexD prog 9 s1_j36 i5_j36 fun t147 =>
 (J142_37 env  (b0_j36) (s1_j36) (ok4_j36) (i5_j36) (esign8_j36) (t147) s K X))
theorem J142_36_eq (env:Env)  (b0_j36 s1_j36 ok4_j36 i5_j36 esign8_j36:AV) (s:AS) (K:AV->AS->Prop) (X:PV->AS->Prop):J142_36 env  b0_j36 s1_j36 ok4_j36 i5_j36 esign8_j36 s K X=cutK (fun fr s=>wpD prog env an142 (subC (bodyC f142) [1,1,1,1,1,1,1,1,1,1,1,0,1,0,1,1,1]) (contQ prog env an142 (bodyC f142) [1,1,1,1,1,1,1,1,1,1,1,0,1,0,1,1,1] [] (rootQ prog f142 K X)) fr s) [(0,b0_j36),(1,s1_j36),(4,ok4_j36),(5,i5_j36),(8,esign8_j36)] s:=by
  unfold J142_36
  simp only [J142_37_eq]
  refine cutK_of ?_
  kernel_rfl
def J142_35 (env:Env)  (b0_j35 s1_j35 ok4_j35 i5_j35:AV) (s:AS) (K:AV->AS->Prop) (X:PV->AS->Prop):Prop :=
 (J142_36 env  (b0_j35) (s1_j35) (ok4_j35) (i5_j35) (.pv (.int .i64 1)) s K X)
theorem J142_35_eq (env:Env)  (b0_j35 s1_j35 ok4_j35 i5_j35:AV) (s:AS) (K:AV->AS->Prop) (X:PV->AS->Prop):J142_35 env  b0_j35 s1_j35 ok4_j35 i5_j35 s K X=cutK (fun fr s=>wpD prog env an142 (subC (bodyC f142) [1,1,1,1,1,1,1,1,1,1,1,0,1,0,1,1]) (contQ prog env an142 (bodyC f142) [1,1,1,1,1,1,1,1,1,1,1,0,1,0,1,1] [] (rootQ prog f142 K X)) fr s) [(0,b0_j35),(1,s1_j35),(4,ok4_j35),(5,i5_j35)] s:=by
  unfold J142_35
  simp only [J142_36_eq]
  refine cutK_of ?_
  kernel_rfl
def J142_34 (env:Env)  (b0_j34 s1_j34 ok4_j34 i5_j34:AV) (s:AS) (K:AV->AS->Prop) (X:PV->AS->Prop):Prop :=
 (lock lenD prog 9 s1_j34 fun t143 =>
 (lock binD prog .geq 3 i5_j34 t143 fun t144 =>
 (condD t144
 (retV (ok4_j34) s K)
 (J142_35 env  (b0_j34) (s1_j34) (ok4_j34) (i5_j34) s K X))))
theorem J142_34_eq (env:Env)  (b0_j34 s1_j34 ok4_j34 i5_j34:AV) (s:AS) (K:AV->AS->Prop) (X:PV->AS->Prop):J142_34 env  b0_j34 s1_j34 ok4_j34 i5_j34 s K X=cutK (fun fr s=>wpD prog env an142 (subC (bodyC f142) [1,1,1,1,1,1,1,1,1,1,1,0,1,0,1]) (contQ prog env an142 (bodyC f142) [1,1,1,1,1,1,1,1,1,1,1,0,1,0,1] [] (rootQ prog f142 K X)) fr s) [(0,b0_j34),(1,s1_j34),(4,ok4_j34),(5,i5_j34)] s:=by
  unfold J142_34
  simp only [J142_35_eq]
  refine cutK_of ?_
  kernel_rfl
def J142_33 (env:Env)  (b0_j33 s1_j33 ok4_j33 i5_j33 t138_j33:AV) (s:AS) (K:AV->AS->Prop) (X:PV->AS->Prop):Prop :=
 (condD t138_j33
 (lock binD prog .add 3 i5_j33 (.pv (.int .i64 1)) fun t140 =>
 (J142_34 env  (b0_j33) (s1_j33) (ok4_j33) (t140) s K X))
 (J142_50 env  (s1_j33) (ok4_j33) (i5_j33) s K X))
theorem J142_33_eq (env:Env)  (b0_j33 s1_j33 ok4_j33 i5_j33 t138_j33:AV) (s:AS) (K:AV->AS->Prop) (X:PV->AS->Prop):J142_33 env  b0_j33 s1_j33 ok4_j33 i5_j33 t138_j33 s K X=cutK (fun fr s=>wpD prog env an142 (subC (bodyC f142) [1,1,1,1,1,1,1,1,1,1,1,0,1]) (contQ prog env an142 (bodyC f142) [1,1,1,1,1,1,1,1,1,1,1,0,1] [] (rootQ prog f142 K X)) fr s) [(0,b0_j33),(1,s1_j33),(4,ok4_j33),(5,i5_j33),(138,t138_j33)] s:=by
  unfold J142_33
  simp only [J142_50_eq,J142_34_eq]
  refine cutK_of ?_
  kernel_rfl
def J142_32 (env:Env)  (b0_j32 s1_j32 ok4_j32 i5_j32:AV) (s:AS) (K:AV->AS->Prop) (X:PV->AS->Prop):Prop :=
 (lock lenD prog 9 s1_j32 fun t130 =>
 (lock binD prog .lss 3 i5_j32 t130 fun t131 =>
 (guardD t131 true
 (lock indexD prog 9 s1_j32 i5_j32 fun t135 =>
 (env 170 [t135] s (fun t136 s10 =>
 (lock binD prog .eql 5 t136 (.pv (.int .u8 101)) fun t137 =>
 (J142_33 env  (b0_j32) (s1_j32) (ok4_j32) (i5_j32) (t137) s10 K X))) (panV X)))
 (J142_33 env  (b0_j32) (s1_j32) (ok4_j32) (i5_j32) (.pv (.bool false)) s K X))))
theorem J142_32_eq (env:Env)  (b0_j32 s1_j32 ok4_j32 i5_j32:AV) (s:AS) (K:AV->AS->Prop) (X:PV->AS->Prop):J142_32 env  b0_j32 s1_j32 ok4_j32 i5_j32 s K X=cutK (fun fr s=>wpD prog env an142 (subC (bodyC f142) [1,1,1,1,1,1,1,1,1,1,1]) (contQ prog env an142 (bodyC f142) [1,1,1,1,1,1,1,1,1,1,1] [] (rootQ prog f142 K X)) fr s) [(0,b0_j32),(1,s1_j32),(4,ok4_j32),(5,i5_j32)] s:=by
  unfold J142_32
  simp only [J142_33_eq]
  refine cutK_of ?_
  kernel_rfl
def J142_31 (env:Env)  (b0_j31 s1_j31 ok4_j31 i5_j31 t120_j31:AV) (s:AS) (K:AV->AS->Prop) (X:PV->AS->Prop):Prop :=
 (condD t120_j31
 (lock nilD b0_j31 fun t123 =>
 (lock fieldAddrD prog 181 t123 1 fun t124 =>
 (lock loadD prog s 3 t124 fun t125 =>
 (lock nilD b0_j31 fun t126 =>
 (lock fieldAddrD prog 181 t126 2 fun t127 =>
 (lock storeD prog s 3 t127 t125 fun s9 =>
 (J142_32 env  (b0_j31) (s1_j31) (ok4_j31) (i5_j31) s9 K X)))))))
 (J142_32 env  (b0_j31) (s1_j31) (ok4_j31) (i5_j31) s K X))
theorem J142_31_eq (env:Env)  (b0_j31 s1_j31 ok4_j31 i5_j31 t120_j31:AV) (s:AS) (K:AV->AS->Prop) (X:PV->AS->Prop):J142_31 env  b0_j31 s1_j31 ok4_j31 i5_j31 t120_j31 s K X=cutK (fun fr s=>wpD prog env an142 (subC (bodyC f142) [1,1,1,1,1,1,1,1,1,1,0,1]) (contQ prog env an142 (bodyC f142) [1,1,1,1,1,1,1,1,1,1,0,1] [] (rootQ prog f142 K X)) fr s) [(0,b0_j31),(1,s1_j31),(4,ok4_j31),(5,i5_j31),(120,t120_j31)] s:=by
  unfold J142_31
  simp only [J142_32_eq]
  refine cutK_of ?_
  kernel_rfl
def J142_30 (env:Env)  (b0_j30 s1_j30 ok4_j30 i5_j30 sawdot6_j30:AV) (s:AS) (K:AV->AS->Prop) (X:PV->AS->Prop):Prop :=
 (unD .not sawdot6_j30 fun t120 =>
 (J142_31 env  (b0_j30) (s1_j30) (ok4_j30) (i5_j30) (t120) s K X))
theorem J142_30_eq (env:Env)  (b0_j30 s1_j30 ok4_j30 i5_j30 sawdot6_j30:AV) (s:AS) (K:AV->AS->Prop) (X:PV->AS->Prop):J142_30 env  b0_j30 s1_j30 ok4_j30 i5_j30 sawdot6_j30 s K X=cutK (fun fr s=>wpD prog env an142 (subC (bodyC f142) [1,1,1,1,1,1,1,1,1,1]) (contQ prog env an142 (bodyC f142) [1,1,1,1,1,1,1,1,1,1] [] (rootQ prog f142 K X)) fr s) [(0,b0_j30),(1,s1_j30),(4,ok4_j30),(5,i5_j30),(6,sawdot6_j30)] s:=by
  unfold J142_30
  simp only [J142_31_eq]
  refine cutK_of ?_
  kernel_rfl
def J142_29 (env:Env)  (b0_j29 s1_j29 ok4_j29 i5_j29 sawdot6_j29 sawdigits7_j29:AV) (s:AS) (K:AV->AS->Prop) (X:PV->AS->Prop):Prop :=
 (unD .not sawdigits7_j29 fun t118 =>
 (condD t118
 (retV (ok4_j29) s K)
 (J142_30 env  (b0_j29) (s1_j29) (ok4_j29) (i5_j29) (sawdot6_j29) s K X)))
theorem J142_29_eq (env:Env)  (b0_j29 s1_j29 ok4_j29 i5_j29 sawdot6_j29 sawdigits7_j29:AV) (s:AS) (K:AV->AS->Prop) (X:PV->AS->Prop):J142_29 env  b0_j29 s1_j29 ok4_j29 i5_j29 sawdot6_j29 sawdigits7_j29 s K X=cutK (fun fr s=>wpD prog env an142 (subC (bodyC f142) [1,1,1,1,1,1,1,1,1]) (contQ prog env an142 (bodyC f142) [1,1,1,1,1,1,1,1,1] [] (rootQ prog f142 K X)) fr s) [(0,b0_j29),(1,s1_j29),(4,ok4_j29),(5,i5_j29),(6,sawdot6_j29),(7,sawdigits7_j29)] s:=by
  unfold J142_29
  simp only [J142_30_eq]
  refine cutK_of ?_
  kernel_rfl
def J142_21 (env:Env) (I13:Nat->List AV->AS->Prop) (m13:Nat) (b0_j21 s1_j21 ok4_j21 i5_j21 sawdot6_j21 sawdigits7_j21 t58_j21:AV) (s:AS) (K:AV->AS->Prop) (X:PV->AS->Prop):Prop :=
 (condD t58_j21
 (J142_22 env I13 m13 (b0_j21) (s1_j21) (ok4_j21) (i5_j21) (sawdot6_j21) (.pv (.bool true)) s K X)
 (J142_29 env  (b0_j21) (s1_j21) (ok4_j21) (i5_j21) (sawdot6_j21) (sawdigits7_j21) s K X))
theorem J142_21_eq (env:Env) (I13:Nat->List AV->AS->Prop) (m13:Nat) (b0_j21 s1_j21 ok4_j21 i5_j21 sawdot6_j21 sawdigits7_j21 t58_j21:AV) (s:AS) (K:AV->AS->Prop) (X:PV->AS->Prop):J142_21 env I13 m13 b0_j21 s1_j21 ok4_j21 i5_j21 sawdot6_j21 sawdigits7_j21 t58_j21 s K X=cutK (fun fr s=>wpD prog env an142 (subC (bodyC f142) [1,1,1,1,1,1,1,1,0,0,0,1,0,0,0,0,1,1,1,1,1]) (contQ prog env an142 (bodyC f142) [1,1,1,1,1,1,1,1,0,0,0,1,0,0,0,0,1,1,1,1,1] [(I13,m13)] (rootQ prog f142 K X)) fr s) [(0,b0_j21),(1,s1_j21),(4,ok4_j21),(5,i5_j21),(6,sawdot6_j21),(7,sawdigits7_j21),(58,t58_j21)] s:=by
  unfold J142_21
  simp only [J142_22_eq,J142_29_eq]
  refine cutK_of ?_
  kernel_rfl
def J142_17 (env:Env) (I13:Nat->List AV->AS->Prop) (m13:Nat) (b0_j17 s1_j17 ok4_j17 i5_j17 sawdot6_j17 sawdigits7_j17 t45_j17:AV) (s:AS) (K:AV->AS->Prop) (X:PV->AS->Prop):Prop :=
 (condD t45_j17
 (condD sawdot6_j17
 (retV (ok4_j17) s K)
 (J142_18 env I13 m13 (b0_j17) (s1_j17) (ok4_j17) (i5_j17) (sawdigits7_j17) s K X))
 (lock indexD prog 9 s1_j17 i5_j17 fun t61 =>
 (lock binD prog .leq 5 (.pv (.int .u8 48)) t61 fun t62 =>
 (guardD t62 true
 (lock indexD prog 9 s1_j17 i5_j17 fun t66 =>
 (lock binD prog .leq 5 t66 (.pv (.int .u8 57)) fun t67 =>
 (J142_21 env I13 m13 (b0_j17) (s1_j17) (ok4_j17) (i5_j17) (sawdot6_j17) (sawdigits7_j17) (t67) s K X)))
 (J142_21 env I13 m13 (b0_j17) (s1_j17) (ok4_j17) (i5_j17) (sawdot6_j17) (sawdigits7_j17) (.pv (.bool false)) s K X)))))
theorem J142_17_eq (env:Env) (I13:Nat->List AV->AS->Prop) (m13:Nat) (b0_j17 s1_j17 ok4_j17 i5_j17 sawdot6_j17 sawdigits7_j17 t45_j17:AV) (s:AS) (K:AV->AS->Prop) (X:PV->AS->Prop):J142_17 env I13 m13 b0_j17 s1_j17 ok4_j17 i5_j17 sawdot6_j17 sawdigits7_j17 t45_j17 s K X=cutK (fun fr s=>wpD prog env an142 (subC (bodyC f142) [1,1,1,1,1,1,1,1,0,0,0,1,0,0,0,0,1,1,1]) (contQ prog env an142 (bodyC f142) [1,1,1,1,1,1,1,1,0,0,0,1,0,0,0,0,1,1,1] [(I13,m13)] (rootQ prog f142 K X)) fr s) [(0,b0_j17),(1,s1_j17),(4,ok4_j17),(5,i5_j17),(6,sawdot6_j17),(7,sawdigits7_j17),(45,t45_j17)] s:=by
  unfold J142_17
  simp only [J142_18_eq,J142_21_eq]
  refine cutK_of ?_
  kernel_rfl
def J142_16 (env:Env) (I13:Nat->List AV->AS->Prop) (m13:Nat) (b0_j16 s1_j16 ok4_j16 i5_j16 sawdot6_j16 sawdigits7_j16 t40_j16:AV) (s:AS) (K:AV->AS->Prop) (X:PV->AS->Prop):Prop :=
 (condD t40_j16
 (lock binD prog .add 3 i5_j16 (.pv (.int .i64 1)) fun t39 =>
 (∃ m',m' < m13/\I13 m' [b0_j16,s1_j16,ok4_j16,t39,sawdot6_j16,sawdigits7_j16] s))
 (lock indexD prog 9 s1_j16 i5_j16 fun t48 =>
 (lock binD prog .eql 5 t48 (.pv (.int .u8 46)) fun t49 =>
 (J142_17 env I13 m13 (b0_j16) (s1_j16) (ok4_j16) (i5_j16) (sawdot6_j16) (sawdigits7_j16) (t49) s K X))))
theorem J142_16_eq (env:Env) (I13:Nat->List AV->AS->Prop) (m13:Nat) (b0_j16 s1_j16 ok4_j16 i5_j16 sawdot6_j16 sawdigits7_j16 t40_j16:AV) (s:AS) (K:AV->AS->Prop) (X:PV->AS->Prop):J142_16 env I13 m13 b0_j16 s1_j16 ok4_j16 i5_j16 sawdot6_j16 sawdigits7_j16 t40_j16 s K X=cutK (fun fr s=>wpD prog env an142 (subC (bodyC f142) [1,1,1,1,1,1,1,1,0,0,0,1,0,0,0,0,1]) (contQ prog env an142 (bodyC f142) [1,1,1,1,1,1,1,1,0,0,0,1,0,0,0,0,1] [(I13,m13)] (rootQ prog f142 K X)) fr s) [(0,b0_j16),(1,s1_j16),(4,ok4_j16),(5,i5_j16),(6,sawdot6_j16),(7,sawdigits7_j16),(40,t40_j16)] s:=by
  unfold J142_16
  simp only [J142_17_eq]
  refine cutK_of ?_
  kernel_rfl
def J142_15 (env:Env) (I13:Nat->List AV->AS->Prop) (m13:Nat) (b0_j15 s1_j15 ok4_j15 i5_j15 sawdot6_j15 sawdigits7_j15:AV) (s:AS) (K:AV->AS->Prop) (X:PV->AS->Prop):Prop :=
 (lock indexD prog 9 s1_j15 i5_j15 fun t43 =>
 (lock binD prog .eql 5 t43 (.pv (.int .u8 95)) fun t44 =>
 (J142_16 env I13 m13 (b0_j15) (s1_j15) (ok4_j15) (i5_j15) (sawdot6_j15) (sawdigits7_j15) (t44) s K X)))
theorem J142_15_eq (env:Env) (I13:Nat->List AV->AS->Prop) (m13:Nat) (b0_j15 s1_j15 ok4_j15 i5_j15 sawdot6_j15 sawdigits7_j15:AV) (s:AS) (K:AV->AS->Prop) (X:PV->AS->Prop):J142_15 env I13 m13 b0_j15 s1_j15 ok4_j15 i5_j15 sawdot6_j15 sawdigits7_j15 s K X=cutK (fun fr s=>wpD prog env an142 (subC (bodyC f142) [1,1,1,1,1,1,1,1,0,0,0,1]) (contQ prog env an142 (bodyC f142) [1,1,1,1,1,1,1,1,0,0,0,1] [(I13,m13)] (rootQ prog f142 K X)) fr s) [(0,b0_j15),(1,s1_j15),(4,ok4_j15),(5,i5_j15),(6,sawdot6_j15),(7,sawdigits7_j15)] s:=by
  unfold J142_15
  simp only [J142_16_eq]
  refine cutK_of ?_
  kernel_rfl
def L142_13 (env:Env) (I13:Nat->List AV->AS->Prop) (m13:Nat) (b0_l13 s1_l13 ok4_l13 i5_l13 sawdot6_l13 sawdigits7_l13:AV) (s:AS) (K:AV->AS->Prop) (X:PV->AS->Prop):Prop :=
 (lock lenD prog 9 s1_l13 fun t36 =>
 (lock binD prog .lss 3 i5_l13 t36 fun t37 =>
 (condD t37
 (J142_15 env I13 m13 (b0_l13) (s1_l13) (ok4_l13) (i5_l13) (sawdot6_l13) (sawdigits7_l13) s K X)
 (J142_29 env  (b0_l13) (s1_l13) (ok4_l13) (i5_l13) (sawdot6_l13) (sawdigits7_l13) s K X))))
theorem L142_13_eq (env:Env) (I13:Nat->List AV->AS->Prop) (m13:Nat) (b0_l13 s1_l13 ok4_l13 i5_l13 sawdot6_l13 sawdigits7_l13:AV) (s:AS) (K:AV->AS->Prop) (X:PV->AS->Prop):L142_13 env I13 m13 b0_l13 s1_l13 ok4_l13 i5_l13 sawdot6_l13 sawdigits7_l13 s K X=wpD prog env an142 (subC (bodyC f142) [1,1,1,1,1,1,1,1,0,0,0]) (contQ prog env an142 (bodyC f142) [1,1,1,1,1,1,1,1,0,0,0] [(I13,m13)] (rootQ prog f142 K X)) [(0,b0_l13),(1,s1_l13),(4,ok4_l13),(5,i5_l13),(6,sawdot6_l13),(7,sawdigits7_l13)] s:=by
  unfold L142_13
  simp only [J142_29_eq,J142_15_eq]
  kernel_rfl
theorem lp142_13 {α:Type} {env:Env}  {b0_l13 s1_l13 ok4_l13:AV} {s:AS} {K:AV->AS->Prop} {X:PV->AS->Prop} (μ:α->AS->Nat) (I:α->AS->Prop) (ei5_l13 esawdot6_l13 esawdigits7_l13:α->AV) (a0:α) (h0:I a0 s)
 (h:∀ a s,I a s->L142_13 env  (Inv (fun a=>[b0_l13,s1_l13,ok4_l13,ei5_l13 a,esawdot6_l13 a,esawdigits7_l13 a]) μ I) (μ a s) b0_l13 s1_l13 ok4_l13 (ei5_l13 a) (esawdot6_l13 a) (esawdigits7_l13 a) s K X) :
 ∃ I13:Nat->List AV->AS->Prop,(∃ m,I13 m [b0_l13,s1_l13,ok4_l13,ei5_l13 a0,esawdot6_l13 a0,esawdigits7_l13 a0] s)/\∀ (m:Nat) (x0 x1 x2 x3 x4 x5:AV),∀ s,I13 m [x0,x1,x2,x3,x4,x5] s ->
 L142_13 env  I13 m x0 x1 x2 x3 x4 x5 s K X:=by
  refine ⟨Inv (fun a=>[b0_l13,s1_l13,ok4_l13,ei5_l13 a,esawdot6_l13 a,esawdigits7_l13 a]) μ I,⟨_,a0,rfl,rfl,h0⟩,?_⟩
  rintro m x0 x1 x2 x3 x4 x5 s' ⟨a,hv,rfl,hI⟩
  simp only [List.cons.injEq,and_true] at hv
  obtain ⟨rfl,rfl,rfl,rfl,rfl,rfl⟩:=hv
  exact h a s' hI
def J142_13 (env:Env)  (b0_j13 s1_j13 ok4_j13 i5_j13 sawdot6_j13 sawdigits7_j13:AV) (s:AS) (K:AV->AS->Prop) (X:PV->AS->Prop):Prop :=
 (∃ I13:Nat->List AV->AS->Prop,(∃ m,I13 m [b0_j13,s1_j13,ok4_j13,i5_j13,sawdot6_j13,sawdigits7_j13] s)/\∀ (m13:Nat) (b0_l13 s1_l13 ok4_l13 i5_l13 sawdot6_l13 sawdigits7_l13:AV),∀ s3,I13 m13 [b0_l13,s1_l13,ok4_l13,i5_l13,sawdot6_l13,sawdigits7_l13] s3 ->
 (L142_13 env I13 m13 b0_l13 s1_l13 ok4_l13 i5_l13 sawdot6_l13 sawdigits7_l13 s3 K X))
theorem J142_13_eq (env:Env)  (b0_j13 s1_j13 ok4_j13 i5_j13 sawdot6_j13 sawdigits7_j13:AV) (s:AS) (K:AV->AS->Prop) (X:PV->AS->Prop):J142_13 env  b0_j13 s1_j13 ok4_j13 i5_j13 sawdot6_j13 sawdigits7_j13 s K X=cutK (fun fr s=>wpD prog env an142 (subC (bodyC f142) [1,1,1,1,1,1,1,1]) (contQ prog env an142 (bodyC f142) [1,1,1,1,1,1,1,1] [] (rootQ prog f142 K X)) fr s) [(0,b0_j13),(1,s1_j13),(4,ok4_j13),(5,i5_j13),(6,sawdot6_j13),(7,sawdigits7_j13)] s:=by
  unfold J142_13
  simp only [L142_13_eq]
  refine cutK_of ?_
  kernel_rfl
def J142_12 (env:Env)  (b0_j12 s1_j12 ok4_j12 i5_j12 sawdot6_j12:AV) (s:AS) (K:AV->AS->Prop) (X:PV->AS->Prop):Prop :=
 (J142_13 env  (b0_j12) (s1_j12) (ok4_j12) (i5_j12) (sawdot6_j12) (.pv (.bool false)) s K X)
theorem J142_12_eq (env:Env)  (b0_j12 s1_j12 ok4_j12 i5_j12 sawdot6_j12:AV) (s:AS) (K:AV->AS->Prop) (X:PV->AS->Prop):J142_12 env  b0_j12 s1_j12 ok4_j12 i5_j12 sawdot6_j12 s K X=cutK (fun fr s=>wpD prog env an142 (subC (bodyC f142) [1,1,1,1,1,1,1]) (contQ prog env an142 (bodyC f142) [1,1,1,1,1,1,1] [] (rootQ prog f142 K X)) fr s) [(0,b0_j12),(1,s1_j12),(4,ok4_j12),(5,i5_j12),(6,sawdot6_j12)] s:=by
  unfold J142_12
  simp only [J142_13_eq]
  refine cutK_of ?_
  kernel_rfl
def J142_11 (env:Env)  (b0_j11 s1_j11 ok4_j11 i5_j11:AV) (s:AS) (K:AV->AS->Prop) (X:PV->AS->Prop):Prop :=
 (J142_12 env  (b0_j11) (s1_j11) (ok4_j11) (i5_j11) (.pv (.bool false)) s K X)
theorem J142_11_eq (env:Env)  (b0_j11 s1_j11 ok4_j11 i5_j11:AV) (s:AS) (K:AV->AS->Prop) (X:PV->AS->Prop):J142_11 env  b0_j11 s1_j11 ok4_j11 i5_j11 s K X=cutK (fun fr s=>wpD prog env an142 (subC (bodyC f142) [1,1,1,1,1,1]) (contQ prog env an142 (bodyC f142) [1,1,1,1,1,1] [] (rootQ prog f142 K X)) fr s) [(0,b0_j11),(1,s1_j11),(4,ok4_j11),(5,i5_j11)] s:=by
  unfold J142_11
  simp only [J142_12_eq]
  refine cutK_of ?_
  kernel_rfl
def J142_10 (env:Env)  (b0_j10 s1_j10 ok4_j10 i5_j10:AV) (s:AS) (K:AV->AS->Prop) (X:PV->AS->Prop):Prop :=
 (lock nilD b0_j10 fun t32 =>
 (lock fieldAddrD prog 181 t32 3 fun t33 =>
 (lock storeD prog s 4 t33 (.pv (.bool true)) fun s13 =>
 (J142_11 env  (b0_j10) (s1_j10) (ok4_j10) (i5_j10) s13 K X))))
theorem J142_10_eq (env:Env)  (b0_j10 s1_j10 ok4_j10 i5_j10:AV) (s:AS) (K:AV->AS->Prop) (X:PV->AS->Prop):J142_10 env  b0_j10 s1_j10 ok4_j10 i5_j10 s K X=cutK (fun fr s=>wpD prog env an142 (subC (bodyC f142) [1,1,1,1,1,0,1,0,1,1,1,0,1]) (contQ prog env an142 (bodyC f142) [1,1,1,1,1,0,1,0,1,1,1,0,1] [] (rootQ prog f142 K X)) fr s) [(0,b0_j10),(1,s1_j10),(4,ok4_j10),(5,i5_j10)] s:=by
  unfold J142_10
  simp only [J142_11_eq]
  refine cutK_of ?_
  kernel_rfl
def J142_9 (env:Env)  (b0_j9 s1_j9 ok4_j9 i5_j9 t27_j9:AV) (s:AS) (K:AV->AS->Prop) (X:PV->AS->Prop):Prop :=
 (condD t27_j9
 (lock binD prog .add 3 i5_j9 (.pv (.int .i64 1)) fun t30 =>
 (J142_10 env  (b0_j9) (s1_j9) (ok4_j9) (t30) s K X))
 (J142_11 env  (b0_j9) (s1_j9) (ok4_j9) (i5_j9) s K X))
theorem J142_9_eq (env:Env)  (b0_j9 s1_j9 ok4_j9 i5_j9 t27_j9:AV) (s:AS) (K:AV->AS->Prop) (X:PV->AS->Prop):J142_9 env  b0_j9 s1_j9 ok4_j9 i5_j9 t27_j9 s K X=cutK (fun fr s=>wpD prog env an142 (subC (bodyC f142) [1,1,1,1,1,0,1,0,1,1,1]) (contQ prog env an142 (bodyC f142) [1,1,1,1,1,0,1,0,1,1,1] [] (rootQ prog f142 K X)) fr s) [(0,b0_j9),(1,s1_j9),(4,ok4_j9),(5,i5_j9),(27,t27_j9)] s:=by
  unfold J142_9
  simp only [J142_11_eq,J142_10_eq]
  refine cutK_of ?_
  kernel_rfl
def J142_7 (env:Env)  (b0_j7 s1_j7 ok4_j7 i5_j7 t22_j7 t23_j7:AV) (s:AS) (K:AV->AS->Prop) (X:PV->AS->Prop):Prop :=
 (condD t23_j7
 (lock binD prog .add 3 i5_j7 (.pv (.int .i64 1)) fun t26 =>
 (J142_11 env  (b0_j7) (s1_j7) (ok4_j7) (t26) s K X))
 (lock binD prog .eql 5 t22_j7 (.pv (.int .u8 45)) fun t28 =>
 (J142_9 env  (b0_j7) (s1_j7) (ok4_j7) (i5_j7) (t28) s K X)))
theorem J142_7_eq (env:Env)  (b0_j7 s1_j7 ok4_j7 i5_j7 t22_j7 t23_j7:AV) (s:AS) (K:AV->AS->Prop) (X:PV->AS->Prop):J142_7 env  b0_j7 s1_j7 ok4_j7 i5_j7 t22_j7 t23_j7 s K X=cutK (fun fr s=>wpD prog env an142 (subC (bodyC f142) [1,1,1,1,1,0,1,0,1]) (contQ prog env an142 (bodyC f142) [1,1,1,1,1,0,1,0,1] [] (rootQ prog f142 K X)) fr s) [(0,b0_j7),(1,s1_j7),(4,ok4_j7),(5,i5_j7),(22,t22_j7),(23,t23_j7)] s:=by
  unfold J142_7
  simp only [J142_11_eq,J142_9_eq]
  refine cutK_of ?_
  kernel_rfl
def J142_6 (env:Env)  (b0_j6 s1_j6 ok4_j6 i5_j6 t22_j6:AV) (s:AS) (K:AV->AS->Prop) (X:PV->AS->Prop):Prop :=
 (lock binD prog .eql 5 t22_j6 (.pv (.int .u8 43)) fun t24 =>
 (J142_7 env  (b0_j6) (s1_j6) (ok4_j6) (i5_j6) (t22_j6) (t24) s K X))
theorem J142_6_eq (env:Env)  (b0_j6 s1_j6 ok4_j6 i5_j6 t22_j6:AV) (s:AS) (K:AV->AS->Prop) (X:PV->AS->Prop):J142_6 env  b0_j6 s1_j6 ok4_j6 i5_j6 t22_j6 s K X=cutK (fun fr s=>wpD prog env an142 (subC (bodyC f142) [1,1,1,1,1,0,1]) (contQ prog env an142 (bodyC f142) [1,1,1,1,1,0,1] [] (rootQ prog f142 K X)) fr s) [(0,b0_j6),(1,s1_j6),(4,ok4_j6),(5,i5_j6),(22,t22_j6)] s:=by
  unfold J142_6
  simp only [J142_7_eq]
  refine cutK_of ?_
  kernel_rfl
def J142_5 (env:Env)  (b0_j5 s1_j5 ok4_j5 i5_j5:AV) (s:AS) (K:AV->AS->Prop) (X:PV->AS->Prop):Prop :=
 (lock indexD prog 9 s1_j5 i5_j5 fun t22 =>
 (J142_6 env  (b0_j5) (s1_j5) (ok4_j5) (i5_j5) (t22) s K X))
theorem J142_5_eq (env:Env)  (b0_j5 s1_j5 ok4_j5 i5_j5:AV) (s:AS) (K:AV->AS->Prop) (X:PV->AS->Prop):J142_5 env  b0_j5 s1_j5 ok4_j5 i5_j5 s K X=cutK (fun fr s=>wpD prog env an142 (subC (bodyC f142) [1,1,1,1,1]) (contQ prog env an142 (bodyC f142) [1,1,1,1,1] [] (rootQ prog f142 K X)) fr s) [(0,b0_j5),(1,s1_j5),(4,ok4_j5),(5,i5_j5)] s:=by
  unfold J142_5
  simp only [J142_6_eq]
  refine cutK_of ?_
  kernel_rfl
def J142_4 (env:Env)  (b0_j4 s1_j4 ok4_j4 i5_j4:AV) (s:AS) (K:AV->AS->Prop) (X:PV->AS->Prop):Prop :=
 (lock lenD prog 9 s1_j4 fun t18 =>
 (lock binD prog .geq 3 i5_j4 t18 fun t19 =>
 (condD t19
 (retV (ok4_j4) s K)
 (J142_5 env  (b0_j4) (s1_j4) (ok4_j4) (i5_j4) s K X))))
theorem J142_4_eq (env:Env)  (b0_j4 s1_j4 ok4_j4 i5_j4:AV) (s:AS) (K:AV->AS->Prop) (X:PV->AS->Prop):J142_4 env  b0_j4 s1_j4 ok4_j4 i5_j4 s K X=cutK (fun fr s=>wpD prog env an142 (subC (bodyC f142) [1,1,1,1]) (contQ prog env an142 (bodyC f142) [1,1,1,1] [] (rootQ prog f142 K X)) fr s) [(0,b0_j4),(1,s1_j4),(4,ok4_j4),(5,i5_j4)] s:=by
  unfold J142_4
  simp only [J142_5_eq]
  refine cutK_of ?_
  kernel_rfl
def J142_3 (env:Env)  (b0_j3 s1_j3 ok4_j3 i5_j3:AV) (s:AS) (K:AV->AS->Prop) (X:PV->AS->Prop):Prop :=
 (lock nilD b0_j3 fun t14 =>
 (lock fieldAddrD prog 181 t14 4 fun t15 =>
 (lock storeD prog s 4 t15 (.pv (.bool false)) fun s2 =>
 (J142_4 env  (b0_j3) (s1_j3) (ok4_j3) (i5_j3) s2 K X))))
theorem J142_3_eq (env:Env)  (b0_j3 s1_j3 ok4_j3 i5_j3:AV) (s:AS) (K:AV->AS->Prop) (X:PV->AS->Prop):J142_3 env  b0_j3 s1_j3 ok4_j3 i5_j3 s K X=cutK (fun fr s=>wpD prog env an142 (subC (bodyC f142) [1,1,1]) (contQ prog env an142 (bodyC f142) [1,1,1] [] (rootQ prog f142 K X)) fr s) [(0,b0_j3),(1,s1_j3),(4,ok4_j3),(5,i5_j3)] s:=by
  unfold J142_3
  simp only [J142_4_eq]
  refine cutK_of ?_
  kernel_rfl
def J142_2 (env:Env)  (b0_j2 s1_j2 ok4_j2 i5_j2:AV) (s:AS) (K:AV->AS->Prop) (X:PV->AS->Prop):Prop :=
 (lock nilD b0_j2 fun t11 =>
 (lock fieldAddrD prog 181 t11 3 fun t12 =>
 (lock storeD prog s 4 t12 (.pv (.bool false)) fun s1 =>
 (J142_3 env  (b0_j2) (s1_j2) (ok4_j2) (i5_j2) s1 K X))))
theorem J142_2_eq (env:Env)  (b0_j2 s1_j2 ok4_j2 i5_j2:AV) (s:AS) (K:AV->AS->Prop) (X:PV->AS->Prop):J142_2 env  b0_j2 s1_j2 ok4_j2 i5_j2 s K X=cutK (fun fr s=>wpD prog env an142 (subC (bodyC f142) [1,1]) (contQ prog env an142 (bodyC f142) [1,1] [] (rootQ prog f142 K X)) fr s) [(0,b0_j2),(1,s1_j2),(4,ok4_j2),(5,i5_j2)] s:=by
  unfold J142_2
  simp only [J142_3_eq]
  refine cutK_of ?_
  kernel_rfl
def J142_1 (env:Env)  (b0_j1 s1_j1 ok4_j1:AV) (s:AS) (K:AV->AS->Prop) (X:PV->AS->Prop):Prop :=
 (J142_2 env  (b0_j1) (s1_j1) (ok4_j1) (.pv (.int .i64 0)) s K X)
theorem J142_1_eq (env:Env)  (b0_j1 s1_j1 ok4_j1:AV) (s:AS) (K:AV->AS->Prop) (X:PV->AS->Prop):J142_1 env  b0_j1 s1_j1 ok4_j1 s K X=cutK (fun fr s=>wpD prog env an142 (subC (bodyC f142) [1]) (contQ prog env an142 (bodyC f142) [1] [] (rootQ prog f142 K X)) fr s) [(0,b0_j1),(1,s1_j1),(4,ok4_j1)] s:=by
  unfold J142_1
  simp only [J142_2_eq]
  refine cutK_of ?_
  kernel_rfl
def S142 (env:Env) (b0_a s1_a:AV) (s:AS) (K:AV->AS->Prop) (X:PV->AS->Prop):Prop :=
 (J142_1 env  (b0_a) (s1_a) (.pv (.bool false)) s K X)
theorem S142_eq (env:Env) (b0_a s1_a:AV) (s:AS) (K:AV->AS->Prop) (X:PV->AS->Prop):S142 env b0_a s1_a s K X=bodyD prog env an142 f142 [b0_a,s1_a] s K X:=by
  unfold S142
  simp only [J142_1_eq]
  kernel_rfl
theorem S142_ok:(match f142.body with | some c=>okCode an142 prog f142.ntmps c | none=>false)=true:=by kernel_rfl
def an143:An:={ mu:=[],cut:=[(1,[0,1,5]),(2,[0,1,5]),(3,[0,1,5]),(4,[0,1,5,16]),(5,[0,1,5,7]),(6,[0,1,5]),(7,[0,1,5]),(8,[0,1,5,30]),(9,[0,1,5,7]),(10,[0,1,5]),(11,[0,1,5,6]),(12,[0,1,5,6]),(13,[0,1,5,6]),(14,[0,1,5,6,46]),(16,[0,1,5,6,8]),(17,[0,1,5,6,8]),(18,[0,1,5,6]),(19,[0,1,5,6]),(20,[0,1,5,6]),(21,[0,1,5,6,88]),(23,[0,1,5,6,9]),(24,[0,1,5,6,9]),(25,[0,1,5,6]),(26,[0,1,5,6]),(27,[0,1,5,6,111]),(28,[0,1,5,6,10]),(29,[0,1,5,6,10]),(30,[0,1,5,6]),(31,[0,1,5,6]),(32,[0,1,5,6]),(33,[0,1,5,6,7]),(34,[0,1,5,6,7,155]),(35,[0,1,5,6,7]),(36,[0,1,5,6,7]),(37,[0,1,5,6,7]),(38,[0,1,5,6,7,180]),(39,[0,1,5,6,7]),(40,[0,1,7]),(41,[0,1,6,7]),(42,[0,1,5,6,7]),(43,[0,1,5,6,11]),(44,[0,1,5,11]),(45,[1,5,11,228]),(46,[5,11])],loop:=[(11,[0,1,5,6]),(18,[0,1,5,6])] }
def J143_5 (env:Env)  (d0_j5 flt1_j5 overflow5_j5 mant7_j5:AV) (s:AS) (K:AV->AS->Prop) (X:PV->AS->Prop):Prop :=
 (lock nilD flt1_j5 fun t18 =>
 (lock fieldAddrD prog 171 t18 2 fun t19 =>
 (lock loadD prog s 3 t19 fun t20 =>
 (lock nilD flt1_j5 fun t198 =>
 (lock fieldAddrD prog 171 t198 0 fun t199 =>
 (lock loadD prog s 108 t199 fun t200 =>
 (lock binD prog .shl 37 (.pv (.int .u64 1)) t200 fun t201 =>
 (lock binD prog .sub 37 t201 (.pv (.int .u64 1)) fun t202 =>
 (lock binD prog .and 37 mant7_j5 t202 fun t203 =>
 (lock nilD flt1_j5 fun t207 =>
 (lock fieldAddrD prog 171 t207 2 fun t208 =>
 (lock loadD prog s 3 t208 fun t209 =>
 (lock binD prog .sub 3 t20 t209 fun t210 =>
 (lock nilD flt1_j5 fun t212 =>
 (lock fieldAddrD prog 171 t212 1 fun t213 =>
 (lock loadD prog s 108 t213 fun t214 =>
 (lock binD prog .shl 3 (.pv (.int .i64 1)) t214 fun t215 =>
 (lock binD prog .sub 3 t215 (.pv (.int .i64 1)) fun t216 =>
 (lock binD prog .and 3 t210 t216 fun t217 =>
 (lock convD prog s 3 37 t217 fun t218 =>
 (lock nilD flt1_j5 fun t220 =>
 (lock fieldAddrD prog 171 t220 0 fun t221 =>
 (lock loadD prog s 108 t221 fun t222 =>
 (lock binD prog .shl 37 t218 t222 fun t223 =>
 (lock binD prog .or 37 t203 t223 fun t224 =>
 (lock nilD d0_j5 fun t226 =>
 (lock fieldAddrD prog 181 t226 3 fun t227 =>
 (lock loadD prog s 4 t227 fun t228 =>
 (condD t228
 (lock nilD flt1_j5 fun t231 =>
 (lock fieldAddrD prog 171 t231 0 fun t232 =>
 (lock loadD prog s 108 t232 fun t233 =>
 (lock binD prog .shl 37 (.pv (.int .u64 1)) t233 fun t234 =>
 (lock nilD flt1_j5 fun t236 =>
 (lock fieldAddrD prog 171 t236 1 fun t237 =>
 (lock loadD prog s 108 t237 fun t238 =>
 (lock binD prog .shl 37 t234 t238 fun t239 =>
 (lock binD prog .or 37 t224 t239 fun t240 =>
 (retV (.tuple [t240,overflow5_j5]) s K))))))))))
 (retV (.tuple [t224,overflow5_j5]) s K))))))))))))))))))))))))))))))
theorem J143_5_eq (env:Env)  (d0_j5 flt1_j5 overflow5_j5 mant7_j5:AV) (s:AS) (K:AV->AS->Prop) (X:PV->AS->Prop):J143_5 env  d0_j5 flt1_j5 overflow5_j5 mant7_j5 s K X=cutK (fun fr s=>wpD prog env an143 (subC (bodyC f143) [1,0,1,1,0,1,0,1]) (contQ prog env an143 (bodyC f143) [1,0,1,1,0,1,0,1] [] (rootQ prog f143 K X)) fr s) [(0,d0_j5),(1,flt1_j5),(5,overflow5_j5),(7,mant7_j5)] s:=by
  unfold J143_5
  refine cutK_of ?_
  kernel_rfl
def J143_9 (env:Env)  (d0_j9 flt1_j9 overflow5_j9 mant7_j9:AV) (s:AS) (K:AV->AS->Prop) (X:PV->AS->Prop):Prop :=
 (lock nilD flt1_j9 fun t32 =>
 (lock fieldAddrD prog 171 t32 2 fun t33 =>
 (lock loadD prog s 3 t33 fun t34 =>
 (lock nilD flt1_j9 fun t198 =>
 (lock fieldAddrD prog 171 t198 0 fun t199 =>
 (lock loadD prog s 108 t199 fun t200 =>
 (lock binD prog .shl 37 (.pv (.int .u64 1)) t200 fun t201 =>
 (lock binD prog .sub 37 t201 (.pv (.int .u64 1)) fun t202 =>
 (lock binD prog .and 37 mant7_j9 t202 fun t203 =>
 (lock nilD flt1_j9 fun t207 =>
 (lock fieldAddrD prog 171 t207 2 fun t208 =>
 (lock loadD prog s 3 t208 fun t209 =>
 (lock binD prog .sub 3 t34 t209 fun t210 =>
 (lock nilD flt1_j9 fun t212 =>
 (lock fieldAddrD prog 171 t212 1 fun t213 =>
 (lock loadD prog s 108 t213 fun t214 =>
 (lock binD prog .shl 3 (.pv (.int .i64 1)) t214 fun t215 =>
 (lock binD prog .sub 3 t215 (.pv (.int .i64 1)) fun t216 =>
 (lock binD prog .and 3 t210 t216 fun t217 =>
 (lock convD prog s 3 37 t217 fun t218 =>
 (lock nilD flt1_j9 fun t220 =>
 (lock fieldAddrD prog 171 t220 0 fun t221 =>
 (lock loadD prog s 108 t221 fun t222 =>
 (lock binD prog .shl 37 t218 t222 fun t223 =>
 (lock binD prog .or 37 t203 t223 fun t224 =>
 (lock nilD d0_j9 fun t226 =>
 (lock fieldAddrD prog 181 t226 3 fun t227 =>
 (lock loadD prog s 4 t227 fun t228 =>
 (condD t228
 (lock nilD flt1_j9 fun t231 =>
 (lock fieldAddrD prog 171 t231 0 fun t232 =>
 (lock loadD prog s 108 t232 fun t233 =>
 (lock binD prog .shl 37 (.pv (.int .u64 1)) t233 fun t234 =>
 (lock nilD flt1_j9 fun t236 =>
 (lock fieldAddrD prog 171 t236 1 fun t237 =>
 (lock loadD prog s 108 t237 fun t238 =>
 (lock binD prog .shl 37 t234 t238 fun t239 =>
 (lock binD prog .or 37 t224 t239 fun t240 =>
 (retV (.tuple [t240,overflow5_j9]) s K))))))))))
 (retV (.tuple [t224,overflow5_j9]) s K))))))))))))))))))))))))))))))
theorem J143_9_eq (env:Env)  (d0_j9 flt1_j9 overflow5_j9 mant7_j9:AV) (s:AS) (K:AV->AS->Prop) (X:PV->AS->Prop):J143_9 env  d0_j9 flt1_j9 overflow5_j9 mant7_j9 s K X=cutK (fun fr s=>wpD prog env an143 (subC (bodyC f143) [1,0,1,1,1,1,0,1,0,1]) (contQ prog env an143 (bodyC f143) [1,0,1,1,1,1,0,1,0,1] [] (rootQ prog f143 K X)) fr s) [(0,d0_j9),(1,flt1_j9),(5,overflow5_j9),(7,mant7_j9)] s:=by
  unfold J143_9
  refine cutK_of ?_
  kernel_rfl
def J143_17 (env:Env) (I11:Nat->List AV->AS->Prop) (m11:Nat) (d0_j17 flt1_j17 overflow5_j17 exp6_j17 n8_j17:AV) (s:AS) (K:AV->AS->Prop) (X:PV->AS->Prop):Prop :=
 (lock binD prog .add 3 exp6_j17 n8_j17 fun t60 =>
 (∃ m',m' < m11/\I11 m' [d0_j17,flt1_j17,overflow5_j17,t60] s))
theorem J143_17_eq (env:Env) (I11:Nat->List AV->AS->Prop) (m11:Nat) (d0_j17 flt1_j17 overflow5_j17 exp6_j17 n8_j17:AV) (s:AS) (K:AV->AS->Prop) (X:PV->AS->Prop):J143_17 env I11 m11 d0_j17 flt1_j17 overflow5_j17 exp6_j17 n8_j17 s K X=cutK (fun fr s=>wpD prog env an143 (subC (bodyC f143) [1,0,1,1,1,1,1,1,0,0,0,1,0,1,1,1]) (contQ prog env an143 (bodyC f143) [1,0,1,1,1,1,1,1,0,0,0,1,0,1,1,1] [(I11,m11)] (rootQ prog f143 K X)) fr s) [(0,d0_j17),(1,flt1_j17),(5,overflow5_j17),(6,exp6_j17),(8,n8_j17)] s:=by
  unfold J143_17
  refine cutK_of ?_
  kernel_rfl
def J143_16 (env:Env) (I11:Nat->List AV->AS->Prop) (m11:Nat) (d0_j16 flt1_j16 overflow5_j16 exp6_j16 n8_j16:AV) (s:AS) (K:AV->AS->Prop) (X:PV->AS->Prop):Prop :=
 (unD .neg n8_j16 fun t56 =>
 (env 178 [d0_j16,t56] s (fun t57 s2 =>
 (J143_17 env I11 m11 (d0_j16) (flt1_j16) (overflow5_j16) (exp6_j16) (n8_j16) s2 K X)) (panV X)))
theorem J143_16_eq (env:Env) (I11:Nat->List AV->AS->Prop) (m11:Nat) (d0_j16 flt1_j16 overflow5_j16 exp6_j16 n8_j16:AV) (s:AS) (K:AV->AS->Prop) (X:PV->AS->Prop):J143_16 env I11 m11 d0_j16 flt1_j16 overflow5_j16 exp6_j16 n8_j16 s K X=cutK (fun fr s=>wpD prog env an143 (subC (bodyC f143) [1,0,1,1,1,1,1,1,0,0,0,1,0,1,1]) (contQ prog env an143 (bodyC f143) [1,0,1,1,1,1,1,1,0,0,0,1,0,1,1] [(I11,m11)] (rootQ prog f143 K X)) fr s) [(0,d0_j16),(1,flt1_j16),(5,overflow5_j16),(6,exp6_j16),(8,n8_j16)] s:=by
  unfold J143_16
  simp only [J143_17_eq]
  refine cutK_of ?_
  kernel_rfl
def J143_14 (env:Env) (I11:Nat->List AV->AS->Prop) (m11:Nat) (d0_j14 flt1_j14 overflow5_j14 exp6_j14 t46_j14:AV) (s:AS) (K:AV->AS->Prop) (X:PV->AS->Prop):Prop :=
 (condD t46_j14
 (J143_16 env I11 m11 (d0_j14) (flt1_j14) (overflow5_j14) (exp6_j14) (.pv (.int .i64 27)) s K X)
 (lock loadD prog s 85 (.glob 11 0) fun t47 =>
 (lock nilD d0_j14 fun t49 =>
 (lock fieldAddrD prog 181 t49 2 fun t50 =>
 (lock loadD prog s 3 t50 fun t51 =>
 (lock indexAddrD prog 85 t47 t51 fun t52 =>
 (lock loadD prog s 3 t52 fun t53 =>
 (J143_16 env I11 m11 (d0_j14) (flt1_j14) (overflow5_j14) (exp6_j14) (t53) s K X))))))))
theorem J143_14_eq (env:Env) (I11:Nat->List AV->AS->Prop) (m11:Nat) (d0_j14 flt1_j14 overflow5_j14 exp6_j14 t46_j14:AV) (s:AS) (K:AV->AS->Prop) (X:PV->AS->Prop):J143_14 env I11 m11 d0_j14 flt1_j14 overflow5_j14 exp6_j14 t46_j14 s K X=cutK (fun fr s=>wpD prog env an143 (subC (bodyC f143) [1,0,1,1,1,1,1,1,0,0,0,1,0,1,0,1]) (contQ prog env an143 (bodyC f143) [1,0,1,1,1,1,1,1,0,0,0,1,0,1,0,1] [(I11,m11)] (rootQ prog f143 K X)) fr s) [(0,d0_j14),(1,flt1_j14),(5,overflow5_j14),(6,exp6_j14),(46,t46_j14)] s:=by
  unfold J143_14
  simp only [J143_16_eq]
  refine cutK_of ?_
  kernel_rfl
def J143_13 (env:Env) (I11:Nat->List AV->AS->Prop) (m11:Nat) (d0_j13 flt1_j13 overflow5_j13 exp6_j13:AV) (s:AS) (K:AV->AS->Prop) (X:PV->AS->Prop):Prop :=
 (lock nilD d0_j13 fun t41 =>
 (lock fieldAddrD prog 181 t41 2 fun t42 =>
 (lock loadD prog s 3 t42 fun t43 =>
 (lock loadD prog s 85 (.glob 11 0) fun t44 =>
 (lock lenD prog 85 t44 fun t45 =>
 (lock binD prog .geq 3 t43 t45 fun t46 =>
 (J143_14 env I11 m11 (d0_j13) (flt1_j13) (overflow5_j13) (exp6_j13) (t46) s K X)))))))
theorem J143_13_eq (env:Env) (I11:Nat->List AV->AS->Prop) (m11:Nat) (d0_j13 flt1_j13 overflow5_j13 exp6_j13:AV) (s:AS) (K:AV->AS->Prop) (X:PV->AS->Prop):J143_13 env I11 m11 d0_j13 flt1_j13 overflow5_j13 exp6_j13 s K X=cutK (fun fr s=>wpD prog env an143 (subC (bodyC f143) [1,0,1,1,1,1,1,1,0,0,0,1,0,1]) (contQ prog env an143 (bodyC f143) [1,0,1,1,1,1,1,1,0,0,0,1,0,1] [(I11,m11)] (rootQ prog f143 K X)) fr s) [(0,d0_j13),(1,flt1_j13),(5,overflow5_j13),(6,exp6_j13)] s:=by
  unfold J143_13
  simp only [J143_14_eq]
  refine cutK_of ?_
  kernel_rfl
def J143_12 (env:Env) (I11:Nat->List AV->AS->Prop) (m11:Nat) (d0_j12 flt1_j12 overflow5_j12 exp6_j12:AV) (s:AS) (K:AV->AS->Prop) (X:PV->AS->Prop):Prop :=
 (J143_13 env I11 m11 (d0_j12) (flt1_j12) (overflow5_j12) (exp6_j12) s K X)
theorem J143_12_eq (env:Env) (I11:Nat->List AV->AS->Prop) (m11:Nat) (d0_j12 flt1_j12 overflow5_j12 exp6_j12:AV) (s:AS) (K:AV->AS->Prop) (X:PV->AS->Prop):J143_12 env I11 m11 d0_j12 flt1_j12 overflow5_j12 exp6_j12 s K X=cutK (fun fr s=>wpD prog env an143 (subC (bodyC f143) [1,0,1,1,1,1,1,1,0,0,0,1]) (contQ prog env an143 (bodyC f143) [1,0,1,1,1,1,1,1,0,0,0,1] [(I11,m11)] (rootQ prog f143 K X)) fr s) [(0,d0_j12),(1,flt1_j12),(5,overflow5_j12),(6,exp6_j12)] s:=by
  unfold J143_12
  simp only [J143_13_eq]
  refine cutK_of ?_
  kernel_rfl
def J143_24 (env:Env) (I18:Nat->List AV->AS->Prop) (m18:Nat) (d0_j24 flt1_j24 overflow5_j24 exp6_j24 n9_j24:AV) (s:AS) (K:AV->AS->Prop) (X:PV->AS->Prop):Prop :=
 (lock binD prog .sub 3 exp6_j24 n9_j24 fun t102 =>
 (∃ m',m' < m18/\I18 m' [d0_j24,flt1_j24,overflow5_j24,t102] s))
theorem J143_24_eq (env:Env) (I18:Nat->List AV->AS->Prop) (m18:Nat) (d0_j24 flt1_j24 overflow5_j24 exp6_j24 n9_j24:AV) (s:AS) (K:AV->AS->Prop) (X:PV->AS->Prop):J143_24 env I18 m18 d0_j24 flt1_j24 overflow5_j24 exp6_j24 n9_j24 s K X=cutK (fun fr s=>wpD prog env an143 (subC (bodyC f143) [1,0,1,1,1,1,1,1,1,0,0,0,1,0,1,1,1]) (contQ prog env an143 (bodyC f143) [1,0,1,1,1,1,1,1,1,0,0,0,1,0,1,1,1] [(I18,m18)] (rootQ prog f143 K X)) fr s) [(0,d0_j24),(1,flt1_j24),(5,overflow5_j24),(6,exp6_j24),(9,n9_j24)] s:=by
  unfold J143_24
  refine cutK_of ?_
  kernel_rfl
def J143_23 (env:Env) (I18:Nat->List AV->AS->Prop) (m18:Nat) (d0_j23 flt1_j23 overflow5_j23 exp6_j23 n9_j23:AV) (s:AS) (K:AV->AS->Prop) (X:PV->AS->Prop):Prop :=
 (env 178 [d0_j23,n9_j23] s (fun t99 s4 =>
 (J143_24 env I18 m18 (d0_j23) (flt1_j23) (overflow5_j23) (exp6_j23) (n9_j23) s4 K X)) (panV X))
theorem J143_23_eq (env:Env) (I18:Nat->List AV->AS->Prop) (m18:Nat) (d0_j23 flt1_j23 overflow5_j23 exp6_j23 n9_j23:AV) (s:AS) (K:AV->AS->Prop) (X:PV->AS->Prop):J143_23 env I18 m18 d0_j23 flt1_j23 overflow5_j23 exp6_j23 n9_j23 s K X=cutK (fun fr s=>wpD prog env an143 (subC (bodyC f143) [1,0,1,1,1,1,1,1,1,0,0,0,1,0,1,1]) (contQ prog env an143 (bodyC f143) [1,0,1,1,1,1,1,1,1,0,0,0,1,0,1,1] [(I18,m18)] (rootQ prog f143 K X)) fr s) [(0,d0_j23),(1,flt1_j23),(5,overflow5_j23),(6,exp6_j23),(9,n9_j23)] s:=by
  unfold J143_23
  simp only [J143_24_eq]
  refine cutK_of ?_
  kernel_rfl
def J143_21 (env:Env) (I18:Nat->List AV->AS->Prop) (m18:Nat) (d0_j21 flt1_j21 overflow5_j21 exp6_j21 t88_j21:AV) (s:AS) (K:AV->AS->Prop) (X:PV->AS->Prop):Prop :=
 (condD t88_j21
 (J143_23 env I18 m18 (d0_j21) (flt1_j21) (overflow5_j21) (exp6_j21) (.pv (.int .i64 27)) s K X)
 (lock loadD prog s 85 (.glob 11 0) fun t89 =>
 (lock nilD d0_j21 fun t91 =>
 (lock fieldAddrD prog 181 t91 2 fun t92 =>
 (lock loadD prog s 3 t92 fun t93 =>
 (unD .neg t93 fun t94 =>
 (lock indexAddrD prog 85 t89 t94 fun t95 =>
 (lock loadD prog s 3 t95 fun t96 =>
 (J143_23 env I18 m18 (d0_j21) (flt1_j21) (overflow5_j21) (exp6_j21) (t96) s K X)))))))))
theorem J143_21_eq (env:Env) (I18:Nat->List AV->AS->Prop) (m18:Nat) (d0_j21 flt1_j21 overflow5_j21 exp6_j21 t88_j21:AV) (s:AS) (K:AV->AS->Prop) (X:PV->AS->Prop):J143_21 env I18 m18 d0_j21 flt1_j21 overflow5_j21 exp6_j21 t88_j21 s K X=cutK (fun fr s=>wpD prog env an143 (subC (bodyC f143) [1,0,1,1,1,1,1,1,1,0,0,0,1,0,1,0,1]) (contQ prog env an143 (bodyC f143) [1,0,1,1,1,1,1,1,1,0,0,0,1,0,1,0,1] [(I18,m18)] (rootQ prog f143 K X)) fr s) [(0,d0_j21),(1,flt1_j21),(5,overflow5_j21),(6,exp6_j21),(88,t88_j21)] s:=by
  unfold J143_21
  simp only [J143_23_eq]
  refine cutK_of ?_
  kernel_rfl
def J143_20 (env:Env) (I18:Nat->List AV->AS->Prop) (m18:Nat) (d0_j20 flt1_j20 overflow5_j20 exp6_j20:AV) (s:AS) (K:AV->AS->Prop) (X:PV->AS->Prop):Prop :=
 (lock nilD d0_j20 fun t82 =>
 (lock fieldAddrD prog 181 t82 2 fun t83 =>
 (lock loadD prog s 3 t83 fun t84 =>
 (unD .neg t84 fun t85 =>
 (lock loadD prog s 85 (.glob 11 0) fun t86 =>
 (lock lenD prog 85 t86 fun t87 =>
 (lock binD prog .geq 3 t85 t87 fun t88 =>
 (J143_21 env I18 m18 (d0_j20) (flt1_j20) (overflow5_j20) (exp6_j20) (t88) s K X))))))))
theorem J143_20_eq (env:Env) (I18:Nat->List AV->AS->Prop) (m18:Nat) (d0_j20 flt1_j20 overflow5_j20 exp6_j20:AV) (s:AS) (K:AV->AS->Prop) (X:PV->AS->Prop):J143_20 env I18 m18 d0_j20 flt1_j20 overflow5_j20 exp6_j20 s K X=cutK (fun fr s=>wpD prog env an143 (subC (bodyC f143) [1,0,1,1,1,1,1,1,1,0,0,0,1,0,1]) (contQ prog env an143 (bodyC f143) [1,0,1,1,1,1,1,1,1,0,0,0,1,0,1] [(I18,m18)] (rootQ prog f143 K X)) fr s) [(0,d0_j20),(1,flt1_j20),(5,overflow5_j20),(6,exp6_j20)] s:=by
  unfold J143_20
  simp only [J143_21_eq]
  refine cutK_of ?_
  kernel_rfl
def J143_19 (env:Env) (I18:Nat->List AV->AS->Prop) (m18:Nat) (d0_j19 flt1_j19 overflow5_j19 exp6_j19:AV) (s:AS) (K:AV->AS->Prop) (X:PV->AS->Prop):Prop :=
 (J143_20 env I18 m18 (d0_j19) (flt1_j19) (overflow5_j19) (exp6_j19) s K X)
theorem J143_19_eq (env:Env) (I18:Nat->List AV->AS->Prop) (m18:Nat) (d0_j19 flt1_j19 overflow5_j19 exp6_j19:AV) (s:AS) (K:AV->AS->Prop) (X:PV->AS->Prop):J143_19 env I18 m18 d0_j19 flt1_j19 overflow5_j19 exp6_j19 s K X=cutK (fun fr s=>wpD prog env an143 (subC (bodyC f143) [1,0,1,1,1,1,1,1,1,0,0,0,1]) (contQ prog env an143 (bodyC f143) [1,0,1,1,1,1,1,1,1,0,0,0,1] [(I18,m18)] (rootQ prog f143 K X)) fr s) [(0,d0_j19),(1,flt1_j19),(5,overflow5_j19),(6,exp6_j19)] s:=by
  unfold J143_19
  simp only [J143_20_eq]
  refine cutK_of ?_
  kernel_rfl
def J143_39 (env:Env)  (d0_j39 flt1_j39 overflow5_j39 exp6_j39 mant7_j39:AV) (s:AS) (K:AV->AS->Prop) (X:PV->AS->Prop):Prop :=
 (lock nilD flt1_j39 fun t198 =>
 (lock fieldAddrD prog 171 t198 0 fun t199 =>
 (lock loadD prog s 108 t199 fun t200 =>
 (lock binD prog .shl 37 (.pv (.int .u64 1)) t200 fun t201 =>
 (lock binD prog .sub 37 t201 (.pv (.int .u64 1)) fun t202 =>
 (lock binD prog .and 37 mant7_j39 t202 fun t203 =>
 (lock nilD flt1_j39 fun t207 =>
 (lock fieldAddrD prog 171 t207 2 fun t208 =>
 (lock loadD prog s 3 t208 fun t209 =>
 (lock binD prog .sub 3 exp6_j39 t209 fun t210 =>
 (lock nilD flt1_j39 fun t212 =>
 (lock fieldAddrD prog 171 t212 1 fun t213 =>
 (lock loadD prog s 108 t213 fun t214 =>
 (lock binD prog .shl 3 (.pv (.int .i64 1)) t214 fun t215 =>
 (lock binD prog .sub 3 t215 (.pv (.int .i64 1)) fun t216 =>
 (lock binD prog .and 3 t210 t216 fun t217 =>
 (lock convD prog s 3 37 t217 fun t218 =>
 (lock nilD flt1_j39 fun t220 =>
 (lock fieldAddrD prog 171 t220 0 fun t221 =>
 (lock loadD prog s 108 t221 fun t222 =>
 (lock binD prog .shl 37 t218 t222 fun t223 =>
 (lock binD prog .or 37 t203 t223 fun t224 =>
 (lock nilD d0_j39 fun t226 =>
 (lock fieldAddrD prog 181 t226 3 fun t227 =>
 (lock loadD prog s 4 t227 fun t228 =>
 (condD t228
 (lock nilD flt1_j39 fun t231 =>
 (lock fieldAddrD prog 171 t231 0 fun t232 =>
 (lock loadD prog s 108 t232 fun t233 =>
 (lock binD prog .shl 37 (.pv (.int .u64 1)) t233 fun t234 =>
 (lock nilD flt1_j39 fun t236 =>
 (lock fieldAddrD prog 171 t236 1 fun t237 =>
 (lock loadD prog s 108 t237 fun t238 =>
 (lock binD prog .shl 37 t234 t238 fun t239 =>
 (lock binD prog .or 37 t224 t239 fun t240 =>
 (retV (.tuple [t240,overflow5_j39]) s K))))))))))
 (retV (.tuple [t224,overflow5_j39]) s K)))))))))))))))))))))))))))
theorem J143_39_eq (env:Env)  (d0_j39 flt1_j39 overflow5_j39 exp6_j39 mant7_j39:AV) (s:AS) (K:AV->AS->Prop) (X:PV->AS->Prop):J143_39 env  d0_j39 flt1_j39 overflow5_j39 exp6_j39 mant7_j39 s K X=cutK (fun fr s=>wpD prog env an143 (subC (bodyC f143) [1,0,1,1,1,1,1,1,1,1,1,1,1,1,1,1,1]) (contQ prog env an143 (bodyC f143) [1,0,1,1,1,1,1,1,1,1,1,1,1,1,1,1,1] [] (rootQ prog f143 K X)) fr s) [(0,d0_j39),(1,flt1_j39),(5,overflow5_j39),(6,exp6_j39),(7,mant7_j39)] s:=by
  unfold J143_39
  refine cutK_of ?_
  kernel_rfl
def J143_38 (env:Env)  (d0_j38 flt1_j38 overflow5_j38 exp6_j38 mant7_j38 t180_j38:AV) (s:AS) (K:AV->AS->Prop) (X:PV->AS->Prop):Prop :=
 (condD t180_j38
 (lock nilD flt1_j38 fun t182 =>
 (lock fieldAddrD prog 171 t182 2 fun t183 =>
 (lock loadD prog s 3 t183 fun t184 =>
 (J143_39 env  (d0_j38) (flt1_j38) (overflow5_j38) (t184) (mant7_j38) s K X))))
 (J143_39 env  (d0_j38) (flt1_j38) (overflow5_j38) (exp6_j38) (mant7_j38) s K X))
theorem J143_38_eq (env:Env)  (d0_j38 flt1_j38 overflow5_j38 exp6_j38 mant7_j38 t180_j38:AV) (s:AS) (K:AV->AS->Prop) (X:PV->AS->Prop):J143_38 env  d0_j38 flt1_j38 overflow5_j38 exp6_j38 mant7_j38 t180_j38 s K X=cutK (fun fr s=>wpD prog env an143 (subC (bodyC f143) [1,0,1,1,1,1,1,1,1,1,1,1,1,1,1,1,0,1]) (contQ prog env an143 (bodyC f143) [1,0,1,1,1,1,1,1,1,1,1,1,1,1,1,1,0,1] [] (rootQ prog f143 K X)) fr s) [(0,d0_j38),(1,flt1_j38),(5,overflow5_j38),(6,exp6_j38),(7,mant7_j38),(180,t180_j38)] s:=by
  unfold J143_38
  simp only [J143_39_eq]
  refine cutK_of ?_
  kernel_rfl
def J143_37 (env:Env)  (d0_j37 flt1_j37 overflow5_j37 exp6_j37 mant7_j37:AV) (s:AS) (K:AV->AS->Prop) (X:PV->AS->Prop):Prop :=
 (lock nilD flt1_j37 fun t175 =>
 (lock fieldAddrD prog 171 t175 0 fun t176 =>
 (lock loadD prog s 108 t176 fun t177 =>
 (lock binD prog .shl 37 (.pv (.int .u64 1)) t177 fun t178 =>
 (lock binD prog .and 37 mant7_j37 t178 fun t179 =>
 (lock binD prog .eql 37 t179 (.pv (.int .u64 0)) fun t180 =>
 (J143_38 env  (d0_j37) (flt1_j37) (overflow5_j37) (exp6_j37) (mant7_j37) (t180) s K X)))))))
theorem J143_37_eq (env:Env)  (d0_j37 flt1_j37 overflow5_j37 exp6_j37 mant7_j37:AV) (s:AS) (K:AV->AS->Prop) (X:PV->AS->Prop):J143_37 env  d0_j37 flt1_j37 overflow5_j37 exp6_j37 mant7_j37 s K X=cutK (fun fr s=>wpD prog env an143 (subC (bodyC f143) [1,0,1,1,1,1,1,1,1,1,1,1,1,1,1,1]) (contQ prog env an143 (bodyC f143) [1,0,1,1,1,1,1,1,1,1,1,1,1,1,1,1] [] (rootQ prog f143 K X)) fr s) [(0,d0_j37),(1,flt1_j37),(5,overflow5_j37),(6,exp6_j37),(7,mant7_j37)] s:=by
  unfold J143_37
  simp only [J143_38_eq]
  refine cutK_of ?_
  kernel_rfl
def J143_36 (env:Env)  (d0_j36 flt1_j36 overflow5_j36 exp6_j36 mant7_j36:AV) (s:AS) (K:AV->AS->Prop) (X:PV->AS->Prop):Prop :=
 (lock nilD flt1_j36 fun t162 =>
 (lock fieldAddrD prog 171 t162 2 fun t163 =>
 (lock loadD prog s 3 t163 fun t164 =>
 (lock binD prog .sub 3 exp6_j36 t164 fun t165 =>
 (lock nilD flt1_j36 fun t167 =>
 (lock fieldAddrD prog 171 t167 1 fun t168 =>
 (lock loadD prog s 108 t168 fun t169 =>
 (lock binD prog .shl 3 (.pv (.int .i64 1)) t169 fun t170 =>
 (lock binD prog .sub 3 t170 (.pv (.int .i64 1)) fun t171 =>
 (lock binD prog .geq 3 t165 t171 fun t172 =>
 (condD t172
 (lock nilD flt1_j36 fun t186 =>
 (lock fieldAddrD prog 171 t186 1 fun t187 =>
 (lock loadD prog s 108 t187 fun t188 =>
 (lock binD prog .shl 3 (.pv (.int .i64 1)) t188 fun t189 =>
 (lock binD prog .sub 3 t189 (.pv (.int .i64 1)) fun t190 =>
 (lock nilD flt1_j36 fun t192 =>
 (lock fieldAddrD prog 171 t192 2 fun t193 =>
 (lock loadD prog s 3 t193 fun t194 =>
 (lock binD prog .add 3 t190 t194 fun t195 =>
 (lock nilD flt1_j36 fun t198 =>
 (lock fieldAddrD prog 171 t198 0 fun t199 =>
 (lock loadD prog s 108 t199 fun t200 =>
 (lock binD prog .shl 37 (.pv (.int .u64 1)) t200 fun t201 =>
 (lock binD prog .sub 37 t201 (.pv (.int .u64 1)) fun t202 =>
 (lock binD prog .and 37 (.pv (.int .u64 0)) t202 fun t203 =>
 (lock nilD flt1_j36 fun t207 =>
 (lock fieldAddrD prog 171 t207 2 fun t208 =>
 (lock loadD prog s 3 t208 fun t209 =>
 (lock binD prog .sub 3 t195 t209 fun t210 =>
 (lock nilD flt1_j36 fun t212 =>
 (lock fieldAddrD prog 171 t212 1 fun t213 =>
 (lock loadD prog s 108 t213 fun t214 =>
 (lock binD prog .shl 3 (.pv (.int .i64 1)) t214 fun t215 =>
 (lock binD prog .sub 3 t215 (.pv (.int .i64 1)) fun t216 =>
 (lock binD prog .and 3 t210 t216 fun t217 =>
 (lock convD prog s 3 37 t217 fun t218 =>
 (lock nilD flt1_j36 fun t220 =>
 (lock fieldAddrD prog 171 t220 0 fun t221 =>
 (lock loadD prog s 108 t221 fun t222 =>
 (lock binD prog .shl 37 t218 t222 fun t223 =>
 (lock binD prog .or 37 t203 t223 fun t224 =>
 (lock nilD d0_j36 fun t226 =>
 (lock fieldAddrD prog 181 t226 3 fun t227 =>
 (lock loadD prog s 4 t227 fun t228 =>
 (condD t228
 (lock nilD flt1_j36 fun t231 =>
 (lock fieldAddrD prog 171 t231 0 fun t232 =>
 (lock loadD prog s 108 t232 fun t233 =>
 (lock binD prog .shl 37 (.pv (.int .u64 1)) t233 fun t234 =>
 (lock nilD flt1_j36 fun t236 =>
 (lock fieldAddrD prog 171 t236 1 fun t237 =>
 (lock loadD prog s 108 t237 fun t238 =>
 (lock binD prog .shl 37 t234 t238 fun t239 =>
 (lock binD prog .or 37 t224 t239 fun t240 =>
 (retV (.tuple [t240,(.pv (.bool true))]) s K))))))))))
 (retV (.tuple [t224,(.pv (.bool true))]) s K))))))))))))))))))))))))))))))))))))
 (J143_37 env  (d0_j36) (flt1_j36) (overflow5_j36) (exp6_j36) (mant7_j36) s K X))))))))))))
theorem J143_36_eq (env:Env)  (d0_j36 flt1_j36 overflow5_j36 exp6_j36 mant7_j36:AV) (s:AS) (K:AV->AS->Prop) (X:PV->AS->Prop):J143_36 env  d0_j36 flt1_j36 overflow5_j36 exp6_j36 mant7_j36 s K X=cutK (fun fr s=>wpD prog env an143 (subC (bodyC f143) [1,0,1,1,1,1,1,1,1,1,1,1,1,1,1,0,1,0,1,1]) (contQ prog env an143 (bodyC f143) [1,0,1,1,1,1,1,1,1,1,1,1,1,1,1,0,1,0,1,1] [] (rootQ prog f143 K X)) fr s) [(0,d0_j36),(1,flt1_j36),(5,overflow5_j36),(6,exp6_j36),(7,mant7_j36)] s:=by
  unfold J143_36
  simp only [J143_37_eq]
  refine cutK_of ?_
  kernel_rfl
def J143_35 (env:Env)  (d0_j35 flt1_j35 overflow5_j35 exp6_j35 mant7_j35:AV) (s:AS) (K:AV->AS->Prop) (X:PV->AS->Prop):Prop :=
 (lock binD prog .add 3 exp6_j35 (.pv (.int .i64 1)) fun t159 =>
 (J143_36 env  (d0_j35) (flt1_j35) (overflow5_j35) (t159) (mant7_j35) s K X))
theorem J143_35_eq (env:Env)  (d0_j35 flt1_j35 overflow5_j35 exp6_j35 mant7_j35:AV) (s:AS) (K:AV->AS->Prop) (X:PV->AS->Prop):J143_35 env  d0_j35 flt1_j35 overflow5_j35 exp6_j35 mant7_j35 s K X=cutK (fun fr s=>wpD prog env an143 (subC (bodyC f143) [1,0,1,1,1,1,1,1,1,1,1,1,1,1,1,0,1,0,1]) (contQ prog env an143 (bodyC f143) [1,0,1,1,1,1,1,1,1,1,1,1,1,1,1,0,1,0,1] [] (rootQ prog f143 K X)) fr s) [(0,d0_j35),(1,flt1_j35),(5,overflow5_j35),(6,exp6_j35),(7,mant7_j35)] s:=by
  unfold J143_35
  simp only [J143_36_eq]
  refine cutK_of ?_
  kernel_rfl
def J143_34 (env:Env)  (d0_j34 flt1_j34 overflow5_j34 exp6_j34 mant7_j34 t155_j34:AV) (s:AS) (K:AV->AS->Prop) (X:PV->AS->Prop):Prop :=
 (condD t155_j34
 (lock binD prog .shr 37 mant7_j34 (.pv (.int .u64 1)) fun t157 =>
 (J143_35 env  (d0_j34) (flt1_j34) (overflow5_j34) (exp6_j34) (t157) s K X))
 (J143_37 env  (d0_j34) (flt1_j34) (overflow5_j34) (exp6_j34) (mant7_j34) s K X))
theorem J143_34_eq (env:Env)  (d0_j34 flt1_j34 overflow5_j34 exp6_j34 mant7_j34 t155_j34:AV) (s:AS) (K:AV->AS->Prop) (X:PV->AS->Prop):J143_34 env  d0_j34 flt1_j34 overflow5_j34 exp6_j34 mant7_j34 t155_j34 s K X=cutK (fun fr s=>wpD prog env an143 (subC (bodyC f143) [1,0,1,1,1,1,1,1,1,1,1,1,1,1,1,0,1]) (contQ prog env an143 (bodyC f143) [1,0,1,1,1,1,1,1,1,1,1,1,1,1,1,0,1] [] (rootQ prog f143 K X)) fr s) [(0,d0_j34),(1,flt1_j34),(5,overflow5_j34),(6,exp6_j34),(7,mant7_j34),(155,t155_j34)] s:=by
  unfold J143_34
  simp only [J143_37_eq,J143_35_eq]
  refine cutK_of ?_
  kernel_rfl
def J143_33 (env:Env)  (d0_j33 flt1_j33 overflow5_j33 exp6_j33 mant7_j33:AV) (s:AS) (K:AV->AS->Prop) (X:PV->AS->Prop):Prop :=
 (lock nilD flt1_j33 fun t151 =>
 (lock fieldAddrD prog 171 t151 0 fun t152 =>
 (lock loadD prog s 108 t152 fun t153 =>
 (lock binD prog .shl 37 (.pv (.int .u64 2)) t153 fun t154 =>
 (lock binD prog .eql 37 mant7_j33 t154 fun t155 =>
 (J143_34 env  (d0_j33) (flt1_j33) (overflow5_j33) (exp6_j33) (mant7_j33) (t155) s K X))))))
theorem J143_33_eq (env:Env)  (d0_j33 flt1_j33 overflow5_j33 exp6_j33 mant7_j33:AV) (s:AS) (K:AV->AS->Prop) (X:PV->AS->Prop):J143_33 env  d0_j33 flt1_j33 overflow5_j33 exp6_j33 mant7_j33 s K X=cutK (fun fr s=>wpD prog env an143 (subC (bodyC f143) [1,0,1,1,1,1,1,1,1,1,1,1,1,1,1]) (contQ prog env an143 (bodyC f143) [1,0,1,1,1,1,1,1,1,1,1,1,1,1,1] [] (rootQ prog f143 K X)) fr s) [(0,d0_j33),(1,flt1_j33),(5,overflow5_j33),(6,exp6_j33),(7,mant7_j33)] s:=by
  unfold J143_33
  simp only [J143_34_eq]
  refine cutK_of ?_
  kernel_rfl
def J143_32 (env:Env)  (d0_j32 flt1_j32 overflow5_j32 exp6_j32:AV) (s:AS) (K:AV->AS->Prop) (X:PV->AS->Prop):Prop :=
 (env 179 [d0_j32] s (fun t148 s7 =>
 (J143_33 env  (d0_j32) (flt1_j32) (overflow5_j32) (exp6_j32) (t148) s7 K X)) (panV X))
theorem J143_32_eq (env:Env)  (d0_j32 flt1_j32 overflow5_j32 exp6_j32:AV) (s:AS) (K:AV->AS->Prop) (X:PV->AS->Prop):J143_32 env  d0_j32 flt1_j32 overflow5_j32 exp6_j32 s K X=cutK (fun fr s=>wpD prog env an143 (subC (bodyC f143) [1,0,1,1,1,1,1,1,1,1,1,1,1,1]) (contQ prog env an143 (bodyC f143) [1,0,1,1,1,1,1,1,1,1,1,1,1,1] [] (rootQ prog f143 K X)) fr s) [(0,d0_j32),(1,flt1_j32),(5,overflow5_j32),(6,exp6_j32)] s:=by
  unfold J143_32
  simp only [J143_33_eq]
  refine cutK_of ?_
  kernel_rfl
def J143_31 (env:Env)  (d0_j31 flt1_j31 overflow5_j31 exp6_j31:AV) (s:AS) (K:AV->AS->Prop) (X:PV->AS->Prop):Prop :=
 (lock nilD flt1_j31 fun t141 =>
 (lock fieldAddrD prog 171 t141 0 fun t142 =>
 (lock loadD prog s 108 t142 fun t143 =>
 (lock binD prog .add 108 (.pv (.int .u64 1)) t143 fun t144 =>
 (lock convD prog s 108 3 t144 fun t145 =>
 (env 178 [d0_j31,t145] s (fun t146 s6 =>
 (J143_32 env  (d0_j31) (flt1_j31) (overflow5_j31) (exp6_j31) s6 K X)) (panV X)))))))
theorem J143_31_eq (env:Env)  (d0_j31 flt1_j31 overflow5_j31 exp6_j31:AV) (s:AS) (K:AV->AS->Prop) (X:PV->AS->Prop):J143_31 env  d0_j31 flt1_j31 overflow5_j31 exp6_j31 s K X=cutK (fun fr s=>wpD prog env an143 (subC (bodyC f143) [1,0,1,1,1,1,1,1,1,1,1,1,1]) (contQ prog env an143 (bodyC f143) [1,0,1,1,1,1,1,1,1,1,1,1,1] [] (rootQ prog f143 K X)) fr s) [(0,d0_j31),(1,flt1_j31),(5,overflow5_j31),(6,exp6_j31)] s:=by
  unfold J143_31
  simp only [J143_32_eq]
  refine cutK_of ?_
  kernel_rfl
def J143_30 (env:Env)  (d0_j30 flt1_j30 overflow5_j30 exp6_j30:AV) (s:AS) (K:AV->AS->Prop) (X:PV->AS->Prop):Prop :=
 (lock nilD flt1_j30 fun t128 =>
 (lock fieldAddrD prog 171 t128 2 fun t129 =>
 (lock loadD prog s 3 t129 fun t130 =>
 (lock binD prog .sub 3 exp6_j30 t130 fun t131 =>
 (lock nilD flt1_j30 fun t133 =>
 (lock fieldAddrD prog 171 t133 1 fun t134 =>
 (lock loadD prog s 108 t134 fun t135 =>
 (lock binD prog .shl 3 (.pv (.int .i64 1)) t135 fun t136 =>
 (lock binD prog .sub 3 t136 (.pv (.int .i64 1)) fun t137 =>
 (lock binD prog .geq 3 t131 t137 fun t138 =>
 (condD t138
 (lock nilD flt1_j30 fun t186 =>
 (lock fieldAddrD prog 171 t186 1 fun t187 =>
 (lock loadD prog s 108 t187 fun t188 =>
 (lock binD prog .shl 3 (.pv (.int .i64 1)) t188 fun t189 =>
 (lock binD prog .sub 3 t189 (.pv (.int .i64 1)) fun t190 =>
 (lock nilD flt1_j30 fun t192 =>
 (lock fieldAddrD prog 171 t192 2 fun t193 =>
 (lock loadD prog s 3 t193 fun t194 =>
 (lock binD prog .add 3 t190 t194 fun t195 =>
 (lock nilD flt1_j30 fun t198 =>
 (lock fieldAddrD prog 171 t198 0 fun t199 =>
 (lock loadD prog s 108 t199 fun t200 =>
 (lock binD prog .shl 37 (.pv (.int .u64 1)) t200 fun t201 =>
 (lock binD prog .sub 37 t201 (.pv (.int .u64 1)) fun t202 =>
 (lock binD prog .and 37 (.pv (.int .u64 0)) t202 fun t203 =>
 (lock nilD flt1_j30 fun t207 =>
 (lock fieldAddrD prog 171 t207 2 fun t208 =>
 (lock loadD prog s 3 t208 fun t209 =>
 (lock binD prog .sub 3 t195 t209 fun t210 =>
 (lock nilD flt1_j30 fun t212 =>
 (lock fieldAddrD prog 171 t212 1 fun t213 =>
 (lock loadD prog s 108 t213 fun t214 =>
 (lock binD prog .shl 3 (.pv (.int .i64 1)) t214 fun t215 =>
 (lock binD prog .sub 3 t215 (.pv (.int .i64 1)) fun t216 =>
 (lock binD prog .and 3 t210 t216 fun t217 =>
 (lock convD prog s 3 37 t217 fun t218 =>
 (lock nilD flt1_j30 fun t220 =>
 (lock fieldAddrD prog 171 t220 0 fun t221 =>
 (lock loadD prog s 108 t221 fun t222 =>
 (lock binD prog .shl 37 t218 t222 fun t223 =>
 (lock binD prog .or 37 t203 t223 fun t224 =>
 (lock nilD d0_j30 fun t226 =>
 (lock fieldAddrD prog 181 t226 3 fun t227 =>
 (lock loadD prog s 4 t227 fun t228 =>
 (condD t228
 (lock nilD flt1_j30 fun t231 =>
 (lock fieldAddrD prog 171 t231 0 fun t232 =>
 (lock loadD prog s 108 t232 fun t233 =>
 (lock binD prog .shl 37 (.pv (.int .u64 1)) t233 fun t234 =>
 (lock nilD flt1_j30 fun t236 =>
 (lock fieldAddrD prog 171 t236 1 fun t237 =>
 (lock loadD prog s 108 t237 fun t238 =>
 (lock binD prog .shl 37 t234 t238 fun t239 =>
 (lock binD prog .or 37 t224 t239 fun t240 =>
 (retV (.tuple [t240,(.pv (.bool true))]) s K))))))))))
 (retV (.tuple [t224,(.pv (.bool true))]) s K))))))))))))))))))))))))))))))))))))
 (J143_31 env  (d0_j30) (flt1_j30) (overflow5_j30) (exp6_j30) s K X))))))))))))
theorem J143_30_eq (env:Env)  (d0_j30 flt1_j30 overflow5_j30 exp6_j30:AV) (s:AS) (K:AV->AS->Prop) (X:PV->AS->Prop):J143_30 env  d0_j30 flt1_j30 overflow5_j30 exp6_j30 s K X=cutK (fun fr s=>wpD prog env an143 (subC (bodyC f143) [1,0,1,1,1,1,1,1,1,1,1,1]) (contQ prog env an143 (bodyC f143) [1,0,1,1,1,1,1,1,1,1,1,1] [] (rootQ prog f143 K X)) fr s) [(0,d0_j30),(1,flt1_j30),(5,overflow5_j30),(6,exp6_j30)] s:=by
  unfold J143_30
  simp only [J143_31_eq]
  refine cutK_of ?_
  kernel_rfl
def J143_29 (env:Env)  (d0_j29 flt1_j29 overflow5_j29 exp6_j29 n10_j29:AV) (s:AS) (K:AV->AS->Prop) (X:PV->AS->Prop):Prop :=
 (lock binD prog .add 3 exp6_j29 n10_j29 fun t125 =>
 (J143_30 env  (d0_j29) (flt1_j29) (overflow5_j29) (t125) s K X))
theorem J143_29_eq (env:Env)  (d0_j29 flt1_j29 overflow5_j29 exp6_j29 n10_j29:AV) (s:AS) (K:AV->AS->Prop) (X:PV->AS->Prop):J143_29 env  d0_j29 flt1_j29 overflow5_j29 exp6_j29 n10_j29 s K X=cutK (fun fr s=>wpD prog env an143 (subC (bodyC f143) [1,0,1,1,1,1,1,1,1,1,1,0,1,0,1,1]) (contQ prog env an143 (bodyC f143) [1,0,1,1,1,1,1,1,1,1,1,0,1,0,1,1] [] (rootQ prog f143 K X)) fr s) [(0,d0_j29),(1,flt1_j29),(5,overflow5_j29),(6,exp6_j29),(10,n10_j29)] s:=by
  unfold J143_29
  simp only [J143_30_eq]
  refine cutK_of ?_
  kernel_rfl
def J143_28 (env:Env)  (d0_j28 flt1_j28 overflow5_j28 exp6_j28 n10_j28:AV) (s:AS) (K:AV->AS->Prop) (X:PV->AS->Prop):Prop :=
 (unD .neg n10_j28 fun t121 =>
 (env 178 [d0_j28,t121] s (fun t122 s5 =>
 (J143_29 env  (d0_j28) (flt1_j28) (overflow5_j28) (exp6_j28) (n10_j28) s5 K X)) (panV X)))
theorem J143_28_eq (env:Env)  (d0_j28 flt1_j28 overflow5_j28 exp6_j28 n10_j28:AV) (s:AS) (K:AV->AS->Prop) (X:PV->AS->Prop):J143_28 env  d0_j28 flt1_j28 overflow5_j28 exp6_j28 n10_j28 s K X=cutK (fun fr s=>wpD prog env an143 (subC (bodyC f143) [1,0,1,1,1,1,1,1,1,1,1,0,1,0,1]) (contQ prog env an143 (bodyC f143) [1,0,1,1,1,1,1,1,1,1,1,0,1,0,1] [] (rootQ prog f143 K X)) fr s) [(0,d0_j28),(1,flt1_j28),(5,overflow5_j28),(6,exp6_j28),(10,n10_j28)] s:=by
  unfold J143_28
  simp only [J143_29_eq]
  refine cutK_of ?_
  kernel_rfl
def J143_27 (env:Env)  (d0_j27 flt1_j27 overflow5_j27 exp6_j27 t111_j27:AV) (s:AS) (K:AV->AS->Prop) (X:PV->AS->Prop):Prop :=
 (condD t111_j27
 (lock nilD flt1_j27 fun t113 =>
 (lock fieldAddrD prog 171 t113 2 fun t114 =>
 (lock loadD prog s 3 t114 fun t115 =>
 (lock binD prog .add 3 t115 (.pv (.int .i64 1)) fun t116 =>
 (lock binD prog .sub 3 t116 exp6_j27 fun t118 =>
 (J143_28 env  (d0_j27) (flt1_j27) (overflow5_j27) (exp6_j27) (t118) s K X))))))
 (J143_30 env  (d0_j27) (flt1_j27) (overflow5_j27) (exp6_j27) s K X))
theorem J143_27_eq (env:Env)  (d0_j27 flt1_j27 overflow5_j27 exp6_j27 t111_j27:AV) (s:AS) (K:AV->AS->Prop) (X:PV->AS->Prop):J143_27 env  d0_j27 flt1_j27 overflow5_j27 exp6_j27 t111_j27 s K X=cutK (fun fr s=>wpD prog env an143 (subC (bodyC f143) [1,0,1,1,1,1,1,1,1,1,1,0,1]) (contQ prog env an143 (bodyC f143) [1,0,1,1,1,1,1,1,1,1,1,0,1] [] (rootQ prog f143 K X)) fr s) [(0,d0_j27),(1,flt1_j27),(5,overflow5_j27),(6,exp6_j27),(111,t111_j27)] s:=by
  unfold J143_27
  simp only [J143_30_eq,J143_28_eq]
  refine cutK_of ?_
  kernel_rfl
def J143_26 (env:Env)  (d0_j26 flt1_j26 overflow5_j26 exp6_j26:AV) (s:AS) (K:AV->AS->Prop) (X:PV->AS->Prop):Prop :=
 (lock nilD flt1_j26 fun t107 =>
 (lock fieldAddrD prog 171 t107 2 fun t108 =>
 (lock loadD prog s 3 t108 fun t109 =>
 (lock binD prog .add 3 t109 (.pv (.int .i64 1)) fun t110 =>
 (lock binD prog .lss 3 exp6_j26 t110 fun t111 =>
 (J143_27 env  (d0_j26) (flt1_j26) (overflow5_j26) (exp6_j26) (t111) s K X))))))
theorem J143_26_eq (env:Env)  (d0_j26 flt1_j26 overflow5_j26 exp6_j26:AV) (s:AS) (K:AV->AS->Prop) (X:PV->AS->Prop):J143_26 env  d0_j26 flt1_j26 overflow5_j26 exp6_j26 s K X=cutK (fun fr s=>wpD prog env an143 (subC (bodyC f143) [1,0,1,1,1,1,1,1,1,1,1]) (contQ prog env an143 (bodyC f143) [1,0,1,1,1,1,1,1,1,1,1] [] (rootQ prog f143 K X)) fr s) [(0,d0_j26),(1,flt1_j26),(5,overflow5_j26),(6,exp6_j26)] s:=by
  unfold J143_26
  simp only [J143_27_eq]
  refine cutK_of ?_
  kernel_rfl
def J143_25 (env:Env)  (d0_j25 flt1_j25 overflow5_j25 exp6_j25:AV) (s:AS) (K:AV->AS->Prop) (X:PV->AS->Prop):Prop :=
 (lock binD prog .sub 3 exp6_j25 (.pv (.int .i64 1)) fun t104 =>
 (J143_26 env  (d0_j25) (flt1_j25) (overflow5_j25) (t104) s K X))
theorem J143_25_eq (env:Env)  (d0_j25 flt1_j25 overflow5_j25 exp6_j25:AV) (s:AS) (K:AV->AS->Prop) (X:PV->AS->Prop):J143_25 env  d0_j25 flt1_j25 overflow5_j25 exp6_j25 s K X=cutK (fun fr s=>wpD prog env an143 (subC (bodyC f143) [1,0,1,1,1,1,1,1,1,1]) (contQ prog env an143 (bodyC f143) [1,0,1,1,1,1,1,1,1,1] [] (rootQ prog f143 K X)) fr s) [(0,d0_j25),(1,flt1_j25),(5,overflow5_j25),(6,exp6_j25)] s:=by
  unfold J143_25
  simp only [J143_26_eq]
  refine cutK_of ?_
  kernel_rfl
def L143_18 (env:Env) (I18:Nat->List AV->AS->Prop) (m18:Nat) (d0_l18 flt1_l18 overflow5_l18 exp6_l18:AV) (s:AS) (K:AV->AS->Prop) (X:PV->AS->Prop):Prop :=
 (lock nilD d0_l18 fun t62 =>
 (lock fieldAddrD prog 181 t62 2 fun t63 =>
 (lock loadD prog s 3 t63 fun t64 =>
 (lock binD prog .lss 3 t64 (.pv (.int .i64 0)) fun t65 =>
 (guardD t65 false
 (lock nilD d0_l18 fun t68 =>
 (lock fieldAddrD prog 181 t68 2 fun t69 =>
 (lock loadD prog s 3 t69 fun t70 =>
 (lock binD prog .eql 3 t70 (.pv (.int .i64 0)) fun t71 =>
 (guardD t71 true
 (lock nilD d0_l18 fun t74 =>
 (lock fieldAddrD prog 181 t74 0 fun t75 =>
 (lock indexAddrD prog 179 t75 (.pv (.int .i64 0)) fun t76 =>
 (lock loadD prog s 5 t76 fun t77 =>
 (lock binD prog .lss 5 t77 (.pv (.int .u8 53)) fun t78 =>
 (condD t78
 (J143_19 env I18 m18 (d0_l18) (flt1_l18) (overflow5_l18) (exp6_l18) s K X)
 (J143_25 env  (d0_l18) (flt1_l18) (overflow5_l18) (exp6_l18) s K X)))))))
 (J143_25 env  (d0_l18) (flt1_l18) (overflow5_l18) (exp6_l18) s K X))))))
 (J143_19 env I18 m18 (d0_l18) (flt1_l18) (overflow5_l18) (exp6_l18) s K X))))))
theorem L143_18_eq (env:Env) (I18:Nat->List AV->AS->Prop) (m18:Nat) (d0_l18 flt1_l18 overflow5_l18 exp6_l18:AV) (s:AS) (K:AV->AS->Prop) (X:PV->AS->Prop):L143_18 env I18 m18 d0_l18 flt1_l18 overflow5_l18 exp6_l18 s K X=wpD prog env an143 (subC (bodyC f143) [1,0,1,1,1,1,1,1,1,0,0,0]) (contQ prog env an143 (bodyC f143) [1,0,1,1,1,1,1,1,1,0,0,0] [(I18,m18)] (rootQ prog f143 K X)) [(0,d0_l18),(1,flt1_l18),(5,overflow5_l18),(6,exp6_l18)] s:=by
  unfold L143_18
  simp only [J143_19_eq,J143_25_eq]
  kernel_rfl
theorem lp143_18 {α:Type} {env:Env}  {d0_l18 flt1_l18 overflow5_l18:AV} {s:AS} {K:AV->AS->Prop} {X:PV->AS->Prop} (μ:α->AS->Nat) (I:α->AS->Prop) (eexp6_l18:α->AV) (a0:α) (h0:I a0 s)
 (h:∀ a s,I a s->L143_18 env  (Inv (fun a=>[d0_l18,flt1_l18,overflow5_l18,eexp6_l18 a]) μ I) (μ a s) d0_l18 flt1_l18 overflow5_l18 (eexp6_l18 a) s K X) :
 ∃ I18:Nat->List AV->AS->Prop,(∃ m,I18 m [d0_l18,flt1_l18,overflow5_l18,eexp6_l18 a0] s)/\∀ (m:Nat) (x0 x1 x2 x3:AV),∀ s,I18 m [x0,x1,x2,x3] s ->
 L143_18 env  I18 m x0 x1 x2 x3 s K X:=by
  refine ⟨Inv (fun a=>[d0_l18,flt1_l18,overflow5_l18,eexp6_l18 a]) μ I,⟨_,a0,rfl,rfl,h0⟩,?_⟩
  rintro m x0 x1 x2 x3 s' ⟨a,hv,rfl,hI⟩
  simp only [List.cons.injEq,and_true] at hv
  obtain ⟨rfl,rfl,rfl,rfl⟩:=hv
  exact h a s' hI
def J143_18 (env:Env)  (d0_j18 flt1_j18 overflow5_j18 exp6_j18:AV) (s:AS) (K:AV->AS->Prop) (X:PV->AS->Prop):Prop :=
 (∃ I18:Nat->List AV->AS->Prop,(∃ m,I18 m [d0_j18,flt1_j18,overflow5_j18,exp6_j18] s)/\∀ (m18:Nat) (d0_l18 flt1_l18 overflow5_l18 exp6_l18:AV),∀ s3,I18 m18 [d0_l18,flt1_l18,overflow5_l18,exp6_l18] s3 ->
 (L143_18 env I18 m18 d0_l18 flt1_l18 overflow5_l18 exp6_l18 s3 K X))
theorem J143_18_eq (env:Env)  (d0_j18 flt1_j18 overflow5_j18 exp6_j18:AV) (s:AS) (K:AV->AS->Prop) (X:PV->AS->Prop):J143_18 env  d0_j18 flt1_j18 overflow5_j18 exp6_j18 s K X=cutK (fun fr s=>wpD prog env an143 (subC (bodyC f143) [1,0,1,1,1,1,1,1,1]) (contQ prog env an143 (bodyC f143) [1,0,1,1,1,1,1,1,1] [] (rootQ prog f143 K X)) fr s) [(0,d0_j18),(1,flt1_j18),(5,overflow5_j18),(6,exp6_j18)] s:=by
  unfold J143_18
  simp only [L143_18_eq]
  refine cutK_of ?_
  kernel_rfl
def L143_11 (env:Env) (I11:Nat->List AV->AS->Prop) (m11:Nat) (d0_l11 flt1_l11 overflow5_l11 exp6_l11:AV) (s:AS) (K:AV->AS->Prop) (X:PV->AS->Prop):Prop :=
 (lock nilD d0_l11 fun t36 =>
 (lock fieldAddrD prog 181 t36 2 fun t37 =>
 (lock loadD prog s 3 t37 fun t38 =>
 (lock binD prog .gtr 3 t38 (.pv (.int .i64 0)) fun t39 =>
 (condD t39
 (J143_12 env I11 m11 (d0_l11) (flt1_l11) (overflow5_l11) (exp6_l11) s K X)
 (J143_18 env  (d0_l11) (flt1_l11) (overflow5_l11) (exp6_l11) s K X))))))
theorem L143_11_eq (env:Env) (I11:Nat->List AV->AS->Prop) (m11:Nat) (d0_l11 flt1_l11 overflow5_l11 exp6_l11:AV) (s:AS) (K:AV->AS->Prop) (X:PV->AS->Prop):L143_11 env I11 m11 d0_l11 flt1_l11 overflow5_l11 exp6_l11 s K X=wpD prog env an143 (subC (bodyC f143) [1,0,1,1,1,1,1,1,0,0,0]) (contQ prog env an143 (bodyC f143) [1,0,1,1,1,1,1,1,0,0,0] [(I11,m11)] (rootQ prog f143 K X)) [(0,d0_l11),(1,flt1_l11),(5,overflow5_l11),(6,exp6_l11)] s:=by
  unfold L143_11
  simp only [J143_12_eq,J143_18_eq]
  kernel_rfl
theorem lp143_11 {α:Type} {env:Env}  {d0_l11 flt1_l11 overflow5_l11:AV} {s:AS} {K:AV->AS->Prop} {X:PV->AS->Prop} (μ:α->AS->Nat) (I:α->AS->Prop) (eexp6_l11:α->AV) (a0:α) (h0:I a0 s)
 (h:∀ a s,I a s->L143_11 env  (Inv (fun a=>[d0_l11,flt1_l11,overflow5_l11,eexp6_l11 a]) μ I) (μ a s) d0_l11 flt1_l11 overflow5_l11 (eexp6_l11 a) s K X) :
 ∃ I11:Nat->List AV->AS->Prop,(∃ m,I11 m [d0_l11,flt1_l11,overflow5_l11,eexp6_l11 a0] s)/\∀ (m:Nat) (x0 x1 x2 x3:AV),∀ s,I11 m [x0,x1,x2,x3] s ->
 L143_11 env  I11 m x0 x1 x2 x3 s K X:=by
  refine ⟨Inv (fun a=>[d0_l11,flt1_l11,overflow5_l11,eexp6_l11 a]) μ I,⟨_,a0,rfl,rfl,h0⟩,?_⟩
  rintro m x0 x1 x2 x3 s' ⟨a,hv,rfl,hI⟩
  simp only [List.cons.injEq,and_true] at hv
  obtain ⟨rfl,rfl,rfl,rfl⟩:=hv
  exact h a s' hI
def J143_11 (env:Env)  (d0_j11 flt1_j11 overflow5_j11 exp6_j11:AV) (s:AS) (K:AV->AS->Prop) (X:PV->AS->Prop):Prop :=
 (∃ I11:Nat->List AV->AS->Prop,(∃ m,I11 m [d0_j11,flt1_j11,overflow5_j11,exp6_j11] s)/\∀ (m11:Nat) (d0_l11 flt1_l11 overflow5_l11 exp6_l11:AV),∀ s1,I11 m11 [d0_l11,flt1_l11,overflow5_l11,exp6_l11] s1 ->
 (L143_11 env I11 m11 d0_l11 flt1_l11 overflow5_l11 exp6_l11 s1 K X))
theorem J143_11_eq (env:Env)  (d0_j11 flt1_j11 overflow5_j11 exp6_j11:AV) (s:AS) (K:AV->AS->Prop) (X:PV->AS->Prop):J143_11 env  d0_j11 flt1_j11 overflow5_j11 exp6_j11 s K X=cutK (fun fr s=>wpD prog env an143 (subC (bodyC f143) [1,0,1,1,1,1,1,1]) (contQ prog env an143 (bodyC f143) [1,0,1,1,1,1,1,1] [] (rootQ prog f143 K X)) fr s) [(0,d0_j11),(1,flt1_j11),(5,overflow5_j11),(6,exp6_j11)] s:=by
  unfold J143_11
  simp only [L143_11_eq]
  refine cutK_of ?_
  kernel_rfl
def J143_10 (env:Env)  (d0_j10 flt1_j10 overflow5_j10:AV) (s:AS) (K:AV->AS->Prop) (X:PV->AS->Prop):Prop :=
 (J143_11 env  (d0_j10) (flt1_j10) (overflow5_j10) (.pv (.int .i64 0)) s K X)
theorem J143_10_eq (env:Env)  (d0_j10 flt1_j10 overflow5_j10:AV) (s:AS) (K:AV->AS->Prop) (X:PV->AS->Prop):J143_10 env  d0_j10 flt1_j10 overflow5_j10 s K X=cutK (fun fr s=>wpD prog env an143 (subC (bodyC f143) [1,0,1,1,1,1,1]) (contQ prog env an143 (bodyC f143) [1,0,1,1,1,1,1] [] (rootQ prog f143 K X)) fr s) [(0,d0_j10),(1,flt1_j10),(5,overflow5_j10)] s:=by
  unfold J143_10
  simp only [J143_11_eq]
  refine cutK_of ?_
  kernel_rfl
def J143_8 (env:Env)  (d0_j8 flt1_j8 overflow5_j8 t30_j8:AV) (s:AS) (K:AV->AS->Prop) (X:PV->AS->Prop):Prop :=
 (condD t30_j8
 (J143_9 env  (d0_j8) (flt1_j8) (overflow5_j8) (.pv (.int .u64 0)) s K X)
 (J143_10 env  (d0_j8) (flt1_j8) (overflow5_j8) s K X))
theorem J143_8_eq (env:Env)  (d0_j8 flt1_j8 overflow5_j8 t30_j8:AV) (s:AS) (K:AV->AS->Prop) (X:PV->AS->Prop):J143_8 env  d0_j8 flt1_j8 overflow5_j8 t30_j8 s K X=cutK (fun fr s=>wpD prog env an143 (subC (bodyC f143) [1,0,1,1,1,1,0,1]) (contQ prog env an143 (bodyC f143) [1,0,1,1,1,1,0,1] [] (rootQ prog f143 K X)) fr s) [(0,d0_j8),(1,flt1_j8),(5,overflow5_j8),(30,t30_j8)] s:=by
  unfold J143_8
  simp only [J143_9_eq,J143_10_eq]
  refine cutK_of ?_
  kernel_rfl
def J143_7 (env:Env)  (d0_j7 flt1_j7 overflow5_j7:AV) (s:AS) (K:AV->AS->Prop) (X:PV->AS->Prop):Prop :=
 (lock nilD d0_j7 fun t27 =>
 (lock fieldAddrD prog 181 t27 2 fun t28 =>
 (lock loadD prog s 3 t28 fun t29 =>
 (lock binD prog .lss 3 t29 (.pv (.int .i64 (-330))) fun t30 =>
 (J143_8 env  (d0_j7) (flt1_j7) (overflow5_j7) (t30) s K X)))))
theorem J143_7_eq (env:Env)  (d0_j7 flt1_j7 overflow5_j7:AV) (s:AS) (K:AV->AS->Prop) (X:PV->AS->Prop):J143_7 env  d0_j7 flt1_j7 overflow5_j7 s K X=cutK (fun fr s=>wpD prog env an143 (subC (bodyC f143) [1,0,1,1,1,1]) (contQ prog env an143 (bodyC f143) [1,0,1,1,1,1] [] (rootQ prog f143 K X)) fr s) [(0,d0_j7),(1,flt1_j7),(5,overflow5_j7)] s:=by
  unfold J143_7
  simp only [J143_8_eq]
  refine cutK_of ?_
  kernel_rfl
def J143_6 (env:Env)  (d0_j6 flt1_j6 overflow5_j6:AV) (s:AS) (K:AV->AS->Prop) (X:PV->AS->Prop):Prop :=
 (lock nilD d0_j6 fun t22 =>
 (lock fieldAddrD prog 181 t22 2 fun t23 =>
 (lock loadD prog s 3 t23 fun t24 =>
 (lock binD prog .gtr 3 t24 (.pv (.int .i64 310)) fun t25 =>
 (condD t25
 (lock nilD flt1_j6 fun t186 =>
 (lock fieldAddrD prog 171 t186 1 fun t187 =>
 (lock loadD prog s 108 t187 fun t188 =>
 (lock binD prog .shl 3 (.pv (.int .i64 1)) t188 fun t189 =>
 (lock binD prog .sub 3 t189 (.pv (.int .i64 1)) fun t190 =>
 (lock nilD flt1_j6 fun t192 =>
 (lock fieldAddrD prog 171 t192 2 fun t193 =>
 (lock loadD prog s 3 t193 fun t194 =>
 (lock binD prog .add 3 t190 t194 fun t195 =>
 (lock nilD flt1_j6 fun t198 =>
 (lock fieldAddrD prog 171 t198 0 fun t199 =>
 (lock loadD prog s 108 t199 fun t200 =>
 (lock binD prog .shl 37 (.pv (.int .u64 1)) t200 fun t201 =>
 (lock binD prog .sub 37 t201 (.pv (.int .u64 1)) fun t202 =>
 (lock binD prog .and 37 (.pv (.int .u64 0)) t202 fun t203 =>
 (lock nilD flt1_j6 fun t207 =>
 (lock fieldAddrD prog 171 t207 2 fun t208 =>
 (lock loadD prog s 3 t208 fun t209 =>
 (lock binD prog .sub 3 t195 t209 fun t210 =>
 (lock nilD flt1_j6 fun t212 =>
 (lock fieldAddrD prog 171 t212 1 fun t213 =>
 (lock loadD prog s 108 t213 fun t214 =>
 (lock binD prog .shl 3 (.pv (.int .i64 1)) t214 fun t215 =>
 (lock binD prog .sub 3 t215 (.pv (.int .i64 1)) fun t216 =>
 (lock binD prog .and 3 t210 t216 fun t217 =>
 (lock convD prog s 3 37 t217 fun t218 =>
 (lock nilD flt1_j6 fun t220 =>
 (lock fieldAddrD prog 171 t220 0 fun t221 =>
 (lock loadD prog s 108 t221 fun t222 =>
 (lock binD prog .shl 37 t218 t222 fun t223 =>
 (lock binD prog .or 37 t203 t223 fun t224 =>
 (lock nilD d0_j6 fun t226 =>
 (lock fieldAddrD prog 181 t226 3 fun t227 =>
 (lock loadD prog s 4 t227 fun t228 =>
 (condD t228
 (lock nilD flt1_j6 fun t231 =>
 (lock fieldAddrD prog 171 t231 0 fun t232 =>
 (lock loadD prog s 108 t232 fun t233 =>
 (lock binD prog .shl 37 (.pv (.int .u64 1)) t233 fun t234 =>
 (lock nilD flt1_j6 fun t236 =>
 (lock fieldAddrD prog 171 t236 1 fun t237 =>
 (lock loadD prog s 108 t237 fun t238 =>
 (lock binD prog .shl 37 t234 t238 fun t239 =>
 (lock binD prog .or 37 t224 t239 fun t240 =>
 (retV (.tuple [t240,(.pv (.bool true))]) s K))))))))))
 (retV (.tuple [t224,(.pv (.bool true))]) s K))))))))))))))))))))))))))))))))))))
 (J143_7 env  (d0_j6) (flt1_j6) (overflow5_j6) s K X))))))
theorem J143_6_eq (env:Env)  (d0_j6 flt1_j6 overflow5_j6:AV) (s:AS) (K:AV->AS->Prop) (X:PV->AS->Prop):J143_6 env  d0_j6 flt1_j6 overflow5_j6 s K X=cutK (fun fr s=>wpD prog env an143 (subC (bodyC f143) [1,0,1,1,1]) (contQ prog env an143 (bodyC f143) [1,0,1,1,1] [] (rootQ prog f143 K X)) fr s) [(0,d0_j6),(1,flt1_j6),(5,overflow5_j6)] s:=by
  unfold J143_6
  simp only [J143_7_eq]
  refine cutK_of ?_
  kernel_rfl
def J143_4 (env:Env)  (d0_j4 flt1_j4 overflow5_j4 t16_j4:AV) (s:AS) (K:AV->AS->Prop) (X:PV->AS->Prop):Prop :=
 (condD t16_j4
 (J143_5 env  (d0_j4) (flt1_j4) (overflow5_j4) (.pv (.int .u64 0)) s K X)
 (J143_6 env  (d0_j4) (flt1_j4) (overflow5_j4) s K X))
theorem J143_4_eq (env:Env)  (d0_j4 flt1_j4 overflow5_j4 t16_j4:AV) (s:AS) (K:AV->AS->Prop) (X:PV->AS->Prop):J143_4 env  d0_j4 flt1_j4 overflow5_j4 t16_j4 s K X=cutK (fun fr s=>wpD prog env an143 (subC (bodyC f143) [1,0,1,1,0,1]) (contQ prog env an143 (bodyC f143) [1,0,1,1,0,1] [] (rootQ prog f143 K X)) fr s) [(0,d0_j4),(1,flt1_j4),(5,overflow5_j4),(16,t16_j4)] s:=by
  unfold J143_4
  simp only [J143_5_eq,J143_6_eq]
  refine cutK_of ?_
  kernel_rfl
def J143_3 (env:Env)  (d0_j3 flt1_j3 overflow5_j3:AV) (s:AS) (K:AV->AS->Prop) (X:PV->AS->Prop):Prop :=
 (lock nilD d0_j3 fun t13 =>
 (lock fieldAddrD prog 181 t13 1 fun t14 =>
 (lock loadD prog s 3 t14 fun t15 =>
 (lock binD prog .eql 3 t15 (.pv (.int .i64 0)) fun t16 =>
 (J143_4 env  (d0_j3) (flt1_j3) (overflow5_j3) (t16) s K X)))))
theorem J143_3_eq (env:Env)  (d0_j3 flt1_j3 overflow5_j3:AV) (s:AS) (K:AV->AS->Prop) (X:PV->AS->Prop):J143_3 env  d0_j3 flt1_j3 overflow5_j3 s K X=cutK (fun fr s=>wpD prog env an143 (subC (bodyC f143) [1,0,1,1]) (contQ prog env an143 (bodyC f143) [1,0,1,1] [] (rootQ prog f143 K X)) fr s) [(0,d0_j3),(1,flt1_j3),(5,overflow5_j3)] s:=by
  unfold J143_3
  simp only [J143_4_eq]
  refine cutK_of ?_
  kernel_rfl
def J143_2 (env:Env)  (d0_j2 flt1_j2 overflow5_j2:AV) (s:AS) (K:AV->AS->Prop) (X:PV->AS->Prop):Prop :=
 (J143_3 env  (d0_j2) (flt1_j2) (overflow5_j2) s K X)
theorem J143_2_eq (env:Env)  (d0_j2 flt1_j2 overflow5_j2:AV) (s:AS) (K:AV->AS->Prop) (X:PV->AS->Prop):J143_2 env  d0_j2 flt1_j2 overflow5_j2 s K X=cutK (fun fr s=>wpD prog env an143 (subC (bodyC f143) [1,0,1]) (contQ prog env an143 (bodyC f143) [1,0,1] [] (rootQ prog f143 K X)) fr s) [(0,d0_j2),(1,flt1_j2),(5,overflow5_j2)] s:=by
  unfold J143_2
  simp only [J143_3_eq]
  refine cutK_of ?_
  kernel_rfl
def J143_1 (env:Env)  (d0_j1 flt1_j1 overflow5_j1:AV) (s:AS) (K:AV->AS->Prop) (X:PV->AS->Prop):Prop :=
 (J143_2 env  (d0_j1) (flt1_j1) (overflow5_j1) s K X)
theorem J143_1_eq (env:Env)  (d0_j1 flt1_j1 overflow5_j1:AV) (s:AS) (K:AV->AS->Prop) (X:PV->AS->Prop):J143_1 env  d0_j1 flt1_j1 overflow5_j1 s K X=cutK (fun fr s=>wpD prog env an143 (subC (bodyC f143) [1]) (contQ prog env an143 (bodyC f143) [1] [] (rootQ prog f143 K X)) fr s) [(0,d0_j1),(1,flt1_j1),(5,overflow5_j1)] s:=by
  unfold J143_1
  simp only [J143_2_eq]
  refine cutK_of ?_
  kernel_rfl
def S143 (env:Env) (d0_a flt1_a:AV) (s:AS) (K:AV->AS->Prop) (X:PV->AS->Prop):Prop :=
 (J143_1 env  (d0_a) (flt1_a) (.pv (.bool false)) s K X)
theorem S143_eq (env:Env) (d0_a flt1_a:AV) (s:AS) (K:AV->AS->Prop) (X:PV->AS->Prop):S143 env d0_a flt1_a s K X=bodyD prog env an143 f143 [d0_a,flt1_a] s K X:=by
  unfold S143
  simp only [J143_1_eq]
  kernel_rfl
theorem S143_ok:(match f143.body with | some c=>okCode an143 prog f143.ntmps c | none=>false)=true:=by kernel_rfl
end Go.AD
