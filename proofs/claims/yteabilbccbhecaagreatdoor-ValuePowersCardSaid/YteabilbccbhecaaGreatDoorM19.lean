import Derived.Test.YteabilbccbhecaaGreatDoorM8
import Derived.Test.YteabilbccbhecaaGreatDoorM18
set_option linter.unusedVariables false
set_option maxRecDepth 100000
namespace Go.AD
open Go.Proofs.Tryz
def an108:An:={ mu:=[],cut:=[(1,[0,4]),(2,[0,4,5,6,7]),(3,[0,4,5,6,32]),(4,[0,4]),(5,[0,3,4,8,9,10,11,12,13]),(6,[0,3,4,8,9,10,11,12,46]),(7,[0,3,4,8,9,10,11,12]),(8,[0,3,4,8,9,10,11,49]),(9,[3,14,15]),(10,[0,3,4,8,9,10,11]),(11,[0,3,4,8,9,10,11,64]),(12,[0,3,4,8,9,10,11,16]),(13,[0,3,4,8,9,10,11,16,69]),(14,[0,3,4,8,9,10,11,16]),(15,[0,3,4,8,9,10,11,16,75]),(16,[0,3,4,8,9,10,11,16]),(17,[0,3,4,8,9,10,11,16,82]),(18,[0,3,4,8,9,10,11,16]),(19,[0,3,4,8,9,10,11,16,88]),(20,[0,3,4,8,9,11,16,17,18]),(21,[0,3,4,8,9,11,16,17,96]),(22,[0,3,4,8,9,11,16]),(23,[0,3,4,8,9,11,16,19,20]),(24,[0,3,4,8,9,16,19,20,107]),(25,[0,3,4,8,9,16,19,20]),(26,[0,3,4,19,20,21]),(27,[0,3,4,19,20,121]),(28,[0,3,4]),(29,[0,3,4,23]),(30,[3,4,23,129]),(31,[3,4,23]),(32,[3,4,24,25]),(33,[2,3,4,25]),(35,[2,3,4])],loop:=[] }
def J108_9 (env:Env)  (n3_j9 f14_j9 err15_j9:AV) (s:AS) (K:AV->AS->Prop) (X:PV->AS->Prop):Prop :=
 (retV (.tuple [f14_j9,n3_j9,err15_j9]) s K)
theorem J108_9_eq (env:Env)  (n3_j9 f14_j9 err15_j9:AV) (s:AS) (K:AV->AS->Prop) (X:PV->AS->Prop):J108_9 env  n3_j9 f14_j9 err15_j9 s K X=cutK (fun fr s=>wpD prog env an108 (subC (bodyC f108) [1,1,1,1,0,1,0,1]) (contQ prog env an108 (bodyC f108) [1,1,1,1,0,1,0,1] [] (rootQ prog f108 K X)) fr s) [(3,n3_j9),(14,f14_j9),(15,err15_j9)] s:=by
  unfold J108_9
  refine cutK_of ?_
  kernel_rfl
def J108_35 (env:Env)  (f2_j35 n3_j35 err4_j35:AV) (s:AS) (K:AV->AS->Prop) (X:PV->AS->Prop):Prop :=
 (retV (.tuple [f2_j35,n3_j35,err4_j35]) s K)
theorem J108_35_eq (env:Env)  (f2_j35 n3_j35 err4_j35:AV) (s:AS) (K:AV->AS->Prop) (X:PV->AS->Prop):J108_35 env  f2_j35 n3_j35 err4_j35 s K X=cutK (fun fr s=>wpD prog env an108 (subC (bodyC f108) [1,1,1,1,1,1,1,1,1,1,1]) (contQ prog env an108 (bodyC f108) [1,1,1,1,1,1,1,1,1,1,1] [] (rootQ prog f108 K X)) fr s) [(2,f2_j35),(3,n3_j35),(4,err4_j35)] s:=by
  unfold J108_35
  refine cutK_of ?_
  kernel_rfl
def J108_33 (env:Env)  (f2_j33 n3_j33 err4_j33 ovf25_j33:AV) (s:AS) (K:AV->AS->Prop) (X:PV->AS->Prop):Prop :=
 (condD ovf25_j33
 (lock ifaceD prog 120 (.pv (.int .i64 1)) fun t139 =>
 (J108_35 env  (f2_j33) (n3_j33) (t139) s K X))
 (J108_35 env  (f2_j33) (n3_j33) (err4_j33) s K X))
theorem J108_33_eq (env:Env)  (f2_j33 n3_j33 err4_j33 ovf25_j33:AV) (s:AS) (K:AV->AS->Prop) (X:PV->AS->Prop):J108_33 env  f2_j33 n3_j33 err4_j33 ovf25_j33 s K X=cutK (fun fr s=>wpD prog env an108 (subC (bodyC f108) [1,1,1,1,1,1,1,1,1,1]) (contQ prog env an108 (bodyC f108) [1,1,1,1,1,1,1,1,1,1] [] (rootQ prog f108 K X)) fr s) [(2,f2_j33),(3,n3_j33),(4,err4_j33),(25,ovf25_j33)] s:=by
  unfold J108_33
  simp only [J108_35_eq]
  refine cutK_of ?_
  kernel_rfl
def J108_32 (env:Env)  (n3_j32 err4_j32 b24_j32 ovf25_j32:AV) (s:AS) (K:AV->AS->Prop) (X:PV->AS->Prop):Prop :=
 (env 145 [b24_j32] s (fun t137 s14 =>
 (J108_33 env  (t137) (n3_j32) (err4_j32) (ovf25_j32) s14 K X)) (panV X))
theorem J108_32_eq (env:Env)  (n3_j32 err4_j32 b24_j32 ovf25_j32:AV) (s:AS) (K:AV->AS->Prop) (X:PV->AS->Prop):J108_32 env  n3_j32 err4_j32 b24_j32 ovf25_j32 s K X=cutK (fun fr s=>wpD prog env an108 (subC (bodyC f108) [1,1,1,1,1,1,1,1,1]) (contQ prog env an108 (bodyC f108) [1,1,1,1,1,1,1,1,1] [] (rootQ prog f108 K X)) fr s) [(3,n3_j32),(4,err4_j32),(24,b24_j32),(25,ovf25_j32)] s:=by
  unfold J108_32
  simp only [J108_33_eq]
  refine cutK_of ?_
  kernel_rfl
def J108_31 (env:Env)  (n3_j31 err4_j31 dec23_j31:AV) (s:AS) (K:AV->AS->Prop) (X:PV->AS->Prop):Prop :=
 (env 143 [dec23_j31,(.glob 7 0)] s (fun t133 s13 =>
 (lock extractD t133 0 fun t134 =>
 (lock extractD t133 1 fun t135 =>
 (J108_32 env  (n3_j31) (err4_j31) (t134) (t135) s13 K X)))) (panV X))
theorem J108_31_eq (env:Env)  (n3_j31 err4_j31 dec23_j31:AV) (s:AS) (K:AV->AS->Prop) (X:PV->AS->Prop):J108_31 env  n3_j31 err4_j31 dec23_j31 s K X=cutK (fun fr s=>wpD prog env an108 (subC (bodyC f108) [1,1,1,1,1,1,1,1]) (contQ prog env an108 (bodyC f108) [1,1,1,1,1,1,1,1] [] (rootQ prog f108 K X)) fr s) [(3,n3_j31),(4,err4_j31),(23,dec23_j31)] s:=by
  unfold J108_31
  simp only [J108_32_eq]
  refine cutK_of ?_
  kernel_rfl
def J108_30 (env:Env)  (n3_j30 err4_j30 dec23_j30 t129_j30:AV) (s:AS) (K:AV->AS->Prop) (X:PV->AS->Prop):Prop :=
 (condD t129_j30
 (lock ifaceD prog 120 (.pv (.int .i64 2)) fun t131 =>
 (retV (.tuple [(.pv (.float .f64 0)),n3_j30,t131]) s K))
 (J108_31 env  (n3_j30) (err4_j30) (dec23_j30) s K X))
theorem J108_30_eq (env:Env)  (n3_j30 err4_j30 dec23_j30 t129_j30:AV) (s:AS) (K:AV->AS->Prop) (X:PV->AS->Prop):J108_30 env  n3_j30 err4_j30 dec23_j30 t129_j30 s K X=cutK (fun fr s=>wpD prog env an108 (subC (bodyC f108) [1,1,1,1,1,1,1,0,1]) (contQ prog env an108 (bodyC f108) [1,1,1,1,1,1,1,0,1] [] (rootQ prog f108 K X)) fr s) [(3,n3_j30),(4,err4_j30),(23,dec23_j30),(129,t129_j30)] s:=by
  unfold J108_30
  simp only [J108_31_eq]
  refine cutK_of ?_
  kernel_rfl
def J108_29 (env:Env)  (s0_j29 n3_j29 err4_j29 dec23_j29:AV) (s:AS) (K:AV->AS->Prop) (X:PV->AS->Prop):Prop :=
 (lock sliceD prog 9 s0_j29 none (some n3_j29) fun t127 =>
 (env 142 [dec23_j29,t127] s (fun t128 s12 =>
 (unD .not t128 fun t129 =>
 (J108_30 env  (n3_j29) (err4_j29) (dec23_j29) (t129) s12 K X))) (panV X)))
theorem J108_29_eq (env:Env)  (s0_j29 n3_j29 err4_j29 dec23_j29:AV) (s:AS) (K:AV->AS->Prop) (X:PV->AS->Prop):J108_29 env  s0_j29 n3_j29 err4_j29 dec23_j29 s K X=cutK (fun fr s=>wpD prog env an108 (subC (bodyC f108) [1,1,1,1,1,1,1]) (contQ prog env an108 (bodyC f108) [1,1,1,1,1,1,1] [] (rootQ prog f108 K X)) fr s) [(0,s0_j29),(3,n3_j29),(4,err4_j29),(23,dec23_j29)] s:=by
  unfold J108_29
  simp only [J108_30_eq]
  refine cutK_of ?_
  kernel_rfl
def J108_28 (env:Env)  (s0_j28 n3_j28 err4_j28:AV) (s:AS) (K:AV->AS->Prop) (X:PV->AS->Prop):Prop :=
 (lock allocD prog s 181 fun t23 s11 =>
 (J108_29 env  (s0_j28) (n3_j28) (err4_j28) (t23) s11 K X))
theorem J108_28_eq (env:Env)  (s0_j28 n3_j28 err4_j28:AV) (s:AS) (K:AV->AS->Prop) (X:PV->AS->Prop):J108_28 env  s0_j28 n3_j28 err4_j28 s K X=cutK (fun fr s=>wpD prog env an108 (subC (bodyC f108) [1,1,1,1,1,1]) (contQ prog env an108 (bodyC f108) [1,1,1,1,1,1] [] (rootQ prog f108 K X)) fr s) [(0,s0_j28),(3,n3_j28),(4,err4_j28)] s:=by
  unfold J108_28
  simp only [J108_29_eq]
  refine cutK_of ?_
  kernel_rfl
def J108_27 (env:Env)  (s0_j27 n3_j27 err4_j27 f19_j27 err20_j27 t121_j27:AV) (s:AS) (K:AV->AS->Prop) (X:PV->AS->Prop):Prop :=
 (condD t121_j27
 (retV (.tuple [f19_j27,n3_j27,err20_j27]) s K)
 (J108_28 env  (s0_j27) (n3_j27) (err4_j27) s K X))
theorem J108_27_eq (env:Env)  (s0_j27 n3_j27 err4_j27 f19_j27 err20_j27 t121_j27:AV) (s:AS) (K:AV->AS->Prop) (X:PV->AS->Prop):J108_27 env  s0_j27 n3_j27 err4_j27 f19_j27 err20_j27 t121_j27 s K X=cutK (fun fr s=>wpD prog env an108 (subC (bodyC f108) [1,1,1,1,1,0,1,0,1,1,1,1,1,1,1,1,1]) (contQ prog env an108 (bodyC f108) [1,1,1,1,1,0,1,0,1,1,1,1,1,1,1,1,1] [] (rootQ prog f108 K X)) fr s) [(0,s0_j27),(3,n3_j27),(4,err4_j27),(19,f19_j27),(20,err20_j27),(121,t121_j27)] s:=by
  unfold J108_27
  simp only [J108_28_eq]
  refine cutK_of ?_
  kernel_rfl
def J108_26 (env:Env)  (s0_j26 n3_j26 err4_j26 f19_j26 err20_j26 f121_j26:AV) (s:AS) (K:AV->AS->Prop) (X:PV->AS->Prop):Prop :=
 (lock binD prog .eql 22 f19_j26 f121_j26 fun t121 =>
 (J108_27 env  (s0_j26) (n3_j26) (err4_j26) (f19_j26) (err20_j26) (t121) s K X))
theorem J108_26_eq (env:Env)  (s0_j26 n3_j26 err4_j26 f19_j26 err20_j26 f121_j26:AV) (s:AS) (K:AV->AS->Prop) (X:PV->AS->Prop):J108_26 env  s0_j26 n3_j26 err4_j26 f19_j26 err20_j26 f121_j26 s K X=cutK (fun fr s=>wpD prog env an108 (subC (bodyC f108) [1,1,1,1,1,0,1,0,1,1,1,1,1,1,1,1]) (contQ prog env an108 (bodyC f108) [1,1,1,1,1,0,1,0,1,1,1,1,1,1,1,1] [] (rootQ prog f108 K X)) fr s) [(0,s0_j26),(3,n3_j26),(4,err4_j26),(19,f19_j26),(20,err20_j26),(21,f121_j26)] s:=by
  unfold J108_26
  simp only [J108_27_eq]
  refine cutK_of ?_
  kernel_rfl
def J108_25 (env:Env)  (s0_j25 n3_j25 err4_j25 d8_j25 p9_j25 sign16_j25 f19_j25 err20_j25:AV) (s:AS) (K:AV->AS->Prop) (X:PV->AS->Prop):Prop :=
 (lock binD prog .add 37 d8_j25 (.pv (.int .u64 1)) fun t113 =>
 (env 147 [t113,p9_j25,sign16_j25] s (fun t116 s10 =>
 (lock extractD t116 0 fun t117 =>
 (lock extractD t116 1 fun t118 =>
 (J108_26 env  (s0_j25) (n3_j25) (err4_j25) (f19_j25) (err20_j25) (t117) s10 K X)))) (panV X)))
theorem J108_25_eq (env:Env)  (s0_j25 n3_j25 err4_j25 d8_j25 p9_j25 sign16_j25 f19_j25 err20_j25:AV) (s:AS) (K:AV->AS->Prop) (X:PV->AS->Prop):J108_25 env  s0_j25 n3_j25 err4_j25 d8_j25 p9_j25 sign16_j25 f19_j25 err20_j25 s K X=cutK (fun fr s=>wpD prog env an108 (subC (bodyC f108) [1,1,1,1,1,0,1,0,1,1,1,1,1,1,1]) (contQ prog env an108 (bodyC f108) [1,1,1,1,1,0,1,0,1,1,1,1,1,1,1] [] (rootQ prog f108 K X)) fr s) [(0,s0_j25),(3,n3_j25),(4,err4_j25),(8,d8_j25),(9,p9_j25),(16,sign16_j25),(19,f19_j25),(20,err20_j25)] s:=by
  unfold J108_25
  simp only [J108_26_eq]
  refine cutK_of ?_
  kernel_rfl
def J108_24 (env:Env)  (s0_j24 n3_j24 err4_j24 d8_j24 p9_j24 sign16_j24 f19_j24 err20_j24 t107_j24:AV) (s:AS) (K:AV->AS->Prop) (X:PV->AS->Prop):Prop :=
 (condD t107_j24
 (retV (.tuple [f19_j24,n3_j24,err20_j24]) s K)
 (J108_25 env  (s0_j24) (n3_j24) (err4_j24) (d8_j24) (p9_j24) (sign16_j24) (f19_j24) (err20_j24) s K X))
theorem J108_24_eq (env:Env)  (s0_j24 n3_j24 err4_j24 d8_j24 p9_j24 sign16_j24 f19_j24 err20_j24 t107_j24:AV) (s:AS) (K:AV->AS->Prop) (X:PV->AS->Prop):J108_24 env  s0_j24 n3_j24 err4_j24 d8_j24 p9_j24 sign16_j24 f19_j24 err20_j24 t107_j24 s K X=cutK (fun fr s=>wpD prog env an108 (subC (bodyC f108) [1,1,1,1,1,0,1,0,1,1,1,1,1,1,0,1]) (contQ prog env an108 (bodyC f108) [1,1,1,1,1,0,1,0,1,1,1,1,1,1,0,1] [] (rootQ prog f108 K X)) fr s) [(0,s0_j24),(3,n3_j24),(4,err4_j24),(8,d8_j24),(9,p9_j24),(16,sign16_j24),(19,f19_j24),(20,err20_j24),(107,t107_j24)] s:=by
  unfold J108_24
  simp only [J108_25_eq]
  refine cutK_of ?_
  kernel_rfl
def J108_23 (env:Env)  (s0_j23 n3_j23 err4_j23 d8_j23 p9_j23 trunc11_j23 sign16_j23 f19_j23 err20_j23:AV) (s:AS) (K:AV->AS->Prop) (X:PV->AS->Prop):Prop :=
 (unD .not trunc11_j23 fun t107 =>
 (J108_24 env  (s0_j23) (n3_j23) (err4_j23) (d8_j23) (p9_j23) (sign16_j23) (f19_j23) (err20_j23) (t107) s K X))
theorem J108_23_eq (env:Env)  (s0_j23 n3_j23 err4_j23 d8_j23 p9_j23 trunc11_j23 sign16_j23 f19_j23 err20_j23:AV) (s:AS) (K:AV->AS->Prop) (X:PV->AS->Prop):J108_23 env  s0_j23 n3_j23 err4_j23 d8_j23 p9_j23 trunc11_j23 sign16_j23 f19_j23 err20_j23 s K X=cutK (fun fr s=>wpD prog env an108 (subC (bodyC f108) [1,1,1,1,1,0,1,0,1,1,1,1,1,1]) (contQ prog env an108 (bodyC f108) [1,1,1,1,1,0,1,0,1,1,1,1,1,1] [] (rootQ prog f108 K X)) fr s) [(0,s0_j23),(3,n3_j23),(4,err4_j23),(8,d8_j23),(9,p9_j23),(11,trunc11_j23),(16,sign16_j23),(19,f19_j23),(20,err20_j23)] s:=by
  unfold J108_23
  simp only [J108_24_eq]
  refine cutK_of ?_
  kernel_rfl
def J108_22 (env:Env)  (s0_j22 n3_j22 err4_j22 d8_j22 p9_j22 trunc11_j22 sign16_j22:AV) (s:AS) (K:AV->AS->Prop) (X:PV->AS->Prop):Prop :=
 (env 147 [d8_j22,p9_j22,sign16_j22] s (fun t103 s9 =>
 (lock extractD t103 0 fun t104 =>
 (lock extractD t103 1 fun t105 =>
 (J108_23 env  (s0_j22) (n3_j22) (err4_j22) (d8_j22) (p9_j22) (trunc11_j22) (sign16_j22) (t104) (t105) s9 K X)))) (panV X))
theorem J108_22_eq (env:Env)  (s0_j22 n3_j22 err4_j22 d8_j22 p9_j22 trunc11_j22 sign16_j22:AV) (s:AS) (K:AV->AS->Prop) (X:PV->AS->Prop):J108_22 env  s0_j22 n3_j22 err4_j22 d8_j22 p9_j22 trunc11_j22 sign16_j22 s K X=cutK (fun fr s=>wpD prog env an108 (subC (bodyC f108) [1,1,1,1,1,0,1,0,1,1,1,1,1]) (contQ prog env an108 (bodyC f108) [1,1,1,1,1,0,1,0,1,1,1,1,1] [] (rootQ prog f108 K X)) fr s) [(0,s0_j22),(3,n3_j22),(4,err4_j22),(8,d8_j22),(9,p9_j22),(11,trunc11_j22),(16,sign16_j22)] s:=by
  unfold J108_22
  simp only [J108_23_eq]
  refine cutK_of ?_
  kernel_rfl
def J108_21 (env:Env)  (s0_j21 n3_j21 err4_j21 d8_j21 p9_j21 trunc11_j21 sign16_j21 f17_j21 t96_j21:AV) (s:AS) (K:AV->AS->Prop) (X:PV->AS->Prop):Prop :=
 (condD t96_j21
 (retV (.tuple [f17_j21,n3_j21,(.pv .nilIface)]) s K)
 (J108_22 env  (s0_j21) (n3_j21) (err4_j21) (d8_j21) (p9_j21) (trunc11_j21) (sign16_j21) s K X))
theorem J108_21_eq (env:Env)  (s0_j21 n3_j21 err4_j21 d8_j21 p9_j21 trunc11_j21 sign16_j21 f17_j21 t96_j21:AV) (s:AS) (K:AV->AS->Prop) (X:PV->AS->Prop):J108_21 env  s0_j21 n3_j21 err4_j21 d8_j21 p9_j21 trunc11_j21 sign16_j21 f17_j21 t96_j21 s K X=cutK (fun fr s=>wpD prog env an108 (subC (bodyC f108) [1,1,1,1,1,0,1,0,1,1,1,1,0,1,0,1,1]) (contQ prog env an108 (bodyC f108) [1,1,1,1,1,0,1,0,1,1,1,1,0,1,0,1,1] [] (rootQ prog f108 K X)) fr s) [(0,s0_j21),(3,n3_j21),(4,err4_j21),(8,d8_j21),(9,p9_j21),(11,trunc11_j21),(16,sign16_j21),(17,f17_j21),(96,t96_j21)] s:=by
  unfold J108_21
  simp only [J108_22_eq]
  refine cutK_of ?_
  kernel_rfl
def J108_20 (env:Env)  (s0_j20 n3_j20 err4_j20 d8_j20 p9_j20 trunc11_j20 sign16_j20 f17_j20 ok18_j20:AV) (s:AS) (K:AV->AS->Prop) (X:PV->AS->Prop):Prop :=
 (J108_21 env  (s0_j20) (n3_j20) (err4_j20) (d8_j20) (p9_j20) (trunc11_j20) (sign16_j20) (f17_j20) (ok18_j20) s K X)
theorem J108_20_eq (env:Env)  (s0_j20 n3_j20 err4_j20 d8_j20 p9_j20 trunc11_j20 sign16_j20 f17_j20 ok18_j20:AV) (s:AS) (K:AV->AS->Prop) (X:PV->AS->Prop):J108_20 env  s0_j20 n3_j20 err4_j20 d8_j20 p9_j20 trunc11_j20 sign16_j20 f17_j20 ok18_j20 s K X=cutK (fun fr s=>wpD prog env an108 (subC (bodyC f108) [1,1,1,1,1,0,1,0,1,1,1,1,0,1,0,1]) (contQ prog env an108 (bodyC f108) [1,1,1,1,1,0,1,0,1,1,1,1,0,1,0,1] [] (rootQ prog f108 K X)) fr s) [(0,s0_j20),(3,n3_j20),(4,err4_j20),(8,d8_j20),(9,p9_j20),(11,trunc11_j20),(16,sign16_j20),(17,f17_j20),(18,ok18_j20)] s:=by
  unfold J108_20
  simp only [J108_21_eq]
  refine cutK_of ?_
  kernel_rfl
def J108_19 (env:Env)  (s0_j19 n3_j19 err4_j19 d8_j19 p9_j19 neg10_j19 trunc11_j19 sign16_j19 t88_j19:AV) (s:AS) (K:AV->AS->Prop) (X:PV->AS->Prop):Prop :=
 (condD t88_j19
 (env 146 [d8_j19,p9_j19,neg10_j19] s (fun t93 s8 =>
 (lock extractD t93 0 fun t94 =>
 (lock extractD t93 1 fun t95 =>
 (J108_20 env  (s0_j19) (n3_j19) (err4_j19) (d8_j19) (p9_j19) (trunc11_j19) (sign16_j19) (t94) (t95) s8 K X)))) (panV X))
 (J108_22 env  (s0_j19) (n3_j19) (err4_j19) (d8_j19) (p9_j19) (trunc11_j19) (sign16_j19) s K X))
theorem J108_19_eq (env:Env)  (s0_j19 n3_j19 err4_j19 d8_j19 p9_j19 neg10_j19 trunc11_j19 sign16_j19 t88_j19:AV) (s:AS) (K:AV->AS->Prop) (X:PV->AS->Prop):J108_19 env  s0_j19 n3_j19 err4_j19 d8_j19 p9_j19 neg10_j19 trunc11_j19 sign16_j19 t88_j19 s K X=cutK (fun fr s=>wpD prog env an108 (subC (bodyC f108) [1,1,1,1,1,0,1,0,1,1,1,1,0,1]) (contQ prog env an108 (bodyC f108) [1,1,1,1,1,0,1,0,1,1,1,1,0,1] [] (rootQ prog f108 K X)) fr s) [(0,s0_j19),(3,n3_j19),(4,err4_j19),(8,d8_j19),(9,p9_j19),(10,neg10_j19),(11,trunc11_j19),(16,sign16_j19),(88,t88_j19)] s:=by
  unfold J108_19
  simp only [J108_22_eq,J108_20_eq]
  refine cutK_of ?_
  kernel_rfl
def J108_18 (env:Env)  (s0_j18 n3_j18 err4_j18 d8_j18 p9_j18 neg10_j18 trunc11_j18 sign16_j18:AV) (s:AS) (K:AV->AS->Prop) (X:PV->AS->Prop):Prop :=
 (unD .not trunc11_j18 fun t88 =>
 (J108_19 env  (s0_j18) (n3_j18) (err4_j18) (d8_j18) (p9_j18) (neg10_j18) (trunc11_j18) (sign16_j18) (t88) s K X))
theorem J108_18_eq (env:Env)  (s0_j18 n3_j18 err4_j18 d8_j18 p9_j18 neg10_j18 trunc11_j18 sign16_j18:AV) (s:AS) (K:AV->AS->Prop) (X:PV->AS->Prop):J108_18 env  s0_j18 n3_j18 err4_j18 d8_j18 p9_j18 neg10_j18 trunc11_j18 sign16_j18 s K X=cutK (fun fr s=>wpD prog env an108 (subC (bodyC f108) [1,1,1,1,1,0,1,0,1,1,1,1]) (contQ prog env an108 (bodyC f108) [1,1,1,1,1,0,1,0,1,1,1,1] [] (rootQ prog f108 K X)) fr s) [(0,s0_j18),(3,n3_j18),(4,err4_j18),(8,d8_j18),(9,p9_j18),(10,neg10_j18),(11,trunc11_j18),(16,sign16_j18)] s:=by
  unfold J108_18
  simp only [J108_19_eq]
  refine cutK_of ?_
  kernel_rfl
def J108_17 (env:Env)  (s0_j17 n3_j17 err4_j17 d8_j17 p9_j17 neg10_j17 trunc11_j17 sign16_j17 t82_j17:AV) (s:AS) (K:AV->AS->Prop) (X:PV->AS->Prop):Prop :=
 (condD t82_j17
 (lock binD prog .or 37 sign16_j17 (.pv (.int .u64 0)) fun t84 =>
 (env 145 [t84] s (fun t85 s7 =>
 (retV (.tuple [t85,n3_j17,(.pv .nilIface)]) s7 K)) (panV X)))
 (J108_18 env  (s0_j17) (n3_j17) (err4_j17) (d8_j17) (p9_j17) (neg10_j17) (trunc11_j17) (sign16_j17) s K X))
theorem J108_17_eq (env:Env)  (s0_j17 n3_j17 err4_j17 d8_j17 p9_j17 neg10_j17 trunc11_j17 sign16_j17 t82_j17:AV) (s:AS) (K:AV->AS->Prop) (X:PV->AS->Prop):J108_17 env  s0_j17 n3_j17 err4_j17 d8_j17 p9_j17 neg10_j17 trunc11_j17 sign16_j17 t82_j17 s K X=cutK (fun fr s=>wpD prog env an108 (subC (bodyC f108) [1,1,1,1,1,0,1,0,1,1,1,0,1]) (contQ prog env an108 (bodyC f108) [1,1,1,1,1,0,1,0,1,1,1,0,1] [] (rootQ prog f108 K X)) fr s) [(0,s0_j17),(3,n3_j17),(4,err4_j17),(8,d8_j17),(9,p9_j17),(10,neg10_j17),(11,trunc11_j17),(16,sign16_j17),(82,t82_j17)] s:=by
  unfold J108_17
  simp only [J108_18_eq]
  refine cutK_of ?_
  kernel_rfl
def J108_16 (env:Env)  (s0_j16 n3_j16 err4_j16 d8_j16 p9_j16 neg10_j16 trunc11_j16 sign16_j16:AV) (s:AS) (K:AV->AS->Prop) (X:PV->AS->Prop):Prop :=
 (lock binD prog .lss 3 p9_j16 (.pv (.int .i64 (-345))) fun t82 =>
 (J108_17 env  (s0_j16) (n3_j16) (err4_j16) (d8_j16) (p9_j16) (neg10_j16) (trunc11_j16) (sign16_j16) (t82) s K X))
theorem J108_16_eq (env:Env)  (s0_j16 n3_j16 err4_j16 d8_j16 p9_j16 neg10_j16 trunc11_j16 sign16_j16:AV) (s:AS) (K:AV->AS->Prop) (X:PV->AS->Prop):J108_16 env  s0_j16 n3_j16 err4_j16 d8_j16 p9_j16 neg10_j16 trunc11_j16 sign16_j16 s K X=cutK (fun fr s=>wpD prog env an108 (subC (bodyC f108) [1,1,1,1,1,0,1,0,1,1,1]) (contQ prog env an108 (bodyC f108) [1,1,1,1,1,0,1,0,1,1,1] [] (rootQ prog f108 K X)) fr s) [(0,s0_j16),(3,n3_j16),(4,err4_j16),(8,d8_j16),(9,p9_j16),(10,neg10_j16),(11,trunc11_j16),(16,sign16_j16)] s:=by
  unfold J108_16
  simp only [J108_17_eq]
  refine cutK_of ?_
  kernel_rfl
def J108_15 (env:Env)  (s0_j15 n3_j15 err4_j15 d8_j15 p9_j15 neg10_j15 trunc11_j15 sign16_j15 t75_j15:AV) (s:AS) (K:AV->AS->Prop) (X:PV->AS->Prop):Prop :=
 (condD t75_j15
 (lock binD prog .or 37 sign16_j15 (.pv (.int .u64 9218868437227405312)) fun t77 =>
 (env 145 [t77] s (fun t78 s6 =>
 (lock ifaceD prog 120 (.pv (.int .i64 1)) fun t80 =>
 (retV (.tuple [t78,n3_j15,t80]) s6 K))) (panV X)))
 (J108_16 env  (s0_j15) (n3_j15) (err4_j15) (d8_j15) (p9_j15) (neg10_j15) (trunc11_j15) (sign16_j15) s K X))
theorem J108_15_eq (env:Env)  (s0_j15 n3_j15 err4_j15 d8_j15 p9_j15 neg10_j15 trunc11_j15 sign16_j15 t75_j15:AV) (s:AS) (K:AV->AS->Prop) (X:PV->AS->Prop):J108_15 env  s0_j15 n3_j15 err4_j15 d8_j15 p9_j15 neg10_j15 trunc11_j15 sign16_j15 t75_j15 s K X=cutK (fun fr s=>wpD prog env an108 (subC (bodyC f108) [1,1,1,1,1,0,1,0,1,1,0,1]) (contQ prog env an108 (bodyC f108) [1,1,1,1,1,0,1,0,1,1,0,1] [] (rootQ prog f108 K X)) fr s) [(0,s0_j15),(3,n3_j15),(4,err4_j15),(8,d8_j15),(9,p9_j15),(10,neg10_j15),(11,trunc11_j15),(16,sign16_j15),(75,t75_j15)] s:=by
  unfold J108_15
  simp only [J108_16_eq]
  refine cutK_of ?_
  kernel_rfl
def J108_14 (env:Env)  (s0_j14 n3_j14 err4_j14 d8_j14 p9_j14 neg10_j14 trunc11_j14 sign16_j14:AV) (s:AS) (K:AV->AS->Prop) (X:PV->AS->Prop):Prop :=
 (lock binD prog .gtr 3 p9_j14 (.pv (.int .i64 310)) fun t75 =>
 (J108_15 env  (s0_j14) (n3_j14) (err4_j14) (d8_j14) (p9_j14) (neg10_j14) (trunc11_j14) (sign16_j14) (t75) s K X))
theorem J108_14_eq (env:Env)  (s0_j14 n3_j14 err4_j14 d8_j14 p9_j14 neg10_j14 trunc11_j14 sign16_j14:AV) (s:AS) (K:AV->AS->Prop) (X:PV->AS->Prop):J108_14 env  s0_j14 n3_j14 err4_j14 d8_j14 p9_j14 neg10_j14 trunc11_j14 sign16_j14 s K X=cutK (fun fr s=>wpD prog env an108 (subC (bodyC f108) [1,1,1,1,1,0,1,0,1,1]) (contQ prog env an108 (bodyC f108) [1,1,1,1,1,0,1,0,1,1] [] (rootQ prog f108 K X)) fr s) [(0,s0_j14),(3,n3_j14),(4,err4_j14),(8,d8_j14),(9,p9_j14),(10,neg10_j14),(11,trunc11_j14),(16,sign16_j14)] s:=by
  unfold J108_14
  simp only [J108_15_eq]
  refine cutK_of ?_
  kernel_rfl
def J108_13 (env:Env)  (s0_j13 n3_j13 err4_j13 d8_j13 p9_j13 neg10_j13 trunc11_j13 sign16_j13 t69_j13:AV) (s:AS) (K:AV->AS->Prop) (X:PV->AS->Prop):Prop :=
 (condD t69_j13
 (lock binD prog .or 37 sign16_j13 (.pv (.int .u64 0)) fun t71 =>
 (env 145 [t71] s (fun t72 s5 =>
 (retV (.tuple [t72,n3_j13,(.pv .nilIface)]) s5 K)) (panV X)))
 (J108_14 env  (s0_j13) (n3_j13) (err4_j13) (d8_j13) (p9_j13) (neg10_j13) (trunc11_j13) (sign16_j13) s K X))
theorem J108_13_eq (env:Env)  (s0_j13 n3_j13 err4_j13 d8_j13 p9_j13 neg10_j13 trunc11_j13 sign16_j13 t69_j13:AV) (s:AS) (K:AV->AS->Prop) (X:PV->AS->Prop):J108_13 env  s0_j13 n3_j13 err4_j13 d8_j13 p9_j13 neg10_j13 trunc11_j13 sign16_j13 t69_j13 s K X=cutK (fun fr s=>wpD prog env an108 (subC (bodyC f108) [1,1,1,1,1,0,1,0,1,0,1]) (contQ prog env an108 (bodyC f108) [1,1,1,1,1,0,1,0,1,0,1] [] (rootQ prog f108 K X)) fr s) [(0,s0_j13),(3,n3_j13),(4,err4_j13),(8,d8_j13),(9,p9_j13),(10,neg10_j13),(11,trunc11_j13),(16,sign16_j13),(69,t69_j13)] s:=by
  unfold J108_13
  simp only [J108_14_eq]
  refine cutK_of ?_
  kernel_rfl
def J108_12 (env:Env)  (s0_j12 n3_j12 err4_j12 d8_j12 p9_j12 neg10_j12 trunc11_j12 sign16_j12:AV) (s:AS) (K:AV->AS->Prop) (X:PV->AS->Prop):Prop :=
 (lock binD prog .eql 37 d8_j12 (.pv (.int .u64 0)) fun t69 =>
 (J108_13 env  (s0_j12) (n3_j12) (err4_j12) (d8_j12) (p9_j12) (neg10_j12) (trunc11_j12) (sign16_j12) (t69) s K X))
theorem J108_12_eq (env:Env)  (s0_j12 n3_j12 err4_j12 d8_j12 p9_j12 neg10_j12 trunc11_j12 sign16_j12:AV) (s:AS) (K:AV->AS->Prop) (X:PV->AS->Prop):J108_12 env  s0_j12 n3_j12 err4_j12 d8_j12 p9_j12 neg10_j12 trunc11_j12 sign16_j12 s K X=cutK (fun fr s=>wpD prog env an108 (subC (bodyC f108) [1,1,1,1,1,0,1,0,1]) (contQ prog env an108 (bodyC f108) [1,1,1,1,1,0,1,0,1] [] (rootQ prog f108 K X)) fr s) [(0,s0_j12),(3,n3_j12),(4,err4_j12),(8,d8_j12),(9,p9_j12),(10,neg10_j12),(11,trunc11_j12),(16,sign16_j12)] s:=by
  unfold J108_12
  simp only [J108_13_eq]
  refine cutK_of ?_
  kernel_rfl
def J108_11 (env:Env)  (s0_j11 n3_j11 err4_j11 d8_j11 p9_j11 neg10_j11 trunc11_j11 t64_j11:AV) (s:AS) (K:AV->AS->Prop) (X:PV->AS->Prop):Prop :=
 (condD t64_j11
 (env 144 [neg10_j11] s (fun t66 s4 =>
 (lock binD prog .shl 37 t66 (.pv (.int .u64 63)) fun t67 =>
 (J108_12 env  (s0_j11) (n3_j11) (err4_j11) (d8_j11) (p9_j11) (neg10_j11) (trunc11_j11) (t67) s4 K X))) (panV X))
 (J108_28 env  (s0_j11) (n3_j11) (err4_j11) s K X))
theorem J108_11_eq (env:Env)  (s0_j11 n3_j11 err4_j11 d8_j11 p9_j11 neg10_j11 trunc11_j11 t64_j11:AV) (s:AS) (K:AV->AS->Prop) (X:PV->AS->Prop):J108_11 env  s0_j11 n3_j11 err4_j11 d8_j11 p9_j11 neg10_j11 trunc11_j11 t64_j11 s K X=cutK (fun fr s=>wpD prog env an108 (subC (bodyC f108) [1,1,1,1,1,0,1]) (contQ prog env an108 (bodyC f108) [1,1,1,1,1,0,1] [] (rootQ prog f108 K X)) fr s) [(0,s0_j11),(3,n3_j11),(4,err4_j11),(8,d8_j11),(9,p9_j11),(10,neg10_j11),(11,trunc11_j11),(64,t64_j11)] s:=by
  unfold J108_11
  simp only [J108_28_eq,J108_12_eq]
  refine cutK_of ?_
  kernel_rfl
def J108_10 (env:Env)  (s0_j10 n3_j10 err4_j10 d8_j10 p9_j10 neg10_j10 trunc11_j10:AV) (s:AS) (K:AV->AS->Prop) (X:PV->AS->Prop):Prop :=
 (lock loadD prog s 4 (.glob 6 0) fun t64 =>
 (J108_11 env  (s0_j10) (n3_j10) (err4_j10) (d8_j10) (p9_j10) (neg10_j10) (trunc11_j10) (t64) s K X))
theorem J108_10_eq (env:Env)  (s0_j10 n3_j10 err4_j10 d8_j10 p9_j10 neg10_j10 trunc11_j10:AV) (s:AS) (K:AV->AS->Prop) (X:PV->AS->Prop):J108_10 env  s0_j10 n3_j10 err4_j10 d8_j10 p9_j10 neg10_j10 trunc11_j10 s K X=cutK (fun fr s=>wpD prog env an108 (subC (bodyC f108) [1,1,1,1,1]) (contQ prog env an108 (bodyC f108) [1,1,1,1,1] [] (rootQ prog f108 K X)) fr s) [(0,s0_j10),(3,n3_j10),(4,err4_j10),(8,d8_j10),(9,p9_j10),(10,neg10_j10),(11,trunc11_j10)] s:=by
  unfold J108_10
  simp only [J108_11_eq]
  refine cutK_of ?_
  kernel_rfl
def J108_8 (env:Env)  (s0_j8 n3_j8 err4_j8 d8_j8 p9_j8 neg10_j8 trunc11_j8 t49_j8:AV) (s:AS) (K:AV->AS->Prop) (X:PV->AS->Prop):Prop :=
 (condD t49_j8
 (lock sliceD prog 9 s0_j8 none (some n3_j8) fun t53 =>
 (env 137 [t53,(.glob 7 0),d8_j8,p9_j8,neg10_j8,trunc11_j8] s (fun t58 s3 =>
 (lock extractD t58 0 fun t59 =>
 (lock extractD t58 1 fun t60 =>
 (J108_9 env  (n3_j8) (t59) (t60) s3 K X)))) (panV X)))
 (J108_10 env  (s0_j8) (n3_j8) (err4_j8) (d8_j8) (p9_j8) (neg10_j8) (trunc11_j8) s K X))
theorem J108_8_eq (env:Env)  (s0_j8 n3_j8 err4_j8 d8_j8 p9_j8 neg10_j8 trunc11_j8 t49_j8:AV) (s:AS) (K:AV->AS->Prop) (X:PV->AS->Prop):J108_8 env  s0_j8 n3_j8 err4_j8 d8_j8 p9_j8 neg10_j8 trunc11_j8 t49_j8 s K X=cutK (fun fr s=>wpD prog env an108 (subC (bodyC f108) [1,1,1,1,0,1]) (contQ prog env an108 (bodyC f108) [1,1,1,1,0,1] [] (rootQ prog f108 K X)) fr s) [(0,s0_j8),(3,n3_j8),(4,err4_j8),(8,d8_j8),(9,p9_j8),(10,neg10_j8),(11,trunc11_j8),(49,t49_j8)] s:=by
  unfold J108_8
  simp only [J108_9_eq,J108_10_eq]
  refine cutK_of ?_
  kernel_rfl
def J108_7 (env:Env)  (s0_j7 n3_j7 err4_j7 d8_j7 p9_j7 neg10_j7 trunc11_j7 hex12_j7:AV) (s:AS) (K:AV->AS->Prop) (X:PV->AS->Prop):Prop :=
 (J108_8 env  (s0_j7) (n3_j7) (err4_j7) (d8_j7) (p9_j7) (neg10_j7) (trunc11_j7) (hex12_j7) s K X)
theorem J108_7_eq (env:Env)  (s0_j7 n3_j7 err4_j7 d8_j7 p9_j7 neg10_j7 trunc11_j7 hex12_j7:AV) (s:AS) (K:AV->AS->Prop) (X:PV->AS->Prop):J108_7 env  s0_j7 n3_j7 err4_j7 d8_j7 p9_j7 neg10_j7 trunc11_j7 hex12_j7 s K X=cutK (fun fr s=>wpD prog env an108 (subC (bodyC f108) [1,1,1,1]) (contQ prog env an108 (bodyC f108) [1,1,1,1] [] (rootQ prog f108 K X)) fr s) [(0,s0_j7),(3,n3_j7),(4,err4_j7),(8,d8_j7),(9,p9_j7),(10,neg10_j7),(11,trunc11_j7),(12,hex12_j7)] s:=by
  unfold J108_7
  simp only [J108_8_eq]
  refine cutK_of ?_
  kernel_rfl
def J108_6 (env:Env)  (s0_j6 n3_j6 err4_j6 d8_j6 p9_j6 neg10_j6 trunc11_j6 hex12_j6 t46_j6:AV) (s:AS) (K:AV->AS->Prop) (X:PV->AS->Prop):Prop :=
 (condD t46_j6
 (lock ifaceD prog 120 (.pv (.int .i64 2)) fun t48 =>
 (retV (.tuple [(.pv (.float .f64 0)),n3_j6,t48]) s K))
 (J108_7 env  (s0_j6) (n3_j6) (err4_j6) (d8_j6) (p9_j6) (neg10_j6) (trunc11_j6) (hex12_j6) s K X))
theorem J108_6_eq (env:Env)  (s0_j6 n3_j6 err4_j6 d8_j6 p9_j6 neg10_j6 trunc11_j6 hex12_j6 t46_j6:AV) (s:AS) (K:AV->AS->Prop) (X:PV->AS->Prop):J108_6 env  s0_j6 n3_j6 err4_j6 d8_j6 p9_j6 neg10_j6 trunc11_j6 hex12_j6 t46_j6 s K X=cutK (fun fr s=>wpD prog env an108 (subC (bodyC f108) [1,1,1,0,1]) (contQ prog env an108 (bodyC f108) [1,1,1,0,1] [] (rootQ prog f108 K X)) fr s) [(0,s0_j6),(3,n3_j6),(4,err4_j6),(8,d8_j6),(9,p9_j6),(10,neg10_j6),(11,trunc11_j6),(12,hex12_j6),(46,t46_j6)] s:=by
  unfold J108_6
  simp only [J108_7_eq]
  refine cutK_of ?_
  kernel_rfl
def J108_5 (env:Env)  (s0_j5 n3_j5 err4_j5 d8_j5 p9_j5 neg10_j5 trunc11_j5 hex12_j5 ok13_j5:AV) (s:AS) (K:AV->AS->Prop) (X:PV->AS->Prop):Prop :=
 (unD .not ok13_j5 fun t46 =>
 (J108_6 env  (s0_j5) (n3_j5) (err4_j5) (d8_j5) (p9_j5) (neg10_j5) (trunc11_j5) (hex12_j5) (t46) s K X))
theorem J108_5_eq (env:Env)  (s0_j5 n3_j5 err4_j5 d8_j5 p9_j5 neg10_j5 trunc11_j5 hex12_j5 ok13_j5:AV) (s:AS) (K:AV->AS->Prop) (X:PV->AS->Prop):J108_5 env  s0_j5 n3_j5 err4_j5 d8_j5 p9_j5 neg10_j5 trunc11_j5 hex12_j5 ok13_j5 s K X=cutK (fun fr s=>wpD prog env an108 (subC (bodyC f108) [1,1,1]) (contQ prog env an108 (bodyC f108) [1,1,1] [] (rootQ prog f108 K X)) fr s) [(0,s0_j5),(3,n3_j5),(4,err4_j5),(8,d8_j5),(9,p9_j5),(10,neg10_j5),(11,trunc11_j5),(12,hex12_j5),(13,ok13_j5)] s:=by
  unfold J108_5
  simp only [J108_6_eq]
  refine cutK_of ?_
  kernel_rfl
def J108_4 (env:Env)  (s0_j4 err4_j4:AV) (s:AS) (K:AV->AS->Prop) (X:PV->AS->Prop):Prop :=
 (env 136 [s0_j4] s (fun t37 s2 =>
 (lock extractD t37 0 fun t38 =>
 (lock extractD t37 1 fun t39 =>
 (lock extractD t37 2 fun t40 =>
 (lock extractD t37 3 fun t41 =>
 (lock extractD t37 4 fun t42 =>
 (lock extractD t37 5 fun t43 =>
 (lock extractD t37 6 fun t44 =>
 (J108_5 env  (s0_j4) (t43) (err4_j4) (t38) (t39) (t40) (t41) (t42) (t44) s2 K X))))))))) (panV X))
theorem J108_4_eq (env:Env)  (s0_j4 err4_j4:AV) (s:AS) (K:AV->AS->Prop) (X:PV->AS->Prop):J108_4 env  s0_j4 err4_j4 s K X=cutK (fun fr s=>wpD prog env an108 (subC (bodyC f108) [1,1]) (contQ prog env an108 (bodyC f108) [1,1] [] (rootQ prog f108 K X)) fr s) [(0,s0_j4),(4,err4_j4)] s:=by
  unfold J108_4
  simp only [J108_5_eq]
  refine cutK_of ?_
  kernel_rfl
def J108_3 (env:Env)  (s0_j3 err4_j3 val5_j3 n6_j3 t32_j3:AV) (s:AS) (K:AV->AS->Prop) (X:PV->AS->Prop):Prop :=
 (condD t32_j3
 (retV (.tuple [val5_j3,n6_j3,(.pv .nilIface)]) s K)
 (J108_4 env  (s0_j3) (err4_j3) s K X))
theorem J108_3_eq (env:Env)  (s0_j3 err4_j3 val5_j3 n6_j3 t32_j3:AV) (s:AS) (K:AV->AS->Prop) (X:PV->AS->Prop):J108_3 env  s0_j3 err4_j3 val5_j3 n6_j3 t32_j3 s K X=cutK (fun fr s=>wpD prog env an108 (subC (bodyC f108) [1,0,1,1]) (contQ prog env an108 (bodyC f108) [1,0,1,1] [] (rootQ prog f108 K X)) fr s) [(0,s0_j3),(4,err4_j3),(5,val5_j3),(6,n6_j3),(32,t32_j3)] s:=by
  unfold J108_3
  simp only [J108_4_eq]
  refine cutK_of ?_
  kernel_rfl
def J108_2 (env:Env)  (s0_j2 err4_j2 val5_j2 n6_j2 ok7_j2:AV) (s:AS) (K:AV->AS->Prop) (X:PV->AS->Prop):Prop :=
 (J108_3 env  (s0_j2) (err4_j2) (val5_j2) (n6_j2) (ok7_j2) s K X)
theorem J108_2_eq (env:Env)  (s0_j2 err4_j2 val5_j2 n6_j2 ok7_j2:AV) (s:AS) (K:AV->AS->Prop) (X:PV->AS->Prop):J108_2 env  s0_j2 err4_j2 val5_j2 n6_j2 ok7_j2 s K X=cutK (fun fr s=>wpD prog env an108 (subC (bodyC f108) [1,0,1]) (contQ prog env an108 (bodyC f108) [1,0,1] [] (rootQ prog f108 K X)) fr s) [(0,s0_j2),(4,err4_j2),(5,val5_j2),(6,n6_j2),(7,ok7_j2)] s:=by
  unfold J108_2
  simp only [J108_3_eq]
  refine cutK_of ?_
  kernel_rfl
def J108_1 (env:Env)  (s0_j1 err4_j1:AV) (s:AS) (K:AV->AS->Prop) (X:PV->AS->Prop):Prop :=
 (env 135 [s0_j1] s (fun t28 s1 =>
 (lock extractD t28 0 fun t29 =>
 (lock extractD t28 1 fun t30 =>
 (lock extractD t28 2 fun t31 =>
 (J108_2 env  (s0_j1) (err4_j1) (t29) (t30) (t31) s1 K X))))) (panV X))
theorem J108_1_eq (env:Env)  (s0_j1 err4_j1:AV) (s:AS) (K:AV->AS->Prop) (X:PV->AS->Prop):J108_1 env  s0_j1 err4_j1 s K X=cutK (fun fr s=>wpD prog env an108 (subC (bodyC f108) [1]) (contQ prog env an108 (bodyC f108) [1] [] (rootQ prog f108 K X)) fr s) [(0,s0_j1),(4,err4_j1)] s:=by
  unfold J108_1
  simp only [J108_2_eq]
  refine cutK_of ?_
  kernel_rfl
def S108 (env:Env) (s0_a:AV) (s:AS) (K:AV->AS->Prop) (X:PV->AS->Prop):Prop :=
 (J108_1 env  (s0_a) (.pv .nilIface) s K X)
theorem S108_eq (env:Env) (s0_a:AV) (s:AS) (K:AV->AS->Prop) (X:PV->AS->Prop):S108 env s0_a s K X=bodyD prog env an108 f108 [s0_a] s K X:=by
  unfold S108
  simp only [J108_1_eq]
  kernel_rfl
theorem S108_ok:(match f108.body with | some c=>okCode an108 prog f108.ntmps c | none=>false)=true:=by kernel_rfl
def an85:An:={ mu:=[],cut:=[],loop:=[] }
def S85 (env:Env) (s0_a bitSize1_a:AV) (s:AS) (K:AV->AS->Prop) (X:PV->AS->Prop):Prop :=
 (lock binD prog .eql 3 bitSize1_a (.pv (.int .i64 32)) fun t11 =>
 (condD t11
 (env 107 [s0_a] s (fun t14 s1 =>
 (lock extractD t14 0 fun t15 =>
 (lock extractD t14 1 fun t16 =>
 (lock extractD t14 2 fun t17 =>
 (lock convD prog s1 130 22 t15 fun t19 =>
 (retV (.tuple [t19,t16,t17]) s1 K)))))) (panV X))
 (env 108 [s0_a] s (fun t23 s2 =>
 (lock extractD t23 0 fun t24 =>
 (lock extractD t23 1 fun t25 =>
 (lock extractD t23 2 fun t26 =>
 (retV (.tuple [t24,t25,t26]) s2 K))))) (panV X))))
theorem S85_eq (env:Env) (s0_a bitSize1_a:AV) (s:AS) (K:AV->AS->Prop) (X:PV->AS->Prop):S85 env s0_a bitSize1_a s K X=bodyD prog env an85 f85 [s0_a,bitSize1_a] s K X:=by
  unfold S85
  kernel_rfl
theorem S85_ok:(match f85.body with | some c=>okCode an85 prog f85.ntmps c | none=>false)=true:=by kernel_rfl
def an57:An:={ mu:=[],cut:=[],loop:=[] }
def S57 (env:Env) (s0_a bitSize1_a:AV) (s:AS) (K:AV->AS->Prop) (X:PV->AS->Prop):Prop :=
 (env 85 [s0_a,bitSize1_a] s (fun t12 s1 =>
 (lock extractD t12 0 fun t13 =>
 (lock extractD t12 1 fun t14 =>
 (lock extractD t12 2 fun t15 =>
 (lock lenD prog 9 s0_a fun t18 =>
 (lock binD prog .neq 3 t14 t18 fun t19 =>
 (condD t19
 (lock ifaceD prog 120 (.pv (.int .i64 2)) fun t20 =>
 (retV (.tuple [(.pv (.float .f64 0)),t20]) s1 K))
 (retV (.tuple [t13,t15]) s1 K)))))))) (panV X))
theorem S57_eq (env:Env) (s0_a bitSize1_a:AV) (s:AS) (K:AV->AS->Prop) (X:PV->AS->Prop):S57 env s0_a bitSize1_a s K X=bodyD prog env an57 f57 [s0_a,bitSize1_a] s K X:=by
  unfold S57
  kernel_rfl
theorem S57_ok:(match f57.body with | some c=>okCode an57 prog f57.ntmps c | none=>false)=true:=by kernel_rfl
def an38:An:={ mu:=[],cut:=[],loop:=[] }
def S38 (env:Env) (s0_a bitSize1_a:AV) (s:AS) (K:AV->AS->Prop) (X:PV->AS->Prop):Prop :=
 (env 57 [s0_a,bitSize1_a] s (fun t11 s1 =>
 (lock extractD t11 0 fun t12 =>
 (lock extractD t11 1 fun t13 =>
 (lock nilB prog .neq 75 t13 fun t15 =>
 (condD t15
 (env 58 [(.pv (.str [80,97,114,115,101,70,108,111,97,116])),s0_a,(.pv (.int .i64 0)),bitSize1_a,t13] s1 (fun t20 s2 =>
 (retV (.tuple [t12,t20]) s2 K)) (panV X))
 (retV (.tuple [t12,(.pv .nilIface)]) s1 K)))))) (panV X))
theorem S38_eq (env:Env) (s0_a bitSize1_a:AV) (s:AS) (K:AV->AS->Prop) (X:PV->AS->Prop):S38 env s0_a bitSize1_a s K X=bodyD prog env an38 f38 [s0_a,bitSize1_a] s K X:=by
  unfold S38
  kernel_rfl
theorem S38_ok:(match f38.body with | some c=>okCode an38 prog f38.ntmps c | none=>false)=true:=by kernel_rfl
def an58:An:={ mu:=[],cut:=[],loop:=[] }
def S58 (env:Env) (fn0_a s1_a base2_a bitSize3_a err4_a:AV) (s:AS) (K:AV->AS->Prop) (X:PV->AS->Prop):Prop :=
 (lock ifaceD prog 120 (.pv (.int .i64 2)) fun t13 =>
 (lock binD prog .eql 75 err4_a t13 fun t14 =>
 (condD t14
 (env 86 [fn0_a,s1_a] s (fun t17 s1 =>
 (lock ifaceD prog 121 t17 fun t18 =>
 (retV (t18) s1 K))) (panV X))
 (lock ifaceD prog 120 (.pv (.int .i64 1)) fun t20 =>
 (lock binD prog .eql 75 err4_a t20 fun t21 =>
 (condD t21
 (env 87 [fn0_a,s1_a] s (fun t24 s2 =>
 (lock ifaceD prog 121 t24 fun t25 =>
 (retV (t25) s2 K))) (panV X))
 (lock ifaceD prog 120 (.pv (.int .i64 3)) fun t27 =>
 (lock binD prog .eql 75 err4_a t27 fun t28 =>
 (condD t28
 (env 88 [fn0_a,s1_a,base2_a] s (fun t32 s3 =>
 (lock ifaceD prog 121 t32 fun t33 =>
 (retV (t33) s3 K))) (panV X))
 (lock ifaceD prog 120 (.pv (.int .i64 4)) fun t35 =>
 (lock binD prog .eql 75 err4_a t35 fun t36 =>
 (condD t36
 (env 89 [fn0_a,s1_a,bitSize3_a] s (fun t40 s4 =>
 (lock ifaceD prog 121 t40 fun t41 =>
 (retV (t41) s4 K))) (panV X))
 (retV (err4_a) s K)))))))))))))
theorem S58_eq (env:Env) (fn0_a s1_a base2_a bitSize3_a err4_a:AV) (s:AS) (K:AV->AS->Prop) (X:PV->AS->Prop):S58 env fn0_a s1_a base2_a bitSize3_a err4_a s K X=bodyD prog env an58 f58 [fn0_a,s1_a,base2_a,bitSize3_a,err4_a] s K X:=by
  unfold S58
  kernel_rfl
theorem S58_ok:(match f58.body with | some c=>okCode an58 prog f58.ntmps c | none=>false)=true:=by kernel_rfl
def an87:An:={ mu:=[],cut:=[],loop:=[],any:=[1] }
def S87 (env:Env) (fn0_a str1_a:AV) (s:AS) (K:AV->AS->Prop) (X:PV->AS->Prop):Prop :=
 ((env 109 [str1_a] s (fun t7 s3 =>
 ((lock loadD prog s3 75 (.glob 2 0) fun t8 =>
 ((lock buildD prog 135 [(0,fn0_a),(1,t7),(2,t8)] fun t9 =>
 ((lock boxD s3 t9 fun t10 s4 =>
 (retV (t10) s4 K))/\True))/\True))/\True)) (panV X))/\((lock loadD prog s 75 (.glob 2 0) fun t8 =>
 ((env 109 [str1_a] s (fun t7 s1 =>
 ((lock buildD prog 135 [(0,fn0_a),(1,t7),(2,t8)] fun t9 =>
 ((lock boxD s1 t9 fun t10 s2 =>
 (retV (t10) s2 K))/\True))/\True)) (panV X))/\True))/\True))
theorem S87_eq (env:Env) (fn0_a str1_a:AV) (s:AS) (K:AV->AS->Prop) (X:PV->AS->Prop):S87 env fn0_a str1_a s K X=bodyD prog env an87 f87 [fn0_a,str1_a] s K X:=by
  unfold S87
  kernel_rfl
theorem S87_ok:(match f87.body with | some c=>okCode an87 prog f87.ntmps c | none=>false)=true:=by kernel_rfl
end Go.AD

set_option linter.unusedVariables false
set_option maxRecDepth 100000
namespace Go.AD
open Go.Proofs.Tryz
def an167:An:={ mu:=[],cut:=[(8,[0,1,5,6,7])],loop:=[(3,[0,1,5,6])] }
def J167_8 (env:Env) (I3:Nat->List AV->AS->Prop) (m3:Nat) (s0_j8 prefix1_j8 n5_j8 i6_j8 c7_j8:AV) (s:AS) (K:AV->AS->Prop) (X:PV->AS->Prop):Prop :=
 (lock indexD prog 9 prefix1_j8 i6_j8 fun t32 =>
 (lock binD prog .neq 5 c7_j8 t32 fun t33 =>
 (condD t33
 (retV (i6_j8) s K)
 (lock binD prog .add 3 i6_j8 (.pv (.int .i64 1)) fun t17 =>
 (∃ m',m' < m3/\I3 m' [s0_j8,prefix1_j8,n5_j8,t17] s)))))
theorem J167_8_eq (env:Env) (I3:Nat->List AV->AS->Prop) (m3:Nat) (s0_j8 prefix1_j8 n5_j8 i6_j8 c7_j8:AV) (s:AS) (K:AV->AS->Prop) (X:PV->AS->Prop):J167_8 env I3 m3 s0_j8 prefix1_j8 n5_j8 i6_j8 c7_j8 s K X=cutK (fun fr s=>wpD prog env an167 (subC (bodyC f167) [1,1,0,1,0,0,1,0,0,1,1]) (contQ prog env an167 (bodyC f167) [1,1,0,1,0,0,1,0,0,1,1] [(I3,m3)] (rootQ prog f167 K X)) fr s) [(0,s0_j8),(1,prefix1_j8),(5,n5_j8),(6,i6_j8),(7,c7_j8)] s:=by
  unfold J167_8
  refine cutK_of ?_
  kernel_rfl
def L167_3 (env:Env) (I3:Nat->List AV->AS->Prop) (m3:Nat) (s0_l3 prefix1_l3 n5_l3 i6_l3:AV) (s:AS) (K:AV->AS->Prop) (X:PV->AS->Prop):Prop :=
 (lock binD prog .lss 3 i6_l3 n5_l3 fun t15 =>
 (condD t15
 (lock indexD prog 9 s0_l3 i6_l3 fun t20 =>
 (lock binD prog .leq 5 (.pv (.int .u8 65)) t20 fun t22 =>
 (guardD t22 true
 (lock binD prog .leq 5 t20 (.pv (.int .u8 90)) fun t25 =>
 (condD t25
 (lock binD prog .add 5 t20 (.pv (.int .u8 32)) fun t28 =>
 (J167_8 env I3 m3 (s0_l3) (prefix1_l3) (n5_l3) (i6_l3) (t28) s K X))
 (J167_8 env I3 m3 (s0_l3) (prefix1_l3) (n5_l3) (i6_l3) (t20) s K X)))
 (J167_8 env I3 m3 (s0_l3) (prefix1_l3) (n5_l3) (i6_l3) (t20) s K X))))
 (retV (n5_l3) s K)))
theorem L167_3_eq (env:Env) (I3:Nat->List AV->AS->Prop) (m3:Nat) (s0_l3 prefix1_l3 n5_l3 i6_l3:AV) (s:AS) (K:AV->AS->Prop) (X:PV->AS->Prop):L167_3 env I3 m3 s0_l3 prefix1_l3 n5_l3 i6_l3 s K X=wpD prog env an167 (subC (bodyC f167) [1,1,0,1,0,0]) (contQ prog env an167 (bodyC f167) [1,1,0,1,0,0] [(I3,m3)] (rootQ prog f167 K X)) [(0,s0_l3),(1,prefix1_l3),(5,n5_l3),(6,i6_l3)] s:=by
  unfold L167_3
  simp only [J167_8_eq]
  kernel_rfl
theorem lp167_3 {α:Type} {env:Env}  {s0_l3 prefix1_l3 n5_l3:AV} {s:AS} {K:AV->AS->Prop} {X:PV->AS->Prop} (μ:α->AS->Nat) (I:α->AS->Prop) (ei6_l3:α->AV) (a0:α) (h0:I a0 s)
 (h:∀ a s,I a s->L167_3 env  (Inv (fun a=>[s0_l3,prefix1_l3,n5_l3,ei6_l3 a]) μ I) (μ a s) s0_l3 prefix1_l3 n5_l3 (ei6_l3 a) s K X) :
 ∃ I3:Nat->List AV->AS->Prop,(∃ m,I3 m [s0_l3,prefix1_l3,n5_l3,ei6_l3 a0] s)/\∀ (m:Nat) (x0 x1 x2 x3:AV),∀ s,I3 m [x0,x1,x2,x3] s ->
 L167_3 env  I3 m x0 x1 x2 x3 s K X:=by
  refine ⟨Inv (fun a=>[s0_l3,prefix1_l3,n5_l3,ei6_l3 a]) μ I,⟨_,a0,rfl,rfl,h0⟩,?_⟩
  rintro m x0 x1 x2 x3 s' ⟨a,hv,rfl,hI⟩
  simp only [List.cons.injEq,and_true] at hv
  obtain ⟨rfl,rfl,rfl,rfl⟩:=hv
  exact h a s' hI
def S167 (env:Env) (s0_a prefix1_a:AV) (s:AS) (K:AV->AS->Prop) (X:PV->AS->Prop):Prop :=
 (lock lenD prog 9 prefix1_a fun t9 =>
 (lock lenD prog 9 s0_a fun t11 =>
 (lock (foldD min2D) t9 [t11] fun t12 =>
 (∃ I3:Nat->List AV->AS->Prop,(∃ m,I3 m [s0_a,prefix1_a,t12,(.pv (.int .i64 0))] s)/\∀ (m3:Nat) (s0_l3 prefix1_l3 n5_l3 i6_l3:AV),∀ s1,I3 m3 [s0_l3,prefix1_l3,n5_l3,i6_l3] s1 ->
 (L167_3 env I3 m3 s0_l3 prefix1_l3 n5_l3 i6_l3 s1 K X)))))
theorem S167_eq (env:Env) (s0_a prefix1_a:AV) (s:AS) (K:AV->AS->Prop) (X:PV->AS->Prop):S167 env s0_a prefix1_a s K X=bodyD prog env an167 f167 [s0_a,prefix1_a] s K X:=by
  unfold S167
  simp only [L167_3_eq]
  kernel_rfl
theorem S167_ok:(match f167.body with | some c=>okCode an167 prog f167.ntmps c | none=>false)=true:=by kernel_rfl
end Go.AD

set_option linter.unusedVariables false
set_option maxRecDepth 100000
namespace Go.AD
open Go.Proofs.Tryz
def an135:An:={ mu:=[],cut:=[(1,[0]),(3,[0]),(4,[0,5]),(5,[0,5,6]),(6,[0,5,6,12]),(8,[0,5,6,12]),(10,[0,12]),(12,[0,5]),(14,[0,5]),(16,[0,5,6]),(17,[5,6,7]),(19,[5,6,7]),(20,[5,6,7,40]),(21,[0]),(22,[48])],loop:=[] }
def J135_20 (env:Env)  (sign5_j20 nsign6_j20 n7_j20 t40_j20:AV) (s:AS) (K:AV->AS->Prop) (X:PV->AS->Prop):Prop :=
 (condD t40_j20
 (env 168 [sign5_j20] s (fun t42 s2 =>
 (lock binD prog .add 3 nsign6_j20 n7_j20 fun t45 =>
 (retV (.tuple [t42,t45,(.pv (.bool true))]) s2 K))) (panV X))
 (retV (.tuple [(.pv (.float .f64 0)),(.pv (.int .i64 0)),(.pv (.bool false))]) s K))
theorem J135_20_eq (env:Env)  (sign5_j20 nsign6_j20 n7_j20 t40_j20:AV) (s:AS) (K:AV->AS->Prop) (X:PV->AS->Prop):J135_20 env  sign5_j20 nsign6_j20 n7_j20 t40_j20 s K X=cutK (fun fr s=>wpD prog env an135 (subC (bodyC f135) [1,1,1,1,0,1,0,0,0,1,0,1,1,1]) (contQ prog env an135 (bodyC f135) [1,1,1,1,0,1,0,0,0,1,0,1,1,1] [] (rootQ prog f135 K X)) fr s) [(5,sign5_j20),(6,nsign6_j20),(7,n7_j20),(40,t40_j20)] s:=by
  unfold J135_20
  refine cutK_of ?_
  kernel_rfl
def J135_19 (env:Env)  (sign5_j19 nsign6_j19 n7_j19:AV) (s:AS) (K:AV->AS->Prop) (X:PV->AS->Prop):Prop :=
 (lock binD prog .eql 3 n7_j19 (.pv (.int .i64 3)) fun t36 =>
 (guardD t36 false
 (lock binD prog .eql 3 n7_j19 (.pv (.int .i64 8)) fun t39 =>
 (J135_20 env  (sign5_j19) (nsign6_j19) (n7_j19) (t39) s K X))
 (J135_20 env  (sign5_j19) (nsign6_j19) (n7_j19) (.pv (.bool true)) s K X)))
theorem J135_19_eq (env:Env)  (sign5_j19 nsign6_j19 n7_j19:AV) (s:AS) (K:AV->AS->Prop) (X:PV->AS->Prop):J135_19 env  sign5_j19 nsign6_j19 n7_j19 s K X=cutK (fun fr s=>wpD prog env an135 (subC (bodyC f135) [1,1,1,1,0,1,0,0,0,1,0,1,1]) (contQ prog env an135 (bodyC f135) [1,1,1,1,0,1,0,0,0,1,0,1,1] [] (rootQ prog f135 K X)) fr s) [(5,sign5_j19),(6,nsign6_j19),(7,n7_j19)] s:=by
  unfold J135_19
  simp only [J135_20_eq]
  refine cutK_of ?_
  kernel_rfl
def J135_17 (env:Env)  (sign5_j17 nsign6_j17 n7_j17:AV) (s:AS) (K:AV->AS->Prop) (X:PV->AS->Prop):Prop :=
 (lock binD prog .lss 3 (.pv (.int .i64 3)) n7_j17 fun t30 =>
 (guardD t30 true
 (lock binD prog .lss 3 n7_j17 (.pv (.int .i64 8)) fun t33 =>
 (condD t33
 (J135_19 env  (sign5_j17) (nsign6_j17) (.pv (.int .i64 3)) s K X)
 (J135_19 env  (sign5_j17) (nsign6_j17) (n7_j17) s K X)))
 (J135_19 env  (sign5_j17) (nsign6_j17) (n7_j17) s K X)))
theorem J135_17_eq (env:Env)  (sign5_j17 nsign6_j17 n7_j17:AV) (s:AS) (K:AV->AS->Prop) (X:PV->AS->Prop):J135_17 env  sign5_j17 nsign6_j17 n7_j17 s K X=cutK (fun fr s=>wpD prog env an135 (subC (bodyC f135) [1,1,1,1,0,1,0,0,0,1,0,1]) (contQ prog env an135 (bodyC f135) [1,1,1,1,0,1,0,0,0,1,0,1] [] (rootQ prog f135 K X)) fr s) [(5,sign5_j17),(6,nsign6_j17),(7,n7_j17)] s:=by
  unfold J135_17
  simp only [J135_19_eq]
  refine cutK_of ?_
  kernel_rfl
def J135_16 (env:Env)  (s0_j16 sign5_j16 nsign6_j16:AV) (s:AS) (K:AV->AS->Prop) (X:PV->AS->Prop):Prop :=
 (env 167 [s0_j16,(.pv (.str [105,110,102,105,110,105,116,121]))] s (fun t28 s1 =>
 (J135_17 env  (sign5_j16) (nsign6_j16) (t28) s1 K X)) (panV X))
theorem J135_16_eq (env:Env)  (s0_j16 sign5_j16 nsign6_j16:AV) (s:AS) (K:AV->AS->Prop) (X:PV->AS->Prop):J135_16 env  s0_j16 sign5_j16 nsign6_j16 s K X=cutK (fun fr s=>wpD prog env an135 (subC (bodyC f135) [1,1,1,1,0,1,0,0,0,1]) (contQ prog env an135 (bodyC f135) [1,1,1,1,0,1,0,0,0,1] [] (rootQ prog f135 K X)) fr s) [(0,s0_j16),(5,sign5_j16),(6,nsign6_j16)] s:=by
  unfold J135_16
  simp only [J135_17_eq]
  refine cutK_of ?_
  kernel_rfl
def J135_14 (env:Env)  (s0_j14 sign5_j14:AV) (s:AS) (K:AV->AS->Prop) (X:PV->AS->Prop):Prop :=
 (lock sliceD prog 9 s0_j14 (some (.pv (.int .i64 1))) none fun t26 =>
 (J135_16 env  (t26) (sign5_j14) (.pv (.int .i64 1)) s K X))
theorem J135_14_eq (env:Env)  (s0_j14 sign5_j14:AV) (s:AS) (K:AV->AS->Prop) (X:PV->AS->Prop):J135_14 env  s0_j14 sign5_j14 s K X=cutK (fun fr s=>wpD prog env an135 (subC (bodyC f135) [1,1,1,1,0,1,0,0,0,0,0,1,1]) (contQ prog env an135 (bodyC f135) [1,1,1,1,0,1,0,0,0,0,0,1,1] [] (rootQ prog f135 K X)) fr s) [(0,s0_j14),(5,sign5_j14)] s:=by
  unfold J135_14
  simp only [J135_16_eq]
  refine cutK_of ?_
  kernel_rfl
def J135_12 (env:Env)  (s0_j12 sign5_j12:AV) (s:AS) (K:AV->AS->Prop) (X:PV->AS->Prop):Prop :=
 (lock indexD prog 9 s0_j12 (.pv (.int .i64 0)) fun t23 =>
 (lock binD prog .eql 5 t23 (.pv (.int .u8 45)) fun t24 =>
 (condD t24
 (J135_14 env  (s0_j12) (.pv (.int .i64 (-1))) s K X)
 (J135_14 env  (s0_j12) (sign5_j12) s K X))))
theorem J135_12_eq (env:Env)  (s0_j12 sign5_j12:AV) (s:AS) (K:AV->AS->Prop) (X:PV->AS->Prop):J135_12 env  s0_j12 sign5_j12 s K X=cutK (fun fr s=>wpD prog env an135 (subC (bodyC f135) [1,1,1,1,0,1,0,0,0,0,0,1]) (contQ prog env an135 (bodyC f135) [1,1,1,1,0,1,0,0,0,0,0,1] [] (rootQ prog f135 K X)) fr s) [(0,s0_j12),(5,sign5_j12)] s:=by
  unfold J135_12
  simp only [J135_14_eq]
  refine cutK_of ?_
  kernel_rfl
def J135_22 (env:Env)  (t48_j22:AV) (s:AS) (K:AV->AS->Prop) (X:PV->AS->Prop):Prop :=
 (condD t48_j22
 (env 169 [] s (fun t49 s4 =>
 (retV (.tuple [t49,(.pv (.int .i64 3)),(.pv (.bool true))]) s4 K)) (panV X))
 (retV (.tuple [(.pv (.float .f64 0)),(.pv (.int .i64 0)),(.pv (.bool false))]) s K))
theorem J135_22_eq (env:Env)  (t48_j22:AV) (s:AS) (K:AV->AS->Prop) (X:PV->AS->Prop):J135_22 env  t48_j22 s K X=cutK (fun fr s=>wpD prog env an135 (subC (bodyC f135) [1,1,1,1,0,1,0,1,0,1]) (contQ prog env an135 (bodyC f135) [1,1,1,1,0,1,0,1,0,1] [] (rootQ prog f135 K X)) fr s) [(48,t48_j22)] s:=by
  unfold J135_22
  refine cutK_of ?_
  kernel_rfl
def J135_21 (env:Env)  (s0_j21:AV) (s:AS) (K:AV->AS->Prop) (X:PV->AS->Prop):Prop :=
 (env 167 [s0_j21,(.pv (.str [110,97,110]))] s (fun t47 s3 =>
 (lock binD prog .eql 3 t47 (.pv (.int .i64 3)) fun t48 =>
 (J135_22 env  (t48) s3 K X))) (panV X))
theorem J135_21_eq (env:Env)  (s0_j21:AV) (s:AS) (K:AV->AS->Prop) (X:PV->AS->Prop):J135_21 env  s0_j21 s K X=cutK (fun fr s=>wpD prog env an135 (subC (bodyC f135) [1,1,1,1,0,1,0,1]) (contQ prog env an135 (bodyC f135) [1,1,1,1,0,1,0,1] [] (rootQ prog f135 K X)) fr s) [(0,s0_j21)] s:=by
  unfold J135_21
  simp only [J135_22_eq]
  refine cutK_of ?_
  kernel_rfl
def J135_10 (env:Env)  (s0_j10 t12_j10:AV) (s:AS) (K:AV->AS->Prop) (X:PV->AS->Prop):Prop :=
 (lock binD prog .eql 5 t12_j10 (.pv (.int .u8 110)) fun t20 =>
 (condD t20
 (condD t20
 (J135_21 env  (s0_j10) s K X)
 (retV (.tuple [(.pv (.float .f64 0)),(.pv (.int .i64 0)),(.pv (.bool false))]) s K))
 (lock binD prog .eql 5 t12_j10 (.pv (.int .u8 78)) fun t21 =>
 (condD t21
 (J135_21 env  (s0_j10) s K X)
 (retV (.tuple [(.pv (.float .f64 0)),(.pv (.int .i64 0)),(.pv (.bool false))]) s K)))))
theorem J135_10_eq (env:Env)  (s0_j10 t12_j10:AV) (s:AS) (K:AV->AS->Prop) (X:PV->AS->Prop):J135_10 env  s0_j10 t12_j10 s K X=cutK (fun fr s=>wpD prog env an135 (subC (bodyC f135) [1,1,1,1,0,1,0,0,0,0,0,0,0,0,1,1]) (contQ prog env an135 (bodyC f135) [1,1,1,1,0,1,0,0,0,0,0,0,0,0,1,1] [] (rootQ prog f135 K X)) fr s) [(0,s0_j10),(12,t12_j10)] s:=by
  unfold J135_10
  simp only [J135_21_eq]
  refine cutK_of ?_
  kernel_rfl
def J135_8 (env:Env)  (s0_j8 sign5_j8 nsign6_j8 t12_j8:AV) (s:AS) (K:AV->AS->Prop) (X:PV->AS->Prop):Prop :=
 (lock binD prog .eql 5 t12_j8 (.pv (.int .u8 105)) fun t17 =>
 (condD t17
 (condD t17
 (J135_16 env  (s0_j8) (sign5_j8) (nsign6_j8) s K X)
 (J135_10 env  (s0_j8) (t12_j8) s K X))
 (lock binD prog .eql 5 t12_j8 (.pv (.int .u8 73)) fun t18 =>
 (condD t18
 (J135_16 env  (s0_j8) (sign5_j8) (nsign6_j8) s K X)
 (J135_10 env  (s0_j8) (t12_j8) s K X)))))
theorem J135_8_eq (env:Env)  (s0_j8 sign5_j8 nsign6_j8 t12_j8:AV) (s:AS) (K:AV->AS->Prop) (X:PV->AS->Prop):J135_8 env  s0_j8 sign5_j8 nsign6_j8 t12_j8 s K X=cutK (fun fr s=>wpD prog env an135 (subC (bodyC f135) [1,1,1,1,0,1,0,0,0,0,0,0,0,0,1]) (contQ prog env an135 (bodyC f135) [1,1,1,1,0,1,0,0,0,0,0,0,0,0,1] [] (rootQ prog f135 K X)) fr s) [(0,s0_j8),(5,sign5_j8),(6,nsign6_j8),(12,t12_j8)] s:=by
  unfold J135_8
  simp only [J135_16_eq,J135_10_eq]
  refine cutK_of ?_
  kernel_rfl
def J135_6 (env:Env)  (s0_j6 sign5_j6 nsign6_j6 t12_j6:AV) (s:AS) (K:AV->AS->Prop) (X:PV->AS->Prop):Prop :=
 (lock binD prog .eql 5 t12_j6 (.pv (.int .u8 43)) fun t14 =>
 (condD t14
 (condD t14
 (J135_12 env  (s0_j6) (sign5_j6) s K X)
 (J135_8 env  (s0_j6) (sign5_j6) (nsign6_j6) (t12_j6) s K X))
 (lock binD prog .eql 5 t12_j6 (.pv (.int .u8 45)) fun t15 =>
 (condD t15
 (J135_12 env  (s0_j6) (sign5_j6) s K X)
 (J135_8 env  (s0_j6) (sign5_j6) (nsign6_j6) (t12_j6) s K X)))))
theorem J135_6_eq (env:Env)  (s0_j6 sign5_j6 nsign6_j6 t12_j6:AV) (s:AS) (K:AV->AS->Prop) (X:PV->AS->Prop):J135_6 env  s0_j6 sign5_j6 nsign6_j6 t12_j6 s K X=cutK (fun fr s=>wpD prog env an135 (subC (bodyC f135) [1,1,1,1,0,1]) (contQ prog env an135 (bodyC f135) [1,1,1,1,0,1] [] (rootQ prog f135 K X)) fr s) [(0,s0_j6),(5,sign5_j6),(6,nsign6_j6),(12,t12_j6)] s:=by
  unfold J135_6
  simp only [J135_12_eq,J135_8_eq]
  refine cutK_of ?_
  kernel_rfl
def J135_5 (env:Env)  (s0_j5 sign5_j5 nsign6_j5:AV) (s:AS) (K:AV->AS->Prop) (X:PV->AS->Prop):Prop :=
 (lock indexD prog 9 s0_j5 (.pv (.int .i64 0)) fun t12 =>
 (J135_6 env  (s0_j5) (sign5_j5) (nsign6_j5) (t12) s K X))
theorem J135_5_eq (env:Env)  (s0_j5 sign5_j5 nsign6_j5:AV) (s:AS) (K:AV->AS->Prop) (X:PV->AS->Prop):J135_5 env  s0_j5 sign5_j5 nsign6_j5 s K X=cutK (fun fr s=>wpD prog env an135 (subC (bodyC f135) [1,1,1,1]) (contQ prog env an135 (bodyC f135) [1,1,1,1] [] (rootQ prog f135 K X)) fr s) [(0,s0_j5),(5,sign5_j5),(6,nsign6_j5)] s:=by
  unfold J135_5
  simp only [J135_6_eq]
  refine cutK_of ?_
  kernel_rfl
def J135_4 (env:Env)  (s0_j4 sign5_j4:AV) (s:AS) (K:AV->AS->Prop) (X:PV->AS->Prop):Prop :=
 (J135_5 env  (s0_j4) (sign5_j4) (.pv (.int .i64 0)) s K X)
theorem J135_4_eq (env:Env)  (s0_j4 sign5_j4:AV) (s:AS) (K:AV->AS->Prop) (X:PV->AS->Prop):J135_4 env  s0_j4 sign5_j4 s K X=cutK (fun fr s=>wpD prog env an135 (subC (bodyC f135) [1,1,1]) (contQ prog env an135 (bodyC f135) [1,1,1] [] (rootQ prog f135 K X)) fr s) [(0,s0_j4),(5,sign5_j4)] s:=by
  unfold J135_4
  simp only [J135_5_eq]
  refine cutK_of ?_
  kernel_rfl
def J135_3 (env:Env)  (s0_j3:AV) (s:AS) (K:AV->AS->Prop) (X:PV->AS->Prop):Prop :=
 (J135_4 env  (s0_j3) (.pv (.int .i64 1)) s K X)
theorem J135_3_eq (env:Env)  (s0_j3:AV) (s:AS) (K:AV->AS->Prop) (X:PV->AS->Prop):J135_3 env  s0_j3 s K X=cutK (fun fr s=>wpD prog env an135 (subC (bodyC f135) [1,1]) (contQ prog env an135 (bodyC f135) [1,1] [] (rootQ prog f135 K X)) fr s) [(0,s0_j3)] s:=by
  unfold J135_3
  simp only [J135_4_eq]
  refine cutK_of ?_
  kernel_rfl
def J135_1 (env:Env)  (s0_j1:AV) (s:AS) (K:AV->AS->Prop) (X:PV->AS->Prop):Prop :=
 (lock lenD prog 9 s0_j1 fun t9 =>
 (lock binD prog .eql 3 t9 (.pv (.int .i64 0)) fun t10 =>
 (condD t10
 (retV (.tuple [(.pv (.float .f64 0)),(.pv (.int .i64 0)),(.pv (.bool false))]) s K)
 (J135_3 env  (s0_j1) s K X))))
theorem J135_1_eq (env:Env)  (s0_j1:AV) (s:AS) (K:AV->AS->Prop) (X:PV->AS->Prop):J135_1 env  s0_j1 s K X=cutK (fun fr s=>wpD prog env an135 (subC (bodyC f135) [1]) (contQ prog env an135 (bodyC f135) [1] [] (rootQ prog f135 K X)) fr s) [(0,s0_j1)] s:=by
  unfold J135_1
  simp only [J135_3_eq]
  refine cutK_of ?_
  kernel_rfl
def S135 (env:Env) (s0_a:AV) (s:AS) (K:AV->AS->Prop) (X:PV->AS->Prop):Prop :=
 (J135_1 env  (s0_a) s K X)
theorem S135_eq (env:Env) (s0_a:AV) (s:AS) (K:AV->AS->Prop) (X:PV->AS->Prop):S135 env s0_a s K X=bodyD prog env an135 f135 [s0_a] s K X:=by
  unfold S135
  simp only [J135_1_eq]
  kernel_rfl
theorem S135_ok:(match f135.body with | some c=>okCode an135 prog f135.ntmps c | none=>false)=true:=by kernel_rfl
end Go.AD

set_option linter.unusedVariables false
set_option linter.unusedSimpArgs false
set_option maxRecDepth 100000
namespace Go.AD.Fl
open Go.Proofs RowKit Go.AD.Fp
section
variable {env : Env} {args : List AV} {σ0 σ τ : AS} {K : AV -> AS -> Prop} {X : PV -> AS -> Prop}
def T_iCommon : Tr := fun args σ K _ => ∃ (c x : UInt8) (r y : List UInt8), args = [st (c :: r), st (x :: y)] /\ c.toNat < 65 /\ c ≠ x /\ y.length <= 100 /\ r.length <= 100000 /\ K (i64 0) σ
theorem T_iCommon_ok (h : T_iCommon args σ K X) : bodyD PS env an167 Tryz.f167 args σ K X := by
  obtain ⟨c, x, r, y, rfl, hc, hx, hy, hr, hK⟩ := h
  rw [<- S167_eq env, S167]
  simp only [lock_eq, T.ls9, min_one]
  refine lp167_3 (α := Unit) (fun _ _ => 0) (fun _ τ => τ = σ) (fun _ => i64 0) () rfl ?_
  rintro ⟨⟩ τ rfl
  unfold L167_3
  simp only [lock_eq, bin_lss, cond_bool]
  rw [if_pos (decide_eq_true (by simp only [List.length_cons]; omega)), show i64 0 = i64 ((0 : Nat) : Int) from rfl, T.is9 (by simp), List.getD_cons_zero, bin_leq, guard_true, if_neg (nod (by omega))]
  unfold J167_8
  simp only [lock_eq]
  rw [T.is9 (by simp), List.getD_cons_zero, ne8, cond_bool, if_pos (decide_eq_true (show ((c.toNat : Nat) : Int) ≠ ((x.toNat : Nat) : Int) from fun e => hx (UInt8.toNat_inj.1 (by omega))))]
  exact retV_self hK
def T_iSpecial : Tr := fun args σ K _ => ∃ n : Num, args = [st n.text] /\ n.Ok /\ n.text.length <= 800 /\ K (.tuple [f64 0, i64 0, bo false]) σ
theorem num_head {n : Num} (h : n.Ok) : ∃ c r, n.W.map dB ++ (dotB n.P ++ expB n.E) = c :: r /\ 46 <= c.toNat /\ c.toNat <= 57 := by
  cases hW : n.W with
  | cons d W' =>
    have hd : d < 10 := h.w d (by rw [hW]; exact List.mem_cons_self ..)
    exact ⟨dB d, _, rfl, by rw [dB_nat hd]; omega, by rw [dB_nat hd]; omega⟩
  | nil =>
    cases hP : n.P with
    | some q => exact ⟨46, _, rfl, by decide, by decide⟩
    | none => exact absurd (show n.ds = [] by unfold Num.ds Num.Q; rw [hW, hP]; rfl) h.ne
theorem T_iSpecial_ok (hC : env 167 = T_iCommon) (h : T_iSpecial args σ K X) : bodyD PS env an135 Tryz.f135 args σ K X := by
  obtain ⟨n, rfl, hn, hl, hK⟩ := h
  obtain ⟨c, r, hb, h1, h2⟩ := num_head hn
  have htx : n.text = sgB n.sg ++ (c :: r) := by rw [<- hb]; rfl
  have hpos : 0 < n.text.length := by rw [htx, List.length_append, List.length_cons]; omega
  have j14 : ∀ z, n.text.drop 1 = c :: r -> J135_14 env (st n.text) (i64 z) σ K X := by
    intro z hd
    unfold J135_14
    simp only [lock_eq]
    rw [show (AV.pv (.int .i64 1)) = i64 ((1 : Nat) : Int) from rfl, T.ss9 hpos, hd]
    unfold J135_16
    rw [hC]
    refine ⟨c, 105, r, [110, 102, 105, 110, 105, 116, 121], rfl, by omega, fun e => by rw [e] at h2; exact absurd h2 (by decide), by decide, ?_, ?_⟩
    · have := congrArg List.length hd
      rw [List.length_drop, List.length_cons] at this
      omega
    unfold J135_17
    simp only [lock_eq, bin_lss, guard_true]
    rw [if_neg (by decide)]
    unfold J135_19
    simp only [lock_eq, eq8, guard_false]
    rw [if_neg (by decide)]
    unfold J135_20
    simp only [lock_eq, cond_bool]
    rw [if_neg (by decide)]
    exact retV_self hK
  rw [<- S135_eq env, S135]
  unfold J135_1
  simp only [lock_eq, T.ls9, eq8, cond_bool]
  rw [if_neg (nod (by omega))]
  unfold J135_3 J135_4 J135_5
  simp only [lock_eq]
  rw [show (AV.pv (.int .i64 0)) = i64 ((0 : Nat) : Int) from rfl, T.is9 hpos]
  unfold J135_6
  simp only [lock_eq, eq8, cond_bool]
  cases hsg : n.sg with
  | none =>
    have h0 : n.text.getD 0 0 = c := by rw [htx, hsg]; rfl
    rw [h0, if_neg (nod (by omega)), if_neg (nod (by omega))]
    unfold J135_8
    simp only [lock_eq, eq8, cond_bool]
    rw [if_neg (nod (by omega)), if_neg (nod (by omega))]
    unfold J135_10
    simp only [lock_eq, eq8, cond_bool]
    rw [if_neg (nod (by omega)), if_neg (nod (by omega))]
    exact retV_self hK
  | some b =>
    cases b with
    | false =>
      have h0 : n.text.getD 0 0 = 43 := by rw [htx, hsg]; rfl
      rw [h0, if_pos (by decide), if_pos (by decide)]
      unfold J135_12
      simp only [lock_eq]
      rw [show (AV.pv (.int .i64 0)) = i64 ((0 : Nat) : Int) from rfl, T.is9 hpos, h0, eq8, cond_bool, if_neg (by decide)]
      exact j14 1 (by rw [htx, hsg]; rfl)
    | true =>
      have h0 : n.text.getD 0 0 = 45 := by rw [htx, hsg]; rfl
      rw [h0, if_neg (by decide), if_pos (by decide)]
      unfold J135_12
      simp only [lock_eq]
      rw [show (AV.pv (.int .i64 0)) = i64 ((0 : Nat) : Int) from rfl, T.is9 hpos, h0, eq8, cond_bool, if_pos (by decide)]
      exact j14 (-1) (by rw [htx, hsg]; rfl)
def T_sClone : Tr := fun args σ K _ => ∃ s : List UInt8, args = [st s] /\ s.length <= 100000 /\ K (st s) σ
theorem bdE {a b : PV} {Q : AV -> Prop} : buildD PS 135 [(0, .pv a), (1, .pv b), (2, .any)] Q = Q (.agg [.pv a, .pv b, .any]) := by
  simp [buildD, buildFill, go_sem, AV.cells, AV.cellOk, setAll]
theorem g_errR : known PS 2 = none /\ anyG PS 2 = true := by
  have h : ((PS.globals[2]?).map (·.name) == some "strconv.ErrRange") = true := by kernel_rfl
  unfold known anyG
  cases e : PS.globals[2]? with
  | none => rw [e] at h; cases h
  | some x =>
    rw [e] at h
    simp only [Option.map_some, beq_iff_eq, Option.some.injEq] at h
    constructor
    · show knownTab x.name = _
      rw [h]; decide
    · show (x.name == "strconv.ErrRange" || x.name == "strconv.ErrSyntax") = true
      rw [h]; decide
def T_sRange : Tr := fun args σ K _ => ∃ f s : List UInt8, args = [st f, st s] /\ s.length <= 100000 /\ ∀ t σ', σ.sub σ' -> K (.addr t 0) σ'
theorem T_sRange_ok (hC : env 109 = T_sClone) (h : T_sRange args σ K X) : bodyD PS env an87 Tryz.f87 args σ K X := by
  obtain ⟨f, s, rfl, hs, hK⟩ := h
  have hbox : ∀ v : AV, v = .agg [st f, st s, .any] -> boxD σ v fun t10 σ4 => retV t10 σ4 K := by
    rintro v rfl
    exact ⟨rfl, fun id hid => retV_self (hK _ _ (sub_set _ hid))⟩
  rw [<- S87_eq env, S87]
  simp only [lock_eq]
  have ld : ∀ (σ : AS) (Q : AV -> Prop), loadD PS σ 75 (.glob 2 0) Q = Q .any := fun σ Q => ld_any T.hT75 T.ag75 g_errR.1 g_errR.2
  refine ⟨?_, ?_⟩
  · rw [hC]
    refine ⟨s, rfl, hs, ?_⟩
    dsimp only
    rw [ld, bdE]
    exact ⟨⟨⟨hbox _ rfl, trivial⟩, trivial⟩, trivial⟩
  · rw [ld]
    refine ⟨⟨?_, trivial⟩, trivial⟩
    rw [hC]
    refine ⟨s, rfl, hs, ?_⟩
    dsimp only
    rw [bdE]
    exact ⟨⟨hbox _ rfl, trivial⟩, trivial⟩
abbrev errN (n : Int) : AV := .pv (.iface 120 false [.int .i64 n])
theorem ifE {n : Int} {Q : AV -> Prop} : ifaceD PS 120 (i64 n) Q = Q (errN n) := by simp [ifaceD, T.un120, toPV]
theorem unErr : ∃ ms, PS.underlying 75 = some (.interface ms) := by
  cases e : PS.underlying 75 with
  | none => exact absurd (show (PS.underlying 75).isSome = true by kernel_rfl) (by rw [e]; decide)
  | some t =>
    have : (match PS.underlying 75 with | some (.interface _) => true | _ => false) = true := by kernel_rfl
    rw [e] at this
    cases t <;> first | exact ⟨_, rfl⟩ | cases this
theorem eqE {a b : Int} {Q : AV -> Prop} : binD PS .eql 75 (errN a) (errN b) Q = Q (bo (a == b)) := by
  obtain ⟨ms, hm⟩ := unErr
  have hc : ∃ i, PS.info? 120 = some i /\ i.comparable = true := by
    cases e : PS.info? 120 with
    | none => exact absurd (show (PS.info? 120).isSome = true by kernel_rfl) (by rw [e]; decide)
    | some i =>
      refine ⟨i, rfl, ?_⟩
      have : ((PS.info? 120).map (·.comparable)) = some true := by kernel_rfl
      rw [e] at this
      exact Option.some.inj this
  obtain ⟨i, hi, hic⟩ := hc
  simp [binD, eqD, hm, T.un120, hi, hic]
def T_sToError : Tr := fun args σ K _ => ∃ (f s : List UInt8) (b c : Int), args = [st f, st s, i64 b, i64 c, errN 1] /\ s.length <= 100000 /\ K .any σ
theorem T_sToError_ok (hR : env 87 = T_sRange) (h : T_sToError args σ K X) : bodyD PS env an58 Tryz.f58 args σ K X := by
  obtain ⟨f, s, b, c, rfl, hs, hK⟩ := h
  rw [<- S58_eq env, S58]
  simp only [lock_eq, ifE, eqE, cond_bool]
  rw [if_neg (by decide), if_pos (by decide), hR]
  refine ⟨f, s, rfl, hs, fun t σ' hs' => ?_⟩
  have hi : ifaceD PS 121 (.addr t 0) (fun t25 => retV t25 σ' K) := by
    have h : PS.underlying 121 = some (.pointer 135) := by kernel_rfl
    unfold ifaceD
    rw [h]
    exact ⟨trivial, retV_sub hs' hK⟩
  exact hi
end
end Go.AD.Fl
