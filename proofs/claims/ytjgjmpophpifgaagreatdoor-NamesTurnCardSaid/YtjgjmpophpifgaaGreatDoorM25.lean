import Derived.Test.YtjgjmpophpifgaaGreatDoorM7
import Derived.Test.YtjgjmpophpifgaaGreatDoorM24
set_option linter.unusedVariables false
set_option maxRecDepth 100000
namespace Go.AD
open Go.Proofs.Tryz
def an9:An:={ mu:=[85,86,101,116,143,174,187,202],cut:=[(20,[2,4,9,11,64]),(36,[2,4,13,15,16,19,122,145]),(38,[2,4,13,15,16,19,122,162])],loop:=[(5,[2,4,31,32,33]),(9,[2,4,6,31,32,33,42,43,44]),(17,[2,4,9,64]),(21,[2,4,9]),(26,[2,4,13,107]),(30,[2,4,13,122]),(45,[2,13,202,203,204])] }
def L9_9 (env:Env) (I5:Nat->List AV->AS->Prop) (m5:Nat) (I9:Nat->List AV->AS->Prop) (m9:Nat) (t2_l9 t4_l9 n6_l9 t31_l9 t32_l9 t33_l9 t42_l9 t43_l9 t44_l9:AV) (s:AS) (K:AV->AS->Prop) (X:PV->AS->Prop):Prop :=
 (lock binD prog .lss 3 t44_l9 t43_l9 fun t45 =>
 (condD t45
 (lock indexAddrD prog 23 t42_l9 t44_l9 fun t46 =>
 (lock loadD prog s 50 t46 fun t47 =>
 (lock allocD prog s 50 fun t8 s11 =>
 (lock storeD prog s11 50 t8 t47 fun s12 =>
 (lock loadD prog s12 50 t8 fun t49 =>
 (lock loadD prog s12 50 n6_l9 fun t50 =>
 (env 21 [t4_l9,t49,t50] s12 (fun t51 s13 =>
 (lock binD prog .add 3 t44_l9 (.pv (.int .i64 1)) fun t52 =>
 (∃ m',m' < m9/\I9 m' [t2_l9,t4_l9,n6_l9,t31_l9,t32_l9,t33_l9,t42_l9,t43_l9,t52] s13))) (panV X))))))))
 (lock binD prog .add 3 t33_l9 (.pv (.int .i64 1)) fun t59 =>
 (∃ m',m' < m5/\I5 m' [t2_l9,t4_l9,t31_l9,t32_l9,t59] s))))
theorem L9_9_eq (env:Env) (I5:Nat->List AV->AS->Prop) (m5:Nat) (I9:Nat->List AV->AS->Prop) (m9:Nat) (t2_l9 t4_l9 n6_l9 t31_l9 t32_l9 t33_l9 t42_l9 t43_l9 t44_l9:AV) (s:AS) (K:AV->AS->Prop) (X:PV->AS->Prop):L9_9 env I5 m5 I9 m9 t2_l9 t4_l9 n6_l9 t31_l9 t32_l9 t33_l9 t42_l9 t43_l9 t44_l9 s K X=wpD prog env an9 (subC (bodyC f9) [1,1,1,0,1,0,0,1,1,0,0,1,0,1,0,0,1,0,0]) (contQ prog env an9 (bodyC f9) [1,1,1,0,1,0,0,1,1,0,0,1,0,1,0,0,1,0,0] [(I5,m5),(I9,m9)] (rootQ prog f9 K X)) [(2,t2_l9),(4,t4_l9),(6,n6_l9),(31,t31_l9),(32,t32_l9),(33,t33_l9),(42,t42_l9),(43,t43_l9),(44,t44_l9)] s:=by
  unfold L9_9
  kernel_rfl
theorem lp9_9 {α:Type} {env:Env} {I5:Nat->List AV->AS->Prop} {m5:Nat} {t2_l9 t4_l9 n6_l9 t31_l9 t32_l9 t33_l9 t42_l9 t43_l9:AV} {s:AS} {K:AV->AS->Prop} {X:PV->AS->Prop} (μ:α->AS->Nat) (I:α->AS->Prop) (et44_l9:α->AV) (a0:α) (h0:I a0 s)
 (h:∀ a s,I a s->L9_9 env I5 m5 (Inv (fun a=>[t2_l9,t4_l9,n6_l9,t31_l9,t32_l9,t33_l9,t42_l9,t43_l9,et44_l9 a]) μ I) (μ a s) t2_l9 t4_l9 n6_l9 t31_l9 t32_l9 t33_l9 t42_l9 t43_l9 (et44_l9 a) s K X) :
 ∃ I9:Nat->List AV->AS->Prop,(∃ m,I9 m [t2_l9,t4_l9,n6_l9,t31_l9,t32_l9,t33_l9,t42_l9,t43_l9,et44_l9 a0] s)/\∀ (m:Nat) (x0 x1 x2 x3 x4 x5 x6 x7 x8:AV),∀ s,I9 m [x0,x1,x2,x3,x4,x5,x6,x7,x8] s ->
 L9_9 env I5 m5 I9 m x0 x1 x2 x3 x4 x5 x6 x7 x8 s K X:=by
  refine ⟨Inv (fun a=>[t2_l9,t4_l9,n6_l9,t31_l9,t32_l9,t33_l9,t42_l9,t43_l9,et44_l9 a]) μ I,⟨_,a0,rfl,rfl,h0⟩,?_⟩
  rintro m x0 x1 x2 x3 x4 x5 x6 x7 x8 s' ⟨a,hv,rfl,hI⟩
  simp only [List.cons.injEq,and_true] at hv
  obtain ⟨rfl,rfl,rfl,rfl,rfl,rfl,rfl,rfl,rfl⟩:=hv
  exact h a s' hI
def J9_20 (env:Env) (I17:Nat->List AV->AS->Prop) (m17:Nat) (t2_j20 t4_j20 todo9_j20 v11_j20 t64_j20:AV) (s:AS) (K:AV->AS->Prop) (X:PV->AS->Prop):Prop :=
 (lock buildSliceD prog true s 62 1 1 [(0,v11_j20)] fun t85 s20 =>
 (lock appendD prog true s20 62 todo9_j20 t85 fun t86 s21 =>
 (∃ m',m' < m17/\I17 m' [t2_j20,t4_j20,t86,t64_j20] s21)))
def J9_38 (env:Env) (I30:Nat->List AV->AS->Prop) (m30:Nat) (t2_j38 t4_j38 out13_j38 name15_j38 v16_j38 local19_j38 t122_j38 t162_j38:AV) (s:AS) (K:AV->AS->Prop) (X:PV->AS->Prop):Prop :=
 (condD t162_j38
 (lock fieldAddrD prog 28 out13_j38 3 fun t170 =>
 (lock loadD prog s 26 t170 fun t171 =>
 (lock buildSliceD prog false s 26 1 1 [(0,name15_j38)] fun t173 s40 =>
 (lock appendD prog true s40 26 t171 t173 fun t174 s41 =>
 (lock fieldAddrD prog 28 out13_j38 3 fun t175 =>
 (lock storeD prog s41 26 t175 t174 fun s42 =>
 (∃ m',m' < m30/\I30 m' [t2_j38,t4_j38,out13_j38,t122_j38] s42)))))))
 (condD local19_j38
 (∃ m',m' < m30/\I30 m' [t2_j38,t4_j38,out13_j38,t122_j38] s)
 (lock nilD v16_j38 fun t180 =>
 (lock fieldAddrD prog 65 t180 2 fun t181 =>
 (lock loadD prog s 4 t181 fun t182 =>
 (condD t182
 (lock fieldAddrD prog 28 out13_j38 2 fun t183 =>
 (lock loadD prog s 26 t183 fun t184 =>
 (lock buildSliceD prog false s 26 1 1 [(0,name15_j38)] fun t186 s43 =>
 (lock appendD prog true s43 26 t184 t186 fun t187 s44 =>
 (lock fieldAddrD prog 28 out13_j38 2 fun t188 =>
 (lock storeD prog s44 26 t188 t187 fun s45 =>
 (∃ m',m' < m30/\I30 m' [t2_j38,t4_j38,out13_j38,t122_j38] s45)))))))
 (lock fieldAddrD prog 28 out13_j38 1 fun t139 =>
 (lock loadD prog s 26 t139 fun t140 =>
 (lock buildSliceD prog false s 26 1 1 [(0,name15_j38)] fun t142 s46 =>
 (lock appendD prog true s46 26 t140 t142 fun t143 s47 =>
 (lock fieldAddrD prog 28 out13_j38 1 fun t144 =>
 (lock storeD prog s47 26 t144 t143 fun s48 =>
 (∃ m',m' < m30/\I30 m' [t2_j38,t4_j38,out13_j38,t122_j38] s48)))))))))))))
def J9_36 (env:Env) (I30:Nat->List AV->AS->Prop) (m30:Nat) (t2_j36 t4_j36 out13_j36 name15_j36 v16_j36 local19_j36 t122_j36 t145_j36:AV) (s:AS) (K:AV->AS->Prop) (X:PV->AS->Prop):Prop :=
 (condD t145_j36
 (lock nilD t4_j36 fun t160 =>
 (lock fieldAddrD prog 59 t160 2 fun t161 =>
 (lock storeD prog s 4 t161 (.pv (.bool true)) fun s39 =>
 (∃ m',m' < m30/\I30 m' [t2_j36,t4_j36,out13_j36,t122_j36] s39))))
 (guardD local19_j36 true
 (lock nilD v16_j36 fun t166 =>
 (lock fieldAddrD prog 65 t166 2 fun t167 =>
 (lock loadD prog s 4 t167 fun t168 =>
 (J9_38 env I30 m30 (t2_j36) (t4_j36) (out13_j36) (name15_j36) (v16_j36) (local19_j36) (t122_j36) (t168) s K X))))
 (J9_38 env I30 m30 (t2_j36) (t4_j36) (out13_j36) (name15_j36) (v16_j36) (local19_j36) (t122_j36) (.pv (.bool false)) s K X)))
def L9_45 (env:Env) (I45:Nat->List AV->AS->Prop) (m45:Nat) (t2_l45 out13_l45 t202_l45 t203_l45 t204_l45:AV) (s:AS) (K:AV->AS->Prop) (X:PV->AS->Prop):Prop :=
 (lock binD prog .lss 3 t204_l45 t203_l45 fun t205 =>
 (condD t205
 (lock indexAddrD prog 34 t202_l45 t204_l45 fun t206 =>
 (lock loadD prog s 26 t206 fun t207 =>
 (env 25 [t207] s (fun t209 s52 =>
 (lock binD prog .add 3 t204_l45 (.pv (.int .i64 1)) fun t210 =>
 (∃ m',m' < m45/\I45 m' [t2_l45,out13_l45,t202_l45,t203_l45,t210] s52))) (panV X))))
 (lock loadD prog s 28 out13_l45 fun t211 =>
 (lock storeD prog s 28 t2_l45 t211 fun s53 =>
 (lock loadD prog s53 28 t2_l45 fun r0 =>
 (retV (.tuple [r0,(.pv (.bool true))]) s53 K))))))
theorem L9_45_eq (env:Env) (I45:Nat->List AV->AS->Prop) (m45:Nat) (t2_l45 out13_l45 t202_l45 t203_l45 t204_l45:AV) (s:AS) (K:AV->AS->Prop) (X:PV->AS->Prop):L9_45 env I45 m45 t2_l45 out13_l45 t202_l45 t203_l45 t204_l45 s K X=wpD prog env an9 (subC (bodyC f9) [1,1,1,1,1,1,1,1,1,1,1,0,1,0,0]) (contQ prog env an9 (bodyC f9) [1,1,1,1,1,1,1,1,1,1,1,0,1,0,0] [(I45,m45)] (rootQ prog f9 K X)) [(2,t2_l45),(13,out13_l45),(202,t202_l45),(203,t203_l45),(204,t204_l45)] s:=by
  unfold L9_45
  kernel_rfl
theorem lp9_45 {α:Type} {env:Env}  {t2_l45 out13_l45 t202_l45 t203_l45:AV} {s:AS} {K:AV->AS->Prop} {X:PV->AS->Prop} (μ:α->AS->Nat) (I:α->AS->Prop) (et204_l45:α->AV) (a0:α) (h0:I a0 s)
 (h:∀ a s,I a s->L9_45 env  (Inv (fun a=>[t2_l45,out13_l45,t202_l45,t203_l45,et204_l45 a]) μ I) (μ a s) t2_l45 out13_l45 t202_l45 t203_l45 (et204_l45 a) s K X) :
 ∃ I45:Nat->List AV->AS->Prop,(∃ m,I45 m [t2_l45,out13_l45,t202_l45,t203_l45,et204_l45 a0] s)/\∀ (m:Nat) (x0 x1 x2 x3 x4:AV),∀ s,I45 m [x0,x1,x2,x3,x4] s ->
 L9_45 env  I45 m x0 x1 x2 x3 x4 s K X:=by
  refine ⟨Inv (fun a=>[t2_l45,out13_l45,t202_l45,t203_l45,et204_l45 a]) μ I,⟨_,a0,rfl,rfl,h0⟩,?_⟩
  rintro m x0 x1 x2 x3 x4 s' ⟨a,hv,rfl,hI⟩
  simp only [List.cons.injEq,and_true] at hv
  obtain ⟨rfl,rfl,rfl,rfl,rfl⟩:=hv
  exact h a s' hI
def L9_30 (env:Env) (I30:Nat->List AV->AS->Prop) (m30:Nat) (t2_l30 t4_l30 out13_l30 t122_l30:AV) (s:AS) (K:AV->AS->Prop) (X:PV->AS->Prop):Prop :=
 (lock nextMapD s t122_l30 fun t123 s35 =>
 (lock extractD t123 0 fun t124 =>
 (condD t124
 (lock entryD s35 t122_l30 fun t125 =>
 (lock extractD t125 0 fun t126 =>
 (lock extractD t125 1 fun t127 =>
 (lock nilD t4_l30 fun t130 =>
 (lock fieldAddrD prog 59 t130 0 fun t131 =>
 (lock loadD prog s35 56 t131 fun t132 =>
 (lock lookupD prog s35 56 t132 t126 true fun t134 =>
 (lock extractD t134 0 fun t135 =>
 (lock extractD t134 1 fun t136 =>
 (lock allocD prog s35 50 fun t17 s36 =>
 (lock storeD prog s36 50 t17 t135 fun s37 =>
 (env 24 [t126,(.pv (.str [46]))] s37 (fun t138 s38 =>
 (lock nilD t127 fun t147 =>
 (lock fieldAddrD prog 65 t147 1 fun t148 =>
 (lock loadD prog s38 4 t148 fun t149 =>
 (guardD t149 true
 (lock nilD t127 fun t152 =>
 (lock fieldAddrD prog 65 t152 2 fun t153 =>
 (lock loadD prog s38 4 t153 fun t154 =>
 (guardD t154 false
 (J9_36 env I30 m30 (t2_l30) (t4_l30) (out13_l30) (t126) (t127) (t138) (t122_l30) (t136) s38 K X)
 (J9_36 env I30 m30 (t2_l30) (t4_l30) (out13_l30) (t126) (t127) (t138) (t122_l30) (.pv (.bool true)) s38 K X)))))
 (J9_36 env I30 m30 (t2_l30) (t4_l30) (out13_l30) (t126) (t127) (t138) (t122_l30) (t136) s38 K X)))))) (panV X)))))))))))))
 (lock nilD t4_l30 fun t190 =>
 (lock fieldAddrD prog 59 t190 2 fun t191 =>
 (lock loadD prog s35 4 t191 fun t192 =>
 (condD t192
 (lock buildD prog 28 [] fun t193 =>
 (lock storeD prog s35 28 t2_l30 t193 fun s49 =>
 (lock loadD prog s49 28 t2_l30 fun r0 =>
 (retV (.tuple [r0,(.pv (.bool false))]) s49 K))))
 (lock fieldAddrD prog 28 out13_l30 0 fun t194 =>
 (lock loadD prog s35 26 t194 fun t195 =>
 (lock fieldAddrD prog 28 out13_l30 1 fun t196 =>
 (lock loadD prog s35 26 t196 fun t197 =>
 (lock fieldAddrD prog 28 out13_l30 2 fun t198 =>
 (lock loadD prog s35 26 t198 fun t199 =>
 (lock fieldAddrD prog 28 out13_l30 3 fun t200 =>
 (lock loadD prog s35 26 t200 fun t201 =>
 (lock buildSliceD prog true s35 34 4 4 [(0,t195),(1,t197),(2,t199),(3,t201)] fun t202 s50 =>
 (lock lenD prog 34 t202 fun t203 =>
 (∃ I45:Nat->List AV->AS->Prop,(∃ m,I45 m [t2_l30,out13_l30,t202,t203,(.pv (.int .i64 0))] s50)/\∀ (m45:Nat) (t2_l45 out13_l45 t202_l45 t203_l45 t204_l45:AV),∀ s51,I45 m45 [t2_l45,out13_l45,t202_l45,t203_l45,t204_l45] s51 ->
 (L9_45 env I45 m45 t2_l45 out13_l45 t202_l45 t203_l45 t204_l45 s51 K X)))))))))))))))))))
theorem L9_30_eq (env:Env) (I30:Nat->List AV->AS->Prop) (m30:Nat) (t2_l30 t4_l30 out13_l30 t122_l30:AV) (s:AS) (K:AV->AS->Prop) (X:PV->AS->Prop):L9_30 env I30 m30 t2_l30 t4_l30 out13_l30 t122_l30 s K X=wpD prog env an9 (subC (bodyC f9) [1,1,1,1,1,1,1,1,1,0,1,0,0]) (contQ prog env an9 (bodyC f9) [1,1,1,1,1,1,1,1,1,0,1,0,0] [(I30,m30)] (rootQ prog f9 K X)) [(2,t2_l30),(4,t4_l30),(13,out13_l30),(122,t122_l30)] s:=by
  unfold L9_30
  simp only [L9_45_eq]
  kernel_rfl
theorem lp9_30 {α:Type} {env:Env}  {t2_l30 t4_l30 out13_l30 t122_l30:AV} {s:AS} {K:AV->AS->Prop} {X:PV->AS->Prop} (μ:α->AS->Nat) (I:α->AS->Prop) (a0:α) (h0:I a0 s)
 (h:∀ a s,I a s->L9_30 env  (Inv (fun a=>[t2_l30,t4_l30,out13_l30,t122_l30]) μ I) (μ a s) t2_l30 t4_l30 out13_l30 t122_l30 s K X) :
 ∃ I30:Nat->List AV->AS->Prop,(∃ m,I30 m [t2_l30,t4_l30,out13_l30,t122_l30] s)/\∀ (m:Nat) (x0 x1 x2 x3:AV),∀ s,I30 m [x0,x1,x2,x3] s ->
 L9_30 env  I30 m x0 x1 x2 x3 s K X:=by
  refine ⟨Inv (fun a=>[t2_l30,t4_l30,out13_l30,t122_l30]) μ I,⟨_,a0,rfl,rfl,h0⟩,?_⟩
  rintro m x0 x1 x2 x3 s' ⟨a,hv,rfl,hI⟩
  simp only [List.cons.injEq,and_true] at hv
  obtain ⟨rfl,rfl,rfl,rfl⟩:=hv
  exact h a s' hI
def L9_26 (env:Env) (I26:Nat->List AV->AS->Prop) (m26:Nat) (t2_l26 t4_l26 out13_l26 t107_l26:AV) (s:AS) (K:AV->AS->Prop) (X:PV->AS->Prop):Prop :=
 (lock nextMapD s t107_l26 fun t108 s29 =>
 (lock extractD t108 0 fun t109 =>
 (condD t109
 (lock entryD s29 t107_l26 fun t110 =>
 (lock extractD t110 0 fun t111 =>
 (lock fieldAddrD prog 28 out13_l26 0 fun t112 =>
 (lock loadD prog s29 26 t112 fun t113 =>
 (lock buildSliceD prog false s29 26 1 1 [(0,t111)] fun t115 s30 =>
 (lock appendD prog true s30 26 t113 t115 fun t116 s31 =>
 (lock fieldAddrD prog 28 out13_l26 0 fun t117 =>
 (lock storeD prog s31 26 t117 t116 fun s32 =>
 (∃ m',m' < m26/\I26 m' [t2_l26,t4_l26,out13_l26,t107_l26] s32)))))))))
 (lock nilD t4_l26 fun t119 =>
 (lock fieldAddrD prog 59 t119 1 fun t120 =>
 (lock loadD prog s29 57 t120 fun t121 =>
 (lock rangeMapD prog s29 57 t121 fun t122 s33 =>
 (∃ I30:Nat->List AV->AS->Prop,(∃ m,I30 m [t2_l26,t4_l26,out13_l26,t122] s33)/\∀ (m30:Nat) (t2_l30 t4_l30 out13_l30 t122_l30:AV),∀ s34,I30 m30 [t2_l30,t4_l30,out13_l30,t122_l30] s34 ->
 (L9_30 env I30 m30 t2_l30 t4_l30 out13_l30 t122_l30 s34 K X)))))))))
theorem L9_26_eq (env:Env) (I26:Nat->List AV->AS->Prop) (m26:Nat) (t2_l26 t4_l26 out13_l26 t107_l26:AV) (s:AS) (K:AV->AS->Prop) (X:PV->AS->Prop):L9_26 env I26 m26 t2_l26 t4_l26 out13_l26 t107_l26 s K X=wpD prog env an9 (subC (bodyC f9) [1,1,1,1,1,1,1,1,0,1,0,0]) (contQ prog env an9 (bodyC f9) [1,1,1,1,1,1,1,1,0,1,0,0] [(I26,m26)] (rootQ prog f9 K X)) [(2,t2_l26),(4,t4_l26),(13,out13_l26),(107,t107_l26)] s:=by
  unfold L9_26
  simp only [L9_30_eq]
  kernel_rfl
theorem lp9_26 {α:Type} {env:Env}  {t2_l26 t4_l26 out13_l26 t107_l26:AV} {s:AS} {K:AV->AS->Prop} {X:PV->AS->Prop} (μ:α->AS->Nat) (I:α->AS->Prop) (a0:α) (h0:I a0 s)
 (h:∀ a s,I a s->L9_26 env  (Inv (fun a=>[t2_l26,t4_l26,out13_l26,t107_l26]) μ I) (μ a s) t2_l26 t4_l26 out13_l26 t107_l26 s K X) :
 ∃ I26:Nat->List AV->AS->Prop,(∃ m,I26 m [t2_l26,t4_l26,out13_l26,t107_l26] s)/\∀ (m:Nat) (x0 x1 x2 x3:AV),∀ s,I26 m [x0,x1,x2,x3] s ->
 L9_26 env  I26 m x0 x1 x2 x3 s K X:=by
  refine ⟨Inv (fun a=>[t2_l26,t4_l26,out13_l26,t107_l26]) μ I,⟨_,a0,rfl,rfl,h0⟩,?_⟩
  rintro m x0 x1 x2 x3 s' ⟨a,hv,rfl,hI⟩
  simp only [List.cons.injEq,and_true] at hv
  obtain ⟨rfl,rfl,rfl,rfl⟩:=hv
  exact h a s' hI
def L9_21 (env:Env) (I21:Nat->List AV->AS->Prop) (m21:Nat) (t2_l21 t4_l21 todo9_l21:AV) (s:AS) (K:AV->AS->Prop) (X:PV->AS->Prop):Prop :=
 (lock lenD prog 62 todo9_l21 fun t88 =>
 (lock binD prog .gtr 3 t88 (.pv (.int .i64 0)) fun t89 =>
 (condD t89
 (lock lenD prog 62 todo9_l21 fun t92 =>
 (lock binD prog .sub 3 t92 (.pv (.int .i64 1)) fun t93 =>
 (lock indexAddrD prog 62 todo9_l21 t93 fun t94 =>
 (lock loadD prog s 63 t94 fun t95 =>
 (lock lenD prog 62 todo9_l21 fun t99 =>
 (lock binD prog .sub 3 t99 (.pv (.int .i64 1)) fun t100 =>
 (lock takeOverD prog s 62 todo9_l21 none (some t100) fun t101 s24 =>
 (env 23 [t95,t101] s24 (fun t102 s25 =>
 (∃ m',m' < m21/\I21 m' [t2_l21,t4_l21,t102] s25)) (panV X)))))))))
 (lock allocD prog s 28 fun t13 s26 =>
 (lock nilD t4_l21 fun t104 =>
 (lock fieldAddrD prog 59 t104 0 fun t105 =>
 (lock loadD prog s26 56 t105 fun t106 =>
 (lock rangeMapD prog s26 56 t106 fun t107 s27 =>
 (∃ I26:Nat->List AV->AS->Prop,(∃ m,I26 m [t2_l21,t4_l21,t13,t107] s27)/\∀ (m26:Nat) (t2_l26 t4_l26 out13_l26 t107_l26:AV),∀ s28,I26 m26 [t2_l26,t4_l26,out13_l26,t107_l26] s28 ->
 (L9_26 env I26 m26 t2_l26 t4_l26 out13_l26 t107_l26 s28 K X))))))))))
theorem L9_21_eq (env:Env) (I21:Nat->List AV->AS->Prop) (m21:Nat) (t2_l21 t4_l21 todo9_l21:AV) (s:AS) (K:AV->AS->Prop) (X:PV->AS->Prop):L9_21 env I21 m21 t2_l21 t4_l21 todo9_l21 s K X=wpD prog env an9 (subC (bodyC f9) [1,1,1,1,1,1,0,0,0]) (contQ prog env an9 (bodyC f9) [1,1,1,1,1,1,0,0,0] [(I21,m21)] (rootQ prog f9 K X)) [(2,t2_l21),(4,t4_l21),(9,todo9_l21)] s:=by
  unfold L9_21
  simp only [L9_26_eq]
  kernel_rfl
theorem lp9_21 {α:Type} {env:Env}  {t2_l21 t4_l21:AV} {s:AS} {K:AV->AS->Prop} {X:PV->AS->Prop} (μ:α->AS->Nat) (I:α->AS->Prop) (etodo9_l21:α->AV) (a0:α) (h0:I a0 s)
 (h:∀ a s,I a s->L9_21 env  (Inv (fun a=>[t2_l21,t4_l21,etodo9_l21 a]) μ I) (μ a s) t2_l21 t4_l21 (etodo9_l21 a) s K X) :
 ∃ I21:Nat->List AV->AS->Prop,(∃ m,I21 m [t2_l21,t4_l21,etodo9_l21 a0] s)/\∀ (m:Nat) (x0 x1 x2:AV),∀ s,I21 m [x0,x1,x2] s ->
 L9_21 env  I21 m x0 x1 x2 s K X:=by
  refine ⟨Inv (fun a=>[t2_l21,t4_l21,etodo9_l21 a]) μ I,⟨_,a0,rfl,rfl,h0⟩,?_⟩
  rintro m x0 x1 x2 s' ⟨a,hv,rfl,hI⟩
  simp only [List.cons.injEq,and_true] at hv
  obtain ⟨rfl,rfl,rfl⟩:=hv
  exact h a s' hI
def L9_17 (env:Env) (I17:Nat->List AV->AS->Prop) (m17:Nat) (t2_l17 t4_l17 todo9_l17 t64_l17:AV) (s:AS) (K:AV->AS->Prop) (X:PV->AS->Prop):Prop :=
 (lock nextMapD s t64_l17 fun t65 s17 =>
 (lock extractD t65 0 fun t66 =>
 (condD t66
 (lock entryD s17 t64_l17 fun t67 =>
 (lock extractD t67 1 fun t68 =>
 (lock nilD t68 fun t71 =>
 (lock fieldAddrD prog 65 t71 1 fun t72 =>
 (lock loadD prog s17 4 t72 fun t73 =>
 (guardD t73 false
 (lock nilD t68 fun t76 =>
 (lock fieldAddrD prog 65 t76 0 fun t77 =>
 (lock loadD prog s17 9 t77 fun t78 =>
 (env 22 [t78] s17 (fun t79 s18 =>
 (lock nilD t68 fun t81 =>
 (lock fieldAddrD prog 65 t81 1 fun t82 =>
 (lock storeD prog s18 4 t82 t79 fun s19 =>
 (J9_20 env I17 m17 (t2_l17) (t4_l17) (todo9_l17) (t68) (t64_l17) s19 K X))))) (panV X)))))
 (lock nilD t68 fun t81 =>
 (lock fieldAddrD prog 65 t81 1 fun t82 =>
 (lock storeD prog s17 4 t82 (.pv (.bool true)) fun s22 =>
 (J9_20 env I17 m17 (t2_l17) (t4_l17) (todo9_l17) (t68) (t64_l17) s22 K X))))))))))
 (∃ I21:Nat->List AV->AS->Prop,(∃ m,I21 m [t2_l17,t4_l17,todo9_l17] s17)/\∀ (m21:Nat) (t2_l21 t4_l21 todo9_l21:AV),∀ s23,I21 m21 [t2_l21,t4_l21,todo9_l21] s23 ->
 (L9_21 env I21 m21 t2_l21 t4_l21 todo9_l21 s23 K X)))))
theorem L9_17_eq (env:Env) (I17:Nat->List AV->AS->Prop) (m17:Nat) (t2_l17 t4_l17 todo9_l17 t64_l17:AV) (s:AS) (K:AV->AS->Prop) (X:PV->AS->Prop):L9_17 env I17 m17 t2_l17 t4_l17 todo9_l17 t64_l17 s K X=wpD prog env an9 (subC (bodyC f9) [1,1,1,1,1,0,1,0,0]) (contQ prog env an9 (bodyC f9) [1,1,1,1,1,0,1,0,0] [(I17,m17)] (rootQ prog f9 K X)) [(2,t2_l17),(4,t4_l17),(9,todo9_l17),(64,t64_l17)] s:=by
  unfold L9_17
  simp only [L9_21_eq]
  kernel_rfl
theorem lp9_17 {α:Type} {env:Env}  {t2_l17 t4_l17 t64_l17:AV} {s:AS} {K:AV->AS->Prop} {X:PV->AS->Prop} (μ:α->AS->Nat) (I:α->AS->Prop) (etodo9_l17:α->AV) (a0:α) (h0:I a0 s)
 (h:∀ a s,I a s->L9_17 env  (Inv (fun a=>[t2_l17,t4_l17,etodo9_l17 a,t64_l17]) μ I) (μ a s) t2_l17 t4_l17 (etodo9_l17 a) t64_l17 s K X) :
 ∃ I17:Nat->List AV->AS->Prop,(∃ m,I17 m [t2_l17,t4_l17,etodo9_l17 a0,t64_l17] s)/\∀ (m:Nat) (x0 x1 x2 x3:AV),∀ s,I17 m [x0,x1,x2,x3] s ->
 L9_17 env  I17 m x0 x1 x2 x3 s K X:=by
  refine ⟨Inv (fun a=>[t2_l17,t4_l17,etodo9_l17 a,t64_l17]) μ I,⟨_,a0,rfl,rfl,h0⟩,?_⟩
  rintro m x0 x1 x2 x3 s' ⟨a,hv,rfl,hI⟩
  simp only [List.cons.injEq,and_true] at hv
  obtain ⟨rfl,rfl,rfl,rfl⟩:=hv
  exact h a s' hI
def L9_5 (env:Env) (I5:Nat->List AV->AS->Prop) (m5:Nat) (t2_l5 t4_l5 t31_l5 t32_l5 t33_l5:AV) (s:AS) (K:AV->AS->Prop) (X:PV->AS->Prop):Prop :=
 (lock binD prog .lss 3 t33_l5 t32_l5 fun t34 =>
 (condD t34
 (lock indexAddrD prog 23 t31_l5 t33_l5 fun t35 =>
 (lock loadD prog s 50 t35 fun t36 =>
 (lock allocD prog s 50 fun t6 s8 =>
 (lock storeD prog s8 50 t6 t36 fun s9 =>
 (lock fieldAddrD prog 50 t6 0 fun t37 =>
 (lock loadD prog s9 9 t37 fun t38 =>
 (lock binD prog .eql 9 t38 (.pv (.str [102,117,110,99])) fun t39 =>
 (condD t39
 (lock fieldAddrD prog 50 t6 2 fun t40 =>
 (lock loadD prog s9 23 t40 fun t41 =>
 (lock sliceD prog 23 t41 (some (.pv (.int .i64 1))) none fun t42 =>
 (lock lenD prog 23 t42 fun t43 =>
 (∃ I9:Nat->List AV->AS->Prop,(∃ m,I9 m [t2_l5,t4_l5,t6,t31_l5,t32_l5,t33_l5,t42,t43,(.pv (.int .i64 0))] s9)/\∀ (m9:Nat) (t2_l9 t4_l9 n6_l9 t31_l9 t32_l9 t33_l9 t42_l9 t43_l9 t44_l9:AV),∀ s10,I9 m9 [t2_l9,t4_l9,n6_l9,t31_l9,t32_l9,t33_l9,t42_l9,t43_l9,t44_l9] s10 ->
 (L9_9 env I5 m5 I9 m9 t2_l9 t4_l9 n6_l9 t31_l9 t32_l9 t33_l9 t42_l9 t43_l9 t44_l9 s10 K X))))))
 (lock fieldAddrD prog 50 t6 2 fun t54 =>
 (lock loadD prog s9 23 t54 fun t55 =>
 (lock buildD prog 50 [(2,t55)] fun t56 =>
 (lock buildD prog 50 [] fun t57 =>
 (env 21 [t4_l5,t56,t57] s9 (fun t58 s14 =>
 (lock binD prog .add 3 t33_l5 (.pv (.int .i64 1)) fun t59 =>
 (∃ m',m' < m5/\I5 m' [t2_l5,t4_l5,t31_l5,t32_l5,t59] s14))) (panV X))))))))))))))
 (lock nilD t4_l5 fun t61 =>
 (lock fieldAddrD prog 59 t61 1 fun t62 =>
 (lock loadD prog s 57 t62 fun t63 =>
 (lock rangeMapD prog s 57 t63 fun t64 s15 =>
 (∃ I17:Nat->List AV->AS->Prop,(∃ m,I17 m [t2_l5,t4_l5,(.nilS),t64] s15)/\∀ (m17:Nat) (t2_l17 t4_l17 todo9_l17 t64_l17:AV),∀ s16,I17 m17 [t2_l17,t4_l17,todo9_l17,t64_l17] s16 ->
 (L9_17 env I17 m17 t2_l17 t4_l17 todo9_l17 t64_l17 s16 K X))))))))
theorem L9_5_eq (env:Env) (I5:Nat->List AV->AS->Prop) (m5:Nat) (t2_l5 t4_l5 t31_l5 t32_l5 t33_l5:AV) (s:AS) (K:AV->AS->Prop) (X:PV->AS->Prop):L9_5 env I5 m5 t2_l5 t4_l5 t31_l5 t32_l5 t33_l5 s K X=wpD prog env an9 (subC (bodyC f9) [1,1,1,0,1,0,0]) (contQ prog env an9 (bodyC f9) [1,1,1,0,1,0,0] [(I5,m5)] (rootQ prog f9 K X)) [(2,t2_l5),(4,t4_l5),(31,t31_l5),(32,t32_l5),(33,t33_l5)] s:=by
  unfold L9_5
  simp only [L9_9_eq,L9_17_eq]
  kernel_rfl
theorem lp9_5 {α:Type} {env:Env}  {t2_l5 t4_l5 t31_l5 t32_l5:AV} {s:AS} {K:AV->AS->Prop} {X:PV->AS->Prop} (μ:α->AS->Nat) (I:α->AS->Prop) (et33_l5:α->AV) (a0:α) (h0:I a0 s)
 (h:∀ a s,I a s->L9_5 env  (Inv (fun a=>[t2_l5,t4_l5,t31_l5,t32_l5,et33_l5 a]) μ I) (μ a s) t2_l5 t4_l5 t31_l5 t32_l5 (et33_l5 a) s K X) :
 ∃ I5:Nat->List AV->AS->Prop,(∃ m,I5 m [t2_l5,t4_l5,t31_l5,t32_l5,et33_l5 a0] s)/\∀ (m:Nat) (x0 x1 x2 x3 x4:AV),∀ s,I5 m [x0,x1,x2,x3,x4] s ->
 L9_5 env  I5 m x0 x1 x2 x3 x4 s K X:=by
  refine ⟨Inv (fun a=>[t2_l5,t4_l5,t31_l5,t32_l5,et33_l5 a]) μ I,⟨_,a0,rfl,rfl,h0⟩,?_⟩
  rintro m x0 x1 x2 x3 x4 s' ⟨a,hv,rfl,hI⟩
  simp only [List.cons.injEq,and_true] at hv
  obtain ⟨rfl,rfl,rfl,rfl,rfl⟩:=hv
  exact h a s' hI
def S9 (env:Env) (l0_a:AV) (s:AS) (K:AV->AS->Prop) (X:PV->AS->Prop):Prop :=
 (lock allocD prog s 28 fun t2 s1 =>
 (lock makeMapD prog s1 56 none fun t22 s2 =>
 (lock makeMapD prog s2 57 none fun t23 s3 =>
 (lock buildD prog 59 [(0,t22),(1,t23)] fun t24 =>
 (lock boxD s3 t24 fun t25 s4 =>
 (env 20 [t25,l0_a] s4 (fun t28 s5 =>
 (unD .not t28 fun t29 =>
 (condD t29
 (lock buildD prog 28 [] fun t30 =>
 (lock storeD prog s5 28 t2 t30 fun s6 =>
 (lock loadD prog s6 28 t2 fun r0 =>
 (retV (.tuple [r0,(.pv (.bool false))]) s6 K))))
 (lock lenD prog 23 l0_a fun t32 =>
 (∃ I5:Nat->List AV->AS->Prop,(∃ m,I5 m [t2,t25,l0_a,t32,(.pv (.int .i64 0))] s5)/\∀ (m5:Nat) (t2_l5 t4_l5 t31_l5 t32_l5 t33_l5:AV),∀ s7,I5 m5 [t2_l5,t4_l5,t31_l5,t32_l5,t33_l5] s7 ->
 (L9_5 env I5 m5 t2_l5 t4_l5 t31_l5 t32_l5 t33_l5 s7 K X)))))) (panV X)))))))
theorem S9_eq (env:Env) (l0_a:AV) (s:AS) (K:AV->AS->Prop) (X:PV->AS->Prop):S9 env l0_a s K X=bodyD prog env an9 f9 [l0_a] s K X:=by
  unfold S9
  simp only [L9_5_eq]
  kernel_rfl
theorem S9_ok:(match f9.body with | some c=>okCode an9 prog f9.ntmps c | none=>false)=true:=by kernel_rfl
end Go.AD

set_option linter.unusedVariables false
set_option linter.unusedSimpArgs false
set_option maxRecDepth 100000
namespace Go.AD.Lx
open Go.Proofs RowKit
section
variable {env:Env} {args:List AV} {σ0 σ τ:AS} {K:AV->AS->Prop} {X:PV->AS->Prop} {L Y M A B:Objs} {t F V:Nat} {fs:List NTree} {bad:Bool} {rs l1 l2:List VR} {fl:Marks} {r:VR} {E:List Ev}
def RowB (v:AV) (R:Objs) (l:List Bytes):Prop:=(v=.nilS/\R=[]/\l=[]) \/ ∃ k,v=.msl k 0 l.length 1/\R=[(k,.cells (strsA l) none)]
theorem strsA_len (l:List Bytes):(strsA l).length=l.length:=by unfold strsA; simp
theorem RowB.push {v:AV} {R:Objs} {l:List Bytes} (G:RowB v R l) (hS:Sep σ0 σ (A ++ (R ++ B))) (hn:l.length < 1000000000) {x:Bytes} {KS:AV->AS->Prop}
    (hK:∀ σ' v' R',RowB v' R' (l ++ [x])->Sep σ0 σ' (A ++ (R' ++ B))->KS v' σ') :
    buildSliceD PS false σ 26 1 1 [(0,.pv (.str x))] fun t σ1=>appendD PS true σ1 26 v t KS:=by
  unfold buildSliceD
  rw [T.el26]
  simp only [T.hT9,T.sz9,elemsFill,AV.cells,AV.cellOk,List.length_cons,List.length_nil,List.all_cons,List.all_nil,Bool.and_self,Bool.and_true,and_self,if_true,Option.map_some,List.append_nil,true_and,and_true,Nat.one_mul,Bool.false_eq_true,if_false,toPVs,toPV]
  refine ⟨by decide,by rw [T.zo9]; rfl,by decide,?_⟩
  have hT:RowT PS 26 9:=⟨T.el26,by rw [T.sz9]; decide,_,T.zo9,by rw [T.sz9]; rfl⟩
  have e1:strsA (l ++ [x])=strsA l ++ [.pv (.str x)]:=by unfold strsA; simp
  rcases G with ⟨rfl,rfl,rfl⟩ | ⟨k,rfl,rfl⟩
  · refine app_nilM hT (ys:=[.str x]) (m:=1) rfl (by rw [T.sz9]; rfl) (by decide) (by rw [T.by9]; decide) (by decide) (fun id hid=>?_)
    rw [T.sz9]
    refine hK _ _ [(id,.cells (strsA [x]) none)] (.inr ⟨id,rfl,rfl⟩) ?_
    have:=hS.alloc hid (.cells (strsA [x]) none)
    exact this.perm (by simpa using (List.perm_middle (a:=(id,AObj.cells (strsA [x]) none)) (l₁:=A) (l₂:=B)).symm)
  · have hg:σ k=some (.cells (strsA l) none):=hS.get (by simp)
    refine app_msl hT (ys:=[.str x]) (m:=1) rfl (by rw [T.sz9]; rfl) hg T.sz9.symm (by rw [T.sz9,strsA_len]; omega) (by rw [T.by9]; omega) (by omega) (by decide) (fun k2 hk2=>?_)
    have hdel:(σ.del k) k2=none:=by
      by_cases e:k2=k
      · subst e; exact del_same _ _
      · rw [del_ne _ e]; exact hk2
    have h2:Sep σ0 σ ((k,.cells (strsA l) none) :: (A ++ B)):=hS.perm (by simp)
    have h3:=h2.del.alloc hdel (.cells (strsA (l ++ [x])) none)
    have e2:List.drop 0 (strsA l) ++ List.map AV.pv [.str x]=strsA (l ++ [x]):=by rw [e1]; rfl
    rw [e2]
    refine hK _ _ [(k2,.cells (strsA (l ++ [x])) none)] (.inr ⟨k2,by rw [List.length_append,List.length_singleton],rfl⟩) ?_
    exact h3.perm (by simpa using (List.perm_middle (a:=(k2,AObj.cells (strsA (l ++ [x])) none)) (l₁:=A) (l₂:=B)).symm)
theorem toPVs_strs:∀ l:List Bytes,toPVs (strsA l)=some (l.map .str)
  | []=>rfl
  | x :: l=>by
    have ih:=toPVs_strs l
    unfold strsA at *
    rw [List.map_cons,List.map_cons]
    simp only [toPVs,toPV,ih]
theorem frz_row {az bs rest:List AV} {v:AV} {R:Objs} {l:List Bytes} (G:RowB v R l) (hS:Sep σ0 σ (R ++ B)) (hK:∀ σ',Sep σ0 σ' B->K (.tuple (.agg (az ++ .pv (.lst l.length (l.map .str)) :: bs) :: rest)) σ') :
    frzA K (.tuple (.agg (az ++ v :: bs) :: rest)) σ:=by
  rcases G with ⟨rfl,rfl,rfl⟩ | ⟨k,rfl,rfl⟩
  · exact .inr ⟨az,_,bs,rest,rfl,.inl ⟨_,rfl,hK σ hS⟩⟩
  · refine .inr ⟨az,_,bs,rest,rfl,.inr ⟨k,l.length,1,_,_,l.map .str,rfl,hS.get (o:=.cells (strsA l) none) (by simp),?_,hK _ (Sep.del hS)⟩⟩
    rw [List.take_of_length_le (by rw [strsA_len]; omega)]
    exact toPVs_strs l
theorem sort_row {v:AV} {R:Objs} {l:List Bytes} {KS:AV->AS->Prop} (h1:env 25=T_sort) (G:RowB v R l) (hn:l.length <= 1000000000) (hS:Sep σ0 σ (A ++ (R ++ B))) (hK:∀ σ' R',RowB v R' (sortS l)->Sep σ0 σ' (A ++ (R' ++ B))->KS (.tuple []) σ') :
    env 25 [v] σ KS X:=by
  rw [h1]
  refine ⟨v,l,rfl,hn,?_⟩
  rcases G with ⟨rfl,rfl,rfl⟩ | ⟨k,rfl,rfl⟩
  · exact .inl ⟨rfl,hK σ [] (.inl ⟨rfl,rfl,by unfold sortS; simp⟩) hS⟩
  · refine .inr ⟨k,none,rfl,hS.get (by simp),hK _ [(k,.cells (strsA (sortS l)) none)] (.inr ⟨k,by rw [sortS_len],rfl⟩) ?_⟩
    exact Sep.set (l1:=A) (l2:=B) hS _
def namesAV (F S A P:List Bytes):AV:=.agg [.pv (.lst F.length (F.map .str)),.pv (.lst S.length (S.map .str)),.pv (.lst A.length (A.map .str)),.pv (.lst P.length (P.map .str))]
abbrev fz4 (K:AV->AS->Prop):AV->AS->Prop:=frzA (frzA (frzA (frzA K)))
theorem fz4_ret {vF vS vA vP:AV} {RF RS RA RP:Objs} {F S A P:List Bytes} {b:Bool} (gF:RowB vF RF F) (gS:RowB vS RS S) (gA:RowB vA RA A) (gP:RowB vP RP P) (hS:Sep σ0 σ (RF ++ (RS ++ (RA ++ RP)))) (hK:∀ σ',σ0.sub σ'->K (.tuple [namesAV F S A P,.pv (.bool b)]) σ') :
    fz4 K (.tuple [.agg [vF,vS,vA,vP],.pv (.bool b)]) σ:=by
  refine frz_row (az:=[]) gF hS (fun σ1 h1=>?_)
  refine frz_row (az:=[_]) gS h1 (fun σ2 h2=>?_)
  refine frz_row (az:=[_,_]) gA h2 (fun σ3 h3=>?_)
  refine frz_row (az:=[_,_,_]) (B:=[]) gP (by simpa using h3) (fun σ4 h4=>?_)
  exact hK σ4 h4.sub
theorem ldNames {v:Option TypeId} {i:Nat} {a b c d:AV} {KV:AV->Prop} (hg:σ i=some (.cells [a,b,c,d] v)) (hK:KV (.agg [a,b,c,d])):loadD PS σ 28 (.addr i 0) KV:=by
  rw [load_addrA T.hT28 T.ag28 hg,T.sz28]
  exact ⟨by simp,hK⟩
theorem stNames {v:Option TypeId} {i:Nat} {a b c d a' b' c' d':AV} {KS:AS->Prop} (hg:σ i=some (.cells [a,b,c,d] v)) (ok:[a',b',c',d'].all AV.cellOk=true) (hK:KS (σ.set i (.cells [a',b',c',d'] v))):storeD PS σ 28 (.addr i 0) (.agg [a',b',c',d']) KS:=by
  rw [storeD]
  simp only [hg]
  exact ⟨T.hT28,by rw [T.sz28]; rfl,ok,by simp [AV.cells],hK⟩
theorem RowB.ok {v:AV} {R:Objs} {l:List Bytes} (G:RowB v R l):v.cellOk=true:=by
  rcases G with ⟨rfl,rfl,rfl⟩ | ⟨k,rfl,rfl⟩ <;> rfl
abbrev GoE (env:Env) (t2 t13 k:Nat) (σ:AS) (K:AV->AS->Prop) (X:PV->AS->Prop):Prop :=
  ∃ I45:Nat->List AV->AS->Prop,(∃ m,I45 m [.addr t2 0,.addr t13 0,.msl k 0 4 1,.pv (.int .i64 4),.pv (.int .i64 0)] σ)/\∀ (m45:Nat) (x0 x1 x2 x3 x4:AV),∀ σ51,I45 m45 [x0,x1,x2,x3,x4] σ51->L9_45 env I45 m45 x0 x1 x2 x3 x4 σ51 K X
def srtIf (b:Bool) (l:List Bytes):List Bytes:=if b=true then sortS l else l
theorem rsE (h1:env 25=T_sort) {t2 t13 k:Nat} {vF vS vA vP:AV} {RF RS RA RP:Objs} {F S A P:List Bytes} (gF:RowB vF RF F) (gS:RowB vS RS S) (gA:RowB vA RA A) (gP:RowB vP RP P)
    (nF:F.length <= 1000000000) (nS:S.length <= 1000000000) (nA:A.length <= 1000000000) (nP:P.length <= 1000000000) {c1 c2 c3 c4:AV}
    (hS:Sep σ0 σ ((k,.cells [vF,vS,vA,vP] none) :: (t13,.cells [vF,vS,vA,vP] (some 28)) :: (t2,.cells [c1,c2,c3,c4] (some 28)) :: (RF ++ (RS ++ (RA ++ RP)))))
    (hK:∀ σ',σ0.sub σ'->K (.tuple [namesAV (sortS F) (sortS S) (sortS A) (sortS P),.pv (.bool true)]) σ'):GoE env t2 t13 k σ (fz4 K) X:=by
  refine lp9_45 (fun (i:Nat) _=>4 - i) (fun i τ=>i <= 4/\∃ RF RS RA RP,RowB vF RF (srtIf (decide (0 < i)) F)/\RowB vS RS (srtIf (decide (1 < i)) S)/\RowB vA RA (srtIf (decide (2 < i)) A)/\RowB vP RP (srtIf (decide (3 < i)) P) /\
    Sep σ0 τ ((k,.cells [vF,vS,vA,vP] none) :: (t13,.cells [vF,vS,vA,vP] (some 28)) :: (t2,.cells [c1,c2,c3,c4] (some 28)) :: (RF ++ (RS ++ (RA ++ RP))))) (fun i=>.pv (.int .i64 (i:Nat))) 0 ⟨by decide,RF,RS,RA,RP,gF,gS,gA,gP,hS⟩ ?_
  clear hS gF gS gA gP RF RS RA RP
  rintro i τ ⟨hi,RF,RS,RA,RP,gF,gS,gA,gP,hS⟩
  unfold L9_45
  have hk:=hS.get (i:=k) (o:=.cells [vF,vS,vA,vP] none) (by simp)
  simp (disch:=omega) only [lock_eq,bin_lss,cond_bool,decide_eq_true_eq]
  refine iteI (fun g1=>?_) (fun g1=>?_)
  · have i4:i < 4:=by omega
    rw [T.ixm34 i4,Nat.zero_add,Nat.mul_one,ldA T.hT26 T.ag26,hk,ldM_cells]
    have hcase:i=0 \/ i=1 \/ i=2 \/ i=3:=by omega
    rcases hcase with rfl | rfl | rfl | rfl
    · refine ⟨vF,rfl,?_⟩
      refine sort_row h1 (l:=F) gF nF (A:=[_,_,_]) (B:=RS ++ (RA ++ RP)) hS (fun σ' R' g' hS'=>?_)
      simp (disch:=omega) only [go_sem]
      exact back 1 rfl (by omega) ⟨by omega,R',RS,RA,RP,g',gS,gA,gP,hS'⟩
    · refine ⟨vS,rfl,?_⟩
      refine sort_row h1 (l:=S) gS nS (A:=_ :: _ :: _ :: RF) (B:=RA ++ RP) (by simpa using hS) (fun σ' R' g' hS'=>?_)
      simp (disch:=omega) only [go_sem]
      exact back 2 rfl (by omega) ⟨by omega,RF,R',RA,RP,gF,g',gA,gP,by simpa using hS'⟩
    · refine ⟨vA,rfl,?_⟩
      refine sort_row h1 (l:=A) gA nA (A:=_ :: _ :: _ :: (RF ++ RS)) (B:=RP) (by simpa using hS) (fun σ' R' g' hS'=>?_)
      simp (disch:=omega) only [go_sem]
      exact back 3 rfl (by omega) ⟨by omega,RF,RS,R',RP,gF,gS,g',gP,by simpa using hS'⟩
    · refine ⟨vP,rfl,?_⟩
      refine sort_row h1 (l:=P) gP nP (A:=_ :: _ :: _ :: (RF ++ (RS ++ RA))) (B:=[]) (by simpa using hS) (fun σ' R' g' hS'=>?_)
      simp (disch:=omega) only [go_sem]
      exact back 4 rfl (by omega) ⟨by omega,RF,RS,RA,R',gF,gS,gA,g',by simpa using hS'⟩
  · have e:i=4:=by omega
    subst e
    refine ldNames (hS.get (i:=t13) (o:=.cells [vF,vS,vA,vP] (some 28)) (by simp)) ?_
    refine stNames (hS.get (i:=t2) (o:=.cells [c1,c2,c3,c4] (some 28)) (by simp)) (by simp [gF.ok,gS.ok,gA.ok,gP.ok]) ?_
    have h2:=Sep.set (l1:=[_,_]) (i:=t2) (l2:=RF ++ (RS ++ (RA ++ RP))) hS (.cells [vF,vS,vA,vP] (some 28))
    refine ldNames (h2.get (i:=t2) (o:=.cells [vF,vS,vA,vP] (some 28)) (by simp)) ?_
    refine retV_self ?_
    exact fz4_ret gF gS gA gP h2.drop.drop.drop hK
end
end Go.AD.Lx

set_option linter.unusedVariables false
set_option linter.unusedSimpArgs false
set_option maxRecDepth 100000
namespace Go.AD.Lx
open Go.Proofs RowKit
structure Went {α:Type} (l:List α) (seen:List Nat) (Q:List α):Prop where
  nd:seen.Nodup
  lt:∀ i ∈ seen,i < l.length
  mem:∀ q,q ∈ Q ↔ ∃ i ∈ seen,l[i]?=some q
  len:Q.length=seen.length
section
variable {α β:Type} {l:List α} {seen:List Nat} {Q:List α}
theorem Went.start (l:List α):Went l [] []:=⟨List.nodup_nil,by simp,by simp,rfl⟩
theorem Went.room (h:Went l seen Q) {i:Nat} (hi:i < l.length) (hn:i ∉ seen):seen.length < l.length:=by
  rcases Nat.lt_or_ge seen.length l.length with h1 | h1
  · exact h1
  · exact absurd (all_seen h.nd h.lt h1 i hi) hn
theorem Went.step (h:Went l seen Q) {i:Nat} (hi:i < l.length) (hn:i ∉ seen):Went l (seen ++ [i]) (Q ++ [l[i]]):=by
  refine ⟨?_,?_,?_,by rw [List.length_append,List.length_append,h.len]; rfl⟩
  · rw [List.nodup_append]
    exact ⟨h.nd,by simp,fun a ha b hb e=>hn (by rw [List.mem_singleton] at hb; rw [<- hb,<- e]; exact ha)⟩
  · intro j hj
    rcases List.mem_append.1 hj with hj | hj
    · exact h.lt j hj
    · rw [List.mem_singleton.1 hj]; exact hi
  · intro q
    rw [List.mem_append,h.mem,List.mem_singleton]
    constructor
    · rintro (⟨j,h1,h2⟩ | rfl)
      · exact ⟨j,List.mem_append_left _ h1,h2⟩
      · exact ⟨i,by simp,List.getElem?_eq_getElem hi⟩
    · rintro ⟨j,h1,h2⟩
      rcases List.mem_append.1 h1 with h1 | h1
      · exact .inl ⟨j,h1,h2⟩
      · rw [List.mem_singleton.1 h1,List.getElem?_eq_getElem hi] at h2
        exact .inr (Option.some.inj h2).symm
theorem Went.all (h:Went l seen Q) (ha:∀ i < l.length,i ∈ seen) (q:α):q ∈ Q ↔ q ∈ l:=by
  rw [h.mem]
  constructor
  · rintro ⟨i,_,h2⟩; exact List.mem_of_getElem? h2
  · intro hq
    obtain ⟨i,hi,rfl⟩:=List.getElem_of_mem hq
    exact ⟨i,ha i hi,List.getElem?_eq_getElem hi⟩
theorem Went.sub (h:Went l seen Q) {q:α} (hq:q ∈ Q):q ∈ l:=by
  obtain ⟨i,_,h2⟩:=(h.mem q).1 hq
  exact List.mem_of_getElem? h2
theorem Went.new (h:Went l seen Q) (g:α->β) (hg:(l.map g).Nodup) {i:Nat} (hi:i < l.length) (hn:i ∉ seen):∀ q ∈ Q,g q ≠ g l[i]:=by
  intro q hq e
  obtain ⟨j,hj,h2⟩:=(h.mem q).1 hq
  obtain ⟨hjl,h3⟩:=List.getElem?_eq_some_iff.1 h2
  have h4:(l.map g)[j]'(by simpa using hjl)=(l.map g)[i]'(by simpa using hi):=by
    simp only [List.getElem_map]; rw [h3]; exact e
  have h5:=(List.getElem_inj (h₀:=by simpa using hjl) (h₁:=by simpa using hi) hg).1 h4
  exact hn (h5 ▸ hj)
end
def conf (fs:List NTree) (fl:Marks) (r:VR):Bool:=((fl r.id).1 && (fl r.id).2) || (funF fs r.name).isSome
def locB (r:VR):Bool:=decide (46 ∈ r.name)
def isPB (fs:List NTree) (fl:Marks) (r:VR):Bool:=!conf fs fl r && (locB r && (fl r.id).2)
def isAB (fs:List NTree) (fl:Marks) (r:VR):Bool:=!conf fs fl r && (!locB r && (fl r.id).2)
def isSB (fs:List NTree) (fl:Marks) (r:VR):Bool:=!conf fs fl r && (!locB r && !(fl r.id).2)
def pickN (p:VR->Bool) (Q:List VR):List Bytes:=(Q.filter p).map (·.name)
theorem pickN_snoc (p:VR->Bool) (Q:List VR) (r:VR):pickN p (Q ++ [r])=pickN p Q ++ (if p r=true then [r.name] else []):=by
  unfold pickN
  rw [List.filter_append,List.map_append]
  congr 1
  by_cases h:p r=true
  · rw [if_pos h]; simp [h]
  · rw [if_neg h]; simp [h]
theorem pickN_len (p:VR->Bool) (Q:List VR):(pickN p Q).length <= Q.length:=by
  unfold pickN
  rw [List.length_map]
  exact List.length_filter_le ..
section
variable {env:Env} {args:List AV} {σ0 σ τ:AS} {K:AV->AS->Prop} {X:PV->AS->Prop} {L Y M A B:Objs} {t F V:Nat} {fs:List NTree} {bad:Bool} {rs l1 l2:List VR} {fl:Marks} {r:VR} {E:List Ev}
theorem NM.pushB {v:AV} {R:Objs} {l:List Bytes} {x:Bytes} {KS:AV->AS->Prop} (h:NM σ0 σ t F V fs bad rs fl (A ++ (R ++ B))) (G:RowB v R l) (hn:l.length < 1000000000)
    (hK:∀ σ' v' R',RowB v' R' (l ++ [x])->NM σ0 σ' t F V fs bad rs fl (A ++ (R' ++ B))->KS v' σ'):buildSliceD PS false σ 26 1 1 [(0,.pv (.str x))] fun t σ1=>appendD PS true σ1 26 v t KS:=by
  refine G.push (A:=A) (B:=B ++ NObjs t F V fs bad rs fl) (by simpa using h.sep) hn (fun σ' v' R' G' hS=>hK σ' v' R' G' ⟨?_,h.rows⟩)
  simpa using hS
abbrev GoD (env:Env) (t2 t t13 it:Nat) (σ:AS) (K:AV->AS->Prop) (X:PV->AS->Prop):Prop :=
  ∃ I30:Nat->List AV->AS->Prop,(∃ m,I30 m [.addr t2 0,.addr t 0,.addr t13 0,.iter it] σ)/\∀ (m30:Nat) (x0 x1 x2 x3:AV),∀ σ34,I30 m30 [x0,x1,x2,x3] σ34->L9_30 env I30 m30 x0 x1 x2 x3 σ34 K X
def outO (t13:Nat) (a b c d:AV):Nat × AObj:=(t13,.cells [a,b,c,d] (some 28))
theorem bldNames {K:AV->Prop}:buildD PS 28 [] K=K (.agg [.nilS,.nilS,.nilS,.nilS]):=by simp [buildD,buildFill,go_sem]
theorem bld4 {a b c d:AV} (ha:a.cellOk=true) (hb:b.cellOk=true) (hc:c.cellOk=true) (hd:d.cellOk=true) (ha':a.cells=[a]) (hb':b.cells=[b]) (hc':c.cells=[c]) (hd':d.cells=[d]) {KS:AV->AS->Prop} (hK:∀ k,σ k=none->KS (.msl k 0 4 1) (σ.set k (.cells [a,b,c,d] none))) :
    buildSliceD PS true σ 34 4 4 [(0,a),(1,b),(2,c),(3,d)] KS:=by
  unfold buildSliceD
  rw [T.el34]
  simp only [T.hT26,T.sz26,elemsFill,ha,hb,hc,hd,ha',hb',hc',hd',newRowD,List.length_cons,List.length_nil,List.all_cons,List.all_nil,Bool.and_self,and_self,if_true,Option.map_some,true_and,and_true,Nat.mul_one,Nat.reduceAdd,List.cons_append,List.nil_append]
  exact ⟨by decide,by rw [T.zo26]; rfl,by decide,hK⟩
theorem RowB.cells {v:AV} {R:Objs} {l:List Bytes} (G:RowB v R l):v.cells=[v]:=by
  rcases G with ⟨rfl,rfl,rfl⟩ | ⟨k,rfl,rfl⟩ <;> rfl
theorem pt_call {f:FuncId} (h:env f=strT2 fun s t=>.pv (.bool (Lib.contains s t))) {x:Bytes} (hx:x.length <= 100000) (hK:K (.pv (.bool (decide (46 ∈ x)))) σ):env f [.pv (.str x),.pv (.str [46])] σ K X:=by
  rw [h]
  exact ⟨x,[46],rfl,hx,by dsimp only; rw [contains_pt]; exact hK⟩
theorem rsD (h1:env 25=T_sort) (h2:env 24=strT2 fun s t=>.pv (.bool (Lib.contains s t))) {t2 t13 it:Nat} {vF:AV} {RF G:Objs} {Fl:List Bytes} {c1 c2 c3 c4:AV} (hσ:L=[outO t2 c1 c2 c3 c4])
    (gF:RowB vF RF Fl) (nF:Fl.length <= 1000000000) (nR:rs.length <= 900000000) (hnn:(rs.map (·.name)).Nodup) (hsh:∀ r ∈ rs,r.name.length <= 100000)
    (hN:NM σ0 σ t F V fs bad rs fl ((it,.mapIt V (varE rs).length []) :: (G ++ outO t13 vF .nilS .nilS .nilS :: (RF ++ L))))
    (hKf:(bad || rs.any (conf fs fl))=true->∀ σ',σ0.sub σ'->K (.tuple [namesAV [] [] [] [],.pv (.bool false)]) σ')
    (hKt:(bad || rs.any (conf fs fl))=false->∀ (Q:List VR),(∀ r,r ∈ Q ↔ r ∈ rs)->(Q.map (·.name)).Nodup->∀ σ',σ0.sub σ'->K (.tuple [namesAV (sortS Fl) (sortS (pickN (isSB fs fl) Q)) (sortS (pickN (isAB fs fl) Q)) (sortS (pickN (isPB fs fl) Q)),.pv (.bool true)]) σ'):GoD env t2 t t13 it σ (fz4 K) X:=by
  refine lp9_30 (fun (a:List Nat × List VR) _=>rs.length - a.1.length) (fun a τ=>Went rs a.1 a.2/\(a.2.map (·.name)).Nodup/\∃ G vS vA vP RS RA RP,RowB vS RS (pickN (isSB fs fl) a.2)/\RowB vA RA (pickN (isAB fs fl) a.2)/\RowB vP RP (pickN (isPB fs fl) a.2) /\
    NM σ0 τ t F V fs (bad || a.2.any (conf fs fl)) rs fl (G ++ (it,.mapIt V (varE rs).length a.1) :: outO t13 vF vS vA vP :: (RF ++ (RS ++ (RA ++ (RP ++ L)))))) ([],[]) ⟨Went.start rs,by simp,?_⟩ ?_
  · refine ⟨[],.nilS,.nilS,.nilS,[],[],[],.inl ⟨rfl,rfl,rfl⟩,.inl ⟨rfl,rfl,rfl⟩,.inl ⟨rfl,rfl,rfl⟩,?_⟩
    have e:(bad || ([]:List VR).any (conf fs fl))=bad:=by simp
    rw [e]
    refine hN.part ?_
    exact List.Sublist.cons_cons _ (List.sublist_append_right G _)
  clear hN G
  rintro ⟨seen,Q⟩ τ ⟨hW,hQn,G,vS,vA,vP,RS,RA,RP,gS,gA,gP,hN⟩
  dsimp only at hW hQn gS gA gP hN ⊢
  have hvl:(varE rs).length=rs.length:=by unfold varE; simp
  unfold L9_30
  simp only [lock_eq]
  refine iterNext hN.gV (hN.at (o:=.mapIt V (varE rs).length seen) (by simp)) (fun hall=>?_) (fun i hi hns=>?_)
  ·
    have hall':∀ i < rs.length,i ∈ seen:=fun i hi=>hall i (by omega)
    have hQ:=hW.all hall'
    have hany:Q.any (conf fs fl)=rs.any (conf fs fl):=by
      rw [Bool.eq_iff_iff,List.any_eq_true,List.any_eq_true]
      exact ⟨fun ⟨r,h,h'⟩=>⟨r,(hQ r).1 h,h'⟩,fun ⟨r,h,h'⟩=>⟨r,(hQ r).2 h,h'⟩⟩
    rw [hany] at hN
    refine ext0' ?_
    refine cF ?_
    simp only [nil_addr,T.fa59_2,Nat.zero_add,T.ld4,hN.gT,ldM_cells,List.getElem?_cons_zero,List.getElem?_cons_succ,someEx,cond_bool]
    subst hσ
    refine iteI (fun hb=>?_) (fun hb=>?_)
    · rw [bldNames]
      refine stNames (hN.at (i:=t2) (o:=.cells [c1,c2,c3,c4] (some 28)) (by simp [outO])) rfl ?_
      have hN2:=NM.turn (A:=G ++ (it,.mapIt V (varE rs).length seen) :: outO t13 vF vS vA vP :: (RF ++ (RS ++ (RA ++ RP)))) (p:=outO t2 c1 c2 c3 c4) (B:=[]) (o:=.cells [.nilS,.nilS,.nilS,.nilS] (some 28)) (by simpa using hN)
      refine ldNames (hN2.at (i:=t2) (o:=.cells [.nilS,.nilS,.nilS,.nilS] (some 28)) (by simp [outO])) ?_
      refine retV_self ?_
      exact fz4_ret (.inl ⟨rfl,rfl,rfl⟩) (.inl ⟨rfl,rfl,rfl⟩) (.inl ⟨rfl,rfl,rfl⟩) (.inl ⟨rfl,rfl,rfl⟩) (σ0:=σ0) (hN2.sep.sublist (by simp)) (hKf hb)
    · rw [Bool.not_eq_true] at hb
      have hg:=hN.at (i:=t13) (o:=.cells [vF,vS,vA,vP] (some 28)) (by simp [outO])
      simp only [T.fa28_0,T.fa28_1,T.fa28_2,T.fa28_3,Nat.zero_add,ldA T.hT26 T.ag26,hg,ldM_cells,List.getElem?_cons_zero,List.getElem?_cons_succ,someEx]
      refine bld4 gF.ok gS.ok gA.ok gP.ok gF.cells gS.cells gA.cells gP.cells (fun k hk=>?_)
      rw [T.lnm34]
      have hS:=hN.sep.alloc hk (.cells [vF,vS,vA,vP] none)
      have hlen:Q.length <= 900000000:=by rw [hW.len]; exact Nat.le_trans (nodup_len rs.length seen hW.nd hW.lt) nR
      refine rsE h1 gF gS gA gP nF (by have:=pickN_len (isSB fs fl) Q; omega) (by have:=pickN_len (isAB fs fl) Q; omega) (by have:=pickN_len (isPB fs fl) Q; omega) (c1:=c1) (c2:=c2) (c3:=c3) (c4:=c4) (σ0:=σ0) ?_ (hKt hb Q hQ hQn)
      refine Sep.perm (hS.sublist (l':=(k,.cells [vF,vS,vA,vP] none) :: (outO t13 vF vS vA vP :: (RF ++ (RS ++ (RA ++ (RP ++ [outO t2 c1 c2 c3 c4])))))) ?_) ?_
      · refine List.Sublist.cons_cons _ ?_
        refine List.Sublist.trans ?_ (List.sublist_append_left _ _)
        exact List.Sublist.trans (List.sublist_cons_self _ _) (List.sublist_append_right G _)
      · refine List.Perm.cons _ (List.Perm.cons _ ?_)
        have:=List.perm_append_comm (l₁:=RF ++ (RS ++ (RA ++ RP))) (l₂:=[outO t2 c1 c2 c3 c4])
        simpa [outO] using this
  · have hi':i < rs.length:=by omega
    have hlt:=hW.room hi' hns
    have hN:=NM.turn (A:=G) (p:=(it,.mapIt V (varE rs).length seen)) (o:=.mapIt V (varE rs).length (seen ++ [i])) hN
    dsimp only at hN
    generalize τ.set it (.mapIt V (varE rs).length (seen ++ [i]))=τ2 at hN ⊢
    have hW2:=hW.step hi' hns
    have hnew:=hW.new (·.name) hnn hi' hns
    refine ext0'' ?_
    refine cT ?_
    refine iterEntry hN.gV (hN.at (o:=.mapIt V (varE rs).length (seen ++ [i])) (by simp)) hi ?_
    have e1:(varE rs)[i]=(rs[i].name,.addr rs[i].id 0):=List.getElem_map (fun r:VR=>(r.name,AV.addr r.id 0)) (h:=hi)
    rw [e1]
    refine ext0 ?_
    refine ext1 ?_
    have hr:rs[i] ∈ rs:=List.getElem_mem hi'
    have hrl:=hsh _ hr
    generalize rs[i]=r at hr hrl hW2 hnew ⊢
    have hQn2:((Q ++ [r]).map (·.name)).Nodup:=by
      rw [List.map_append,List.nodup_append]
      refine ⟨hQn,by simp,?_⟩
      intro a ha b hb e
      simp only [List.map_cons,List.map_nil,List.mem_singleton] at hb
      obtain ⟨q,hq,hqa⟩:=List.mem_map.1 ha
      exact hnew q hq (by rw [hqa,e,hb])
    have hmes:rs.length - (seen ++ [i]).length < rs.length - seen.length:=by rw [List.length_append,List.length_singleton]; omega
    have hQlen:Q.length <= 900000000:=by rw [hW.len]; omega
    simp only [nil_addr,T.fa59_0,Nat.zero_add]
    refine NM.ldF hN ?_
    have jj:∀ (b:Bool) (τ:AS) (o:Nat × AObj),b=(funF fs r.name).isSome->NM σ0 τ t F V fs (bad || Q.any (conf fs fl)) rs fl (o :: (G ++ (it,.mapIt V (varE rs).length (seen ++ [i])) :: outO t13 vF vS vA vP :: (RF ++ (RS ++ (RA ++ (RP ++ L)))))) ->
        ∀ b',b'=conf fs fl r->J9_36 env (Inv (fun _=>[.addr t2 0,.addr t 0,.addr t13 0,.iter it]) (fun (a:List Nat × List VR) _=>rs.length - a.1.length) (fun a τ=>Went rs a.1 a.2/\(a.2.map (·.name)).Nodup/\∃ G vS vA vP RS RA RP,RowB vS RS (pickN (isSB fs fl) a.2)/\RowB vA RA (pickN (isAB fs fl) a.2)/\RowB vP RP (pickN (isPB fs fl) a.2) /\
          NM σ0 τ t F V fs (bad || a.2.any (conf fs fl)) rs fl (G ++ (it,.mapIt V (varE rs).length a.1) :: outO t13 vF vS vA vP :: (RF ++ (RS ++ (RA ++ (RP ++ L))))))) (rs.length - seen.length) (.addr t2 0) (.addr t 0) (.addr t13 0) (.pv (.str r.name)) (.addr r.id 0) (.pv (.bool (locB r))) (.iter it) (.pv (.bool b')) τ (fz4 K) X:=by
      rintro b τ o hb hN b' rfl
      have hg:=hN.at (i:=t13) (o:=.cells [vF,vS,vA,vP] (some 28)) (by simp [outO])
      unfold J9_36
      simp only [lock_eq,nil_addr,T.fa59_2,T.fa65_2,Nat.zero_add,cond_bool]
      refine iteI (fun hc=>?_) (fun hc=>?_)
      · refine NM.setBad hN (fun σ' hN'=>?_)
        refine back (seen ++ [i],Q ++ [r]) rfl hmes ⟨hW2,hQn2,o :: G,vS,vA,vP,RS,RA,RP,?_,?_,?_,?_⟩
        · rw [pickN_snoc,if_neg (by unfold isSB; rw [hc]; simp),List.append_nil]; exact gS
        · rw [pickN_snoc,if_neg (by unfold isAB; rw [hc]; simp),List.append_nil]; exact gA
        · rw [pickN_snoc,if_neg (by unfold isPB; rw [hc]; simp),List.append_nil]; exact gP
        · have e:(bad || (Q ++ [r]).any (conf fs fl))=true:=by simp [hc]
          dsimp only
          rw [e]; exact hN'
      rw [Bool.not_eq_true] at hc
      have e:(bad || (Q ++ [r]).any (conf fs fl))=(bad || Q.any (conf fs fl)):=by simp [hc]
      cases hl:locB r with
      | true =>
        refine gTt ?_
        refine NM.ldR hN hr rfl ?_
        unfold J9_38
        simp only [lock_eq,cond_bool]
        refine iteI (fun ha=>?_) (fun ha=>iteI (fun _=>?_) (fun h=>absurd trivial h))
        · simp only [T.fa28_3,Nat.zero_add,ldA T.hT26 T.ag26,hg,ldM_cells,List.getElem?_cons_zero,List.getElem?_cons_succ,someEx]
          refine NM.pushB (A:=o :: (G ++ (it,.mapIt V (varE rs).length (seen ++ [i])) :: outO t13 vF vS vA vP :: (RF ++ (RS ++ RA)))) (R:=RP) (B:=L) (by simpa using hN) gP (by have:=pickN_len (isPB fs fl) Q; omega) (fun σ' v' R' g' hN'=>?_)
          have hg':=hN'.at (i:=t13) (o:=.cells [vF,vS,vA,vP] (some 28)) (by simp [outO])
          rw [stA T.hT26 T.sz26 g'.cells g'.ok,hg',stM_cells]
          refine ⟨by simp,?_⟩
          have hN2:=NM.turn (A:=o :: (G ++ [(it,.mapIt V (varE rs).length (seen ++ [i]))])) (p:=outO t13 vF vS vA vP) (B:=RF ++ (RS ++ (RA ++ (R' ++ L)))) (o:=.cells [vF,vS,vA,v'] (some 28)) (by simpa using hN')
          refine back (seen ++ [i],Q ++ [r]) rfl hmes ⟨hW2,hQn2,o :: G,vS,vA,v',RS,RA,R',?_,?_,?_,?_⟩
          · rw [pickN_snoc,if_neg (by unfold isSB; rw [hl]; simp),List.append_nil]; exact gS
          · rw [pickN_snoc,if_neg (by unfold isAB; rw [hl]; simp),List.append_nil]; exact gA
          · rw [pickN_snoc,if_pos (by unfold isPB; rw [hc,hl,ha]; rfl)]; exact g'
          · dsimp only
            rw [e]; simpa [outO] using hN2
        · rw [Bool.not_eq_true] at ha
          refine back (seen ++ [i],Q ++ [r]) rfl hmes ⟨hW2,hQn2,o :: G,vS,vA,vP,RS,RA,RP,?_,?_,?_,?_⟩
          · rw [pickN_snoc,if_neg (by unfold isSB; rw [hl]; simp),List.append_nil]; exact gS
          · rw [pickN_snoc,if_neg (by unfold isAB; rw [hl]; simp),List.append_nil]; exact gA
          · rw [pickN_snoc,if_neg (by unfold isPB; rw [ha]; simp),List.append_nil]; exact gP
          · dsimp only
            rw [e]; exact hN
      | false =>
        refine gFt ?_
        unfold J9_38
        simp only [lock_eq,nil_addr,T.fa65_2,Nat.zero_add]
        refine cF ?_
        refine cF ?_
        refine NM.ldR hN hr rfl ?_
        simp only [cond_bool]
        refine iteI (fun ha=>?_) (fun ha=>?_)
        · simp only [T.fa28_2,Nat.zero_add,ldA T.hT26 T.ag26,hg,ldM_cells,List.getElem?_cons_zero,List.getElem?_cons_succ,someEx]
          refine NM.pushB (A:=o :: (G ++ (it,.mapIt V (varE rs).length (seen ++ [i])) :: outO t13 vF vS vA vP :: (RF ++ RS))) (R:=RA) (B:=RP ++ L) (by simpa using hN) gA (by have:=pickN_len (isAB fs fl) Q; omega) (fun σ' v' R' g' hN'=>?_)
          have hg':=hN'.at (i:=t13) (o:=.cells [vF,vS,vA,vP] (some 28)) (by simp [outO])
          rw [stA T.hT26 T.sz26 g'.cells g'.ok,hg',stM_cells]
          refine ⟨by simp,?_⟩
          have hN2:=NM.turn (A:=o :: (G ++ [(it,.mapIt V (varE rs).length (seen ++ [i]))])) (p:=outO t13 vF vS vA vP) (B:=RF ++ (RS ++ (R' ++ (RP ++ L)))) (o:=.cells [vF,vS,v',vP] (some 28)) (by simpa using hN')
          refine back (seen ++ [i],Q ++ [r]) rfl hmes ⟨hW2,hQn2,o :: G,vS,v',vP,RS,R',RP,?_,?_,?_,?_⟩
          · rw [pickN_snoc,if_neg (by unfold isSB; rw [ha]; simp),List.append_nil]; exact gS
          · rw [pickN_snoc,if_pos (by unfold isAB; rw [hc,hl,ha]; rfl)]; exact g'
          · rw [pickN_snoc,if_neg (by unfold isPB; rw [hl]; simp),List.append_nil]; exact gP
          · dsimp only
            rw [e]; simpa [outO] using hN2
        · rw [Bool.not_eq_true] at ha
          simp only [T.fa28_1,Nat.zero_add,ldA T.hT26 T.ag26,hg,ldM_cells,List.getElem?_cons_zero,List.getElem?_cons_succ,someEx]
          refine NM.pushB (A:=o :: (G ++ (it,.mapIt V (varE rs).length (seen ++ [i])) :: outO t13 vF vS vA vP :: RF)) (R:=RS) (B:=RA ++ (RP ++ L)) (by simpa using hN) gS (by have:=pickN_len (isSB fs fl) Q; omega) (fun σ' v' R' g' hN'=>?_)
          have hg':=hN'.at (i:=t13) (o:=.cells [vF,vS,vA,vP] (some 28)) (by simp [outO])
          rw [stA T.hT26 T.sz26 g'.cells g'.ok,hg',stM_cells]
          refine ⟨by simp,?_⟩
          have hN2:=NM.turn (A:=o :: (G ++ [(it,.mapIt V (varE rs).length (seen ++ [i]))])) (p:=outO t13 vF vS vA vP) (B:=RF ++ (R' ++ (RA ++ (RP ++ L)))) (o:=.cells [vF,v',vA,vP] (some 28)) (by simpa using hN')
          refine back (seen ++ [i],Q ++ [r]) rfl hmes ⟨hW2,hQn2,o :: G,v',vA,vP,R',RA,RP,?_,?_,?_,?_⟩
          · rw [pickN_snoc,if_pos (by unfold isSB; rw [hc,hl,ha]; rfl)]; exact g'
          · rw [pickN_snoc,if_neg (by unfold isAB; rw [ha]; simp),List.append_nil]; exact gA
          · rw [pickN_snoc,if_neg (by unfold isPB; rw [hl]; simp),List.append_nil]; exact gP
          · dsimp only
            rw [e]; simpa [outO] using hN2
    have jk:∀ (b:Bool) (τ:AS) (o:Nat × AObj),b=(funF fs r.name).isSome->NM σ0 τ t F V fs (bad || Q.any (conf fs fl)) rs fl (o :: (G ++ (it,.mapIt V (varE rs).length (seen ++ [i])) :: outO t13 vF vS vA vP :: (RF ++ (RS ++ (RA ++ (RP ++ L))))))->True:=fun _ _ _ _ _=>trivial
    cases hh:funF fs r.name with
    | some g =>
      refine NM.look hN hh ?_
      refine ext0 ?_
      refine ext1 ?_
      refine NM.allocN hN (fun t17 σ36 hN=>?_)
      refine NM.storeN hN (fun σ37 hN=>?_)
      refine pt_call h2 hrl ?_
      have hcf:conf fs fl r=true:=by unfold conf; rw [hh]; simp
      have j:=jj true σ37 _ (by rw [hh]; rfl) hN true hcf.symm
      simp only [T.fa65_1,T.fa65_2,Nat.zero_add]
      refine NM.ldS hN hr rfl ?_
      simp only [guard_true]
      refine iteI (fun _=>?_) (fun _=>j)
      refine NM.ldR hN hr rfl ?_
      simp only [guard_false]
      exact iteI (fun _=>j) (fun _=>j)
    | none =>
      refine NM.lookZ hN hh ?_
      refine ext0 ?_
      refine ext1 ?_
      refine NM.allocN hN (fun t17 σ36 hN=>?_)
      refine NM.storeZ hN (fun σ37 hN=>?_)
      refine pt_call h2 hrl ?_
      have j:=jj false σ37 _ (by rw [hh]; rfl) hN
      have ec:conf fs fl r=((fl r.id).1 && (fl r.id).2):=by unfold conf; rw [hh]; simp
      simp only [T.fa65_1,T.fa65_2,Nat.zero_add]
      refine NM.ldS hN hr rfl ?_
      simp only [guard_true]
      refine iteI (fun g1=>?_) (fun g1=>j false (by rw [ec]; simp [g1]))
      refine NM.ldR hN hr rfl ?_
      simp only [guard_false]
      exact iteI (fun g2=>j true (by rw [ec,g1,g2]; rfl)) (fun g2=>j false (by rw [ec]; simp [g2]))
end
end Go.AD.Lx
