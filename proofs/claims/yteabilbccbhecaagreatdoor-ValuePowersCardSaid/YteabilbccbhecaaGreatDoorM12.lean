import Derived.Test.YteabilbccbhecaaGreatDoorM11
import Derived.Test.YteabilbccbhecaaGreatDoorM9
import Derived.Test.YteabilbccbhecaaGreatDoorM8
set_option linter.unusedVariables false
set_option linter.unusedSimpArgs false
set_option maxRecDepth 100000
namespace Go.AD.Fl
open Go.Proofs RowKit Go.AD.Fp Ieee
abbrev f64 (w : Nat) : AV := .pv (.float .f64 w)
theorem wordR_min (neg : Bool) (r : Nat) : wordR neg (min r infR) = wordR neg r := by unfold wordR; rw [Nat.min_assoc, Nat.min_self]
theorem sg_word (neg : Bool) (d : Nat) (p : Int) : sg neg + rungD d p = wordR neg (rung (d * tn p * e1074) (td p)) := by
  rw [<- wordR_sg neg (rungD_le d p)]; exact wordR_min neg _
section
variable {env : Env} {args : List AV} {σ0 σ τ : AS} {K : AV -> AS -> Prop} {X : PV -> AS -> Prop}
theorem g_known {g : Nat} {s : String} {cs : List PV} (h : ((PS.globals[g]?).map (·.name) == some s) = true) (h2 : knownTab s = some cs) : known PS g = some cs := by
  unfold known
  cases e : PS.globals[g]? with
  | none => rw [e] at h; cases h
  | some x =>
    rw [e] at h
    simp only [Option.map_some, beq_iff_eq, Option.some.injEq] at h
    show knownTab x.name = _
    rw [h]; exact h2
theorem g_f10 : known PS 12 = some [.lst 23 tabF10] := g_known (s := "internal/strconv.float64pow10") (by kernel_rfl) rfl
theorem g_finfo : known PS 7 = some [.int .u64 52, .int .u64 11, .int .i64 (-1023)] := g_known (s := "internal/strconv.float64info") (by kernel_rfl) rfl
theorem g_opt : known PS 6 = some [.bool true] := g_known (s := "internal/strconv.optimize") (by kernel_rfl) rfl
theorem f10_len : tabF10.length = 23 := by simp [tabF10]
theorem f10_get {i : Nat} (h : i < 23) : tabF10[i]? = some (.float .f64 (double.write (.number false (10 ^ i) 0))) := by
  unfold tabF10
  rw [List.getElem?_map, List.getElem?_range h]
  show some (PV.float .f64 (FloatKind.f64.nearest ((10 ^ i : Nat) : Int))) = _
  have e : FloatKind.f64.nearest ((10 ^ i : Nat) : Int) = double.write (.number false (10 ^ i) 0) := by
    show double.write (.number (decide (((10 ^ i : Nat) : Int) < 0)) (((10 ^ i : Nat) : Int)).natAbs 0) = _
    rw [decide_eq_false (Int.not_lt.2 (Int.natCast_nonneg _)), Int.natAbs_natCast]
  rw [e]
theorem ld_f10 {K : AV -> Prop} : loadD PS σ 217 (.glob 12 0) K = K (.pv (.lst 23 tabF10)) := by
  rw [ld_glob T.hT217 T.ag217 g_f10]; simp
theorem ix_f10 {i : Int} {k : Nat} (h : i = k) (hk : k < 23) {K : AV -> Prop} : indexAddrD PS 217 (.pv (.lst 23 tabF10)) (i64 i) K = K (.elemP tabF10 k) := by
  subst h
  rw [ix_lst (by rw [T.el217]; rfl)]
  simp only [T.el217, Option.getD_some, T.sz22, Nat.mul_one, Int.toNat_natCast]
  exact propext ⟨fun h => h.2.2.2.2.2, fun h => ⟨by kernel_rfl, by rw [f10_len]; exact Nat.le_refl _, by decide, by omega, by omega, h⟩⟩
theorem le_f10 {k : Nat} (hk : k < 23) {K : AV -> Prop} : loadD PS σ 22 (.elemP tabF10 k) K = K (f64 (double.write (.number false (10 ^ k) 0))) := by
  rw [T.le22, f10_get hk]; simp
def T_iExact : Tr := fun args σ K _ => ∃ (d : Nat) (p : Int) (neg : Bool), args = [u64 d, i64 p, .pv (.bool neg)] /\ 0 < d /\ d < 18446744073709551616 /\ -10000000000 <= p /\ p <= 10000000000 /\
  (∀ x, K (.tuple [f64 x, .pv (.bool false)]) σ) /\ K (.tuple [f64 (sg neg + rungD d p), .pv (.bool true)]) σ
set_option exponentiation.threshold 10000 in
theorem T_iExact_ok (h : T_iExact args σ K X) : bodyD PS env an146 Tryz.f146 args σ K X := by
  obtain ⟨d, p, neg, rfl, hd, hd2, hp1, hp2, hF, hT⟩ := h
  rw [sg_word] at hT
  have fail : ∀ x, retV (.tuple [f64 x, .pv (.bool false)]) σ K := fun x => retV_self (hF x)
  have j12 : ∀ (V k : Nat) (f : Nat), IsN f neg V -> V * 10 ^ k = d * 10 ^ p.toNat -> 0 <= p -> k < 23 -> J146_12 env (i64 (k : Int)) (f64 f) σ K X := by
    intro V k f hf hV h0 hk
    unfold J146_12
    simp only [lock_eq]
    rw [ld_f10, ix_f10 rfl hk, le_f10 hk]
    have e : floatBits .mul .f64 f (double.write (.number false (10 ^ k) 0)) = some (wordR neg (rung (d * tn p * e1074) (td p))) := by
      show double.mul f (double.write (.number false (10 ^ k) 0)) = _
      rw [mul_isN hf (isNB_isN (ten_isN k hk)), Bool.xor_false, hV]
      unfold tn td
      rw [show (-p).toNat = 0 from by omega, Nat.pow_zero]
    exact fbin_some e (retV_self hT)
  have j11 : ∀ (V k : Nat), 0 < V -> V * 10 ^ k = d * 10 ^ p.toNat -> 0 <= p -> k < 23 -> J146_11 env (i64 (k : Int)) (f64 (wordR neg (rung (V * e1074) 1))) (.pv (.bool false)) σ K X := by
    intro V k hV0 hV h0 hk
    unfold J146_11
    simp only [lock_eq]
    rw [bin_fgtr, guard_false]
    refine iteI (fun g => ?_) (fun g => ?_)
    · exact fail _
    · rw [bin_flss]
      refine iteI (fun g2 => ?_) (fun g2 => ?_)
      · exact fail _
      · have hle := le15 (neg := neg) (V := V) (fun e => g (by rw [show FloatKind.f64.format.order = double.order from rfl, e]; rfl)) (fun e => g2 (by rw [show FloatKind.f64.format.order = double.order from rfl, e]; rfl))
        exact j12 V k _ (isN_nat neg hV0 (by omega)) hV h0 hk
  have j14 : ∀ (b : Bool), (b = true -> p < 0 /\ -22 <= p) -> d < 2 ^ 53 -> J146_14 env (i64 p) (f64 (wordR neg (rung (d * e1074) 1))) (.pv (.bool false)) (.pv (.bool b)) σ K X := by
    intro b hb hd3
    unfold J146_14
    simp only [lock_eq]
    cases b with
    | false => exact fail _
    | true =>
      obtain ⟨b1, b2⟩ := hb rfl
      rw [cond_bool, if_pos rfl]
      rw [ld_f10, un_neg, wrap64 (by omega) (by omega), ix_f10 (k := (-p).toNat) (by omega) (by omega), le_f10 (by omega)]
      have e : floatBits .quo .f64 (wordR neg (rung (d * e1074) 1)) (double.write (.number false (10 ^ (-p).toNat) 0)) = some (wordR neg (rung (d * tn p * e1074) (td p))) := by
        show double.div _ _ = _
        have hW : 10 ^ (-p).toNat < 2 ^ 200 := Nat.lt_of_le_of_lt (Nat.pow_le_pow_right (n := 10) (show 0 < 10 from by decide) (show (-p).toNat <= 22 from by omega)) (show 10 ^ 22 < 2 ^ 200 from by decide)
        rw [div_isN (isN_nat neg hd hd3) (isNB_isN (ten_isN (-p).toNat (by omega))) hd (Nat.pow_pos (by decide)) hW, Bool.xor_false]
        unfold tn td
        rw [show p.toNat = 0 from by omega, Nat.pow_zero, Nat.mul_one]
      exact fbin_some e (retV_self hT)
  have j8 : ∀ (b : Bool), (b = true ↔ 0 < p /\ p <= 37) -> d < 2 ^ 53 -> J146_8 env (i64 p) (f64 (wordR neg (rung (d * e1074) 1))) (.pv (.bool false)) (.pv (.bool b)) σ K X := by
    intro b hb hd3
    unfold J146_8
    simp only [lock_eq]
    rw [cond_bool]
    refine iteI (fun g => ?_) (fun g => ?_)
    · obtain ⟨b1, b2⟩ := hb.1 g
      rw [bin_gtr, cond_bool]
      refine iteI (fun g => ?_) (fun g => ?_)
      · have g : 22 < p := by simpa using g
        rw [ld_f10, bin_sub, wrap64 (by omega) (by omega), ix_f10 (k := (p - 22).toNat) (by omega) (by omega), le_f10 (by omega)]
        have e : floatBits .mul .f64 (wordR neg (rung (d * e1074) 1)) (double.write (.number false (10 ^ (p - 22).toNat) 0)) = some (wordR neg (rung (d * 10 ^ (p - 22).toNat * e1074) 1)) := by
          show double.mul _ _ = _
          rw [mul_isN (isN_nat neg hd hd3) (isNB_isN (ten_isN (p - 22).toNat (by omega))), Bool.xor_false]
        refine fbin_some e ?_
        refine j11 (d * 10 ^ (p - 22).toNat) 22 (Nat.mul_pos hd (Nat.pow_pos (by decide))) ?_ (by omega) (by decide)
        rw [Nat.mul_assoc, <- Nat.pow_add]
        congr 2; omega
      · have g : ¬ 22 < p := by simpa using g
        have := j11 d p.toNat hd rfl (by omega) (by omega)
        rw [Int.toNat_of_nonneg (by omega)] at this
        exact this
    · rw [bin_lss, guard_true]
      refine iteI (fun g => ?_) (fun g => ?_)
      · have g : p < 0 := by simpa using g
        rw [bin_geq]
        exact j14 _ (fun e => ⟨g, by simpa using e⟩) hd3
      · exact j14 false (fun e => by cases e) hd3
  have j5 : d < 2 ^ 53 -> J146_5 env (i64 p) (f64 (wordR neg (rung (d * e1074) 1))) (.pv (.bool false)) σ K X := by
    intro hd3
    unfold J146_5
    simp only [lock_eq]
    rw [bin_eql, cond_bool]
    refine iteI (fun g => ?_) (fun g => ?_)
    · have g : p = 0 := by simpa using g
      subst g
      have e : wordR neg (rung (d * tn 0 * e1074) (td 0)) = wordR neg (rung (d * e1074) 1) := by
        show wordR neg (rung (d * 1 * e1074) 1) = _
        rw [Nat.mul_one]
      rw [e] at hT
      exact retV_self hT
    · rw [bin_gtr, guard_true]
      refine iteI (fun g => ?_) (fun g => ?_)
      · have g : 0 < p := by simpa using g
        rw [bin_leq]
        exact j8 _ ⟨fun e => ⟨g, by simpa using e⟩, fun e => by simpa using e.2⟩ hd3
      · have g : ¬ 0 < p := by simpa using g
        exact j8 false ⟨fun e => (by cases e), fun e => absurd e.1 g⟩ hd3
  rw [<- S146_eq env, S146]
  have fa : ∀ K : AV -> Prop, fieldAddrD PS 171 (.glob 7 0) 0 K = K (.glob 7 0) := fun K => fa_glob (o := 0) (u := 108) (by kernel_rfl) T.hT108 T.sz108
  have ld : ∀ K : AV -> Prop, loadD PS σ 108 (.glob 7 0) K = K (u64 52) := fun K => by rw [ld_glob T.hT108 T.ag108 g_finfo]; simp; exact Iff.rfl
  simp only [lock_eq, fa, ld]
  rw [show u64 52 = .pv (.int .u64 52) from rfl, shrI (y := 52) d 52 rfl (by decide), bin_neq, cond_bool]
  refine iteI (fun g => ?_) (fun g => ?_)
  · exact fail _
  · have g : d / 2 ^ 52 = 0 := by
      have : ((d / 2 ^ 52 : Nat) : Int) = 0 := by simpa using g
      omega
    have hd3 : d < 2 ^ 53 := by omega
    rw [T.cv37_22]
    have e1 : floatOfInt .f64 (d : Int) = wordR false (rung (d * e1074) 1) := by
      show double.write (.number (decide ((d : Int) < 0)) ((d : Int)).natAbs 0) = _
      rw [decide_eq_false (by omega), Int.natAbs_natCast]
      exact write_num false d 0 (by decide)
    rw [e1, cond_bool]
    refine iteI (fun g => ?_) (fun g => ?_)
    · subst g
      have e2 : Op.negFloat .f64 (wordR false (rung (d * e1074) 1)) = wordR true (rung (d * e1074) 1) := by
        have := neg_word (r := min (rung (d * e1074) 1) infR) (Nat.min_le_right ..)
        rw [wordR_min, wordR_min] at this
        exact this
      rw [un_fneg, e2]
      exact j5 hd3
    · rw [Bool.not_eq_true] at g
      subst g
      exact j5 hd3
end
end Go.AD.Fl

set_option linter.unusedVariables false
set_option maxRecDepth 100000
namespace Go.AD
open Go.Proofs.Tryz
def an210:An:={ mu:=[],cut:=[(1,[0]),(2,[0])],loop:=[(0,[0])] }
def J210_1 (env:Env) (I0:Nat->List AV->AS->Prop) (m0:Nat) (a0_j1:AV) (s:AS) (K:AV->AS->Prop) (X:PV->AS->Prop):Prop :=
 (lock nilD a0_j1 fun t21 =>
 (lock fieldAddrD prog 181 t21 1 fun t22 =>
 (lock loadD prog s 3 t22 fun t23 =>
 (lock binD prog .sub 3 t23 (.pv (.int .i64 1)) fun t24 =>
 (lock nilD a0_j1 fun t25 =>
 (lock fieldAddrD prog 181 t25 1 fun t26 =>
 (lock storeD prog s 3 t26 t24 fun s2 =>
 (∃ m',m' < m0/\I0 m' [a0_j1] s2))))))))
theorem J210_1_eq (env:Env) (I0:Nat->List AV->AS->Prop) (m0:Nat) (a0_j1:AV) (s:AS) (K:AV->AS->Prop) (X:PV->AS->Prop):J210_1 env I0 m0 a0_j1 s K X=cutK (fun fr s=>wpD prog env an210 (subC (bodyC f210) [0,0,0,1]) (contQ prog env an210 (bodyC f210) [0,0,0,1] [(I0,m0)] (rootQ prog f210 K X)) fr s) [(0,a0_j1)] s:=by
  unfold J210_1
  refine cutK_of ?_
  kernel_rfl
def J210_2 (env:Env)  (a0_j2:AV) (s:AS) (K:AV->AS->Prop) (X:PV->AS->Prop):Prop :=
 (lock nilD a0_j2 fun t28 =>
 (lock fieldAddrD prog 181 t28 1 fun t29 =>
 (lock loadD prog s 3 t29 fun t30 =>
 (lock binD prog .eql 3 t30 (.pv (.int .i64 0)) fun t31 =>
 (condD t31
 (lock nilD a0_j2 fun t33 =>
 (lock fieldAddrD prog 181 t33 2 fun t34 =>
 (lock storeD prog s 3 t34 (.pv (.int .i64 0)) fun s3 =>
 (retV (.tuple []) s3 K))))
 (retV (.tuple []) s K))))))
theorem J210_2_eq (env:Env)  (a0_j2:AV) (s:AS) (K:AV->AS->Prop) (X:PV->AS->Prop):J210_2 env  a0_j2 s K X=cutK (fun fr s=>wpD prog env an210 (subC (bodyC f210) [1]) (contQ prog env an210 (bodyC f210) [1] [] (rootQ prog f210 K X)) fr s) [(0,a0_j2)] s:=by
  unfold J210_2
  refine cutK_of ?_
  kernel_rfl
def L210_0 (env:Env) (I0:Nat->List AV->AS->Prop) (m0:Nat) (a0_l0:AV) (s:AS) (K:AV->AS->Prop) (X:PV->AS->Prop):Prop :=
 (lock nilD a0_l0 fun t3 =>
 (lock fieldAddrD prog 181 t3 1 fun t4 =>
 (lock loadD prog s 3 t4 fun t5 =>
 (lock binD prog .gtr 3 t5 (.pv (.int .i64 0)) fun t6 =>
 (guardD t6 true
 (lock nilD a0_l0 fun t10 =>
 (lock fieldAddrD prog 181 t10 1 fun t11 =>
 (lock loadD prog s 3 t11 fun t12 =>
 (lock binD prog .sub 3 t12 (.pv (.int .i64 1)) fun t13 =>
 (lock nilD a0_l0 fun t14 =>
 (lock fieldAddrD prog 181 t14 0 fun t15 =>
 (lock indexAddrD prog 179 t15 t13 fun t16 =>
 (lock loadD prog s 5 t16 fun t17 =>
 (lock binD prog .eql 5 t17 (.pv (.int .u8 48)) fun t18 =>
 (condD t18
 (J210_1 env I0 m0 (a0_l0) s K X)
 (J210_2 env  (a0_l0) s K X)))))))))))
 (J210_2 env  (a0_l0) s K X))))))
theorem L210_0_eq (env:Env) (I0:Nat->List AV->AS->Prop) (m0:Nat) (a0_l0:AV) (s:AS) (K:AV->AS->Prop) (X:PV->AS->Prop):L210_0 env I0 m0 a0_l0 s K X=wpD prog env an210 (subC (bodyC f210) [0,0,0]) (contQ prog env an210 (bodyC f210) [0,0,0] [(I0,m0)] (rootQ prog f210 K X)) [(0,a0_l0)] s:=by
  unfold L210_0
  simp only [J210_1_eq,J210_2_eq]
  kernel_rfl
theorem lp210_0 {α:Type} {env:Env}  {a0_l0:AV} {s:AS} {K:AV->AS->Prop} {X:PV->AS->Prop} (μ:α->AS->Nat) (I:α->AS->Prop) (a0:α) (h0:I a0 s)
 (h:∀ a s,I a s->L210_0 env  (Inv (fun a=>[a0_l0]) μ I) (μ a s) a0_l0 s K X) :
 ∃ I0:Nat->List AV->AS->Prop,(∃ m,I0 m [a0_l0] s)/\∀ (m:Nat) (x0:AV),∀ s,I0 m [x0] s ->
 L210_0 env  I0 m x0 s K X:=by
  refine ⟨Inv (fun a=>[a0_l0]) μ I,⟨_,a0,rfl,rfl,h0⟩,?_⟩
  rintro m x0 s' ⟨a,hv,rfl,hI⟩
  simp only [List.cons.injEq,and_true] at hv
  obtain rfl:=hv
  exact h a s' hI
def S210 (env:Env) (a0_a:AV) (s:AS) (K:AV->AS->Prop) (X:PV->AS->Prop):Prop :=
 (∃ I0:Nat->List AV->AS->Prop,(∃ m,I0 m [a0_a] s)/\∀ (m0:Nat) (a0_l0:AV),∀ s1,I0 m0 [a0_l0] s1 ->
 (L210_0 env I0 m0 a0_l0 s1 K X))
theorem S210_eq (env:Env) (a0_a:AV) (s:AS) (K:AV->AS->Prop) (X:PV->AS->Prop):S210 env a0_a s K X=bodyD prog env an210 f210 [a0_a] s K X:=by
  unfold S210
  simp only [L210_0_eq]
  kernel_rfl
theorem S210_ok:(match f210.body with | some c=>okCode an210 prog f210.ntmps c | none=>false)=true:=by kernel_rfl
def an201:An:={ mu:=[],cut:=[(13,[0,1,4,5,6])],loop:=[(3,[0,1,4,5,6]),(8,[0,1,4,5,6]),(15,[0,1,4,5,6,8]),(23,[0,1,5,6,8])] }
def L201_23 (env:Env) (I23:Nat->List AV->AS->Prop) (m23:Nat) (a0_l23 k1_l23 w5_l23 n6_l23 mask8_l23:AV) (s:AS) (K:AV->AS->Prop) (X:PV->AS->Prop):Prop :=
 (lock binD prog .gtr 108 n6_l23 (.pv (.int .u64 0)) fun t98 =>
 (condD t98
 (lock binD prog .shr 108 n6_l23 k1_l23 fun t101 =>
 (lock binD prog .and 108 n6_l23 mask8_l23 fun t104 =>
 (lock binD prog .lss 3 w5_l23 (.pv (.int .i64 800)) fun t106 =>
 (condD t106
 (lock binD prog .add 108 t101 (.pv (.int .u64 48)) fun t110 =>
 (lock convD prog s 108 5 t110 fun t111 =>
 (lock nilD a0_l23 fun t112 =>
 (lock fieldAddrD prog 181 t112 0 fun t113 =>
 (lock indexAddrD prog 179 t113 w5_l23 fun t114 =>
 (lock storeD prog s 5 t114 t111 fun s8 =>
 (lock binD prog .add 3 w5_l23 (.pv (.int .i64 1)) fun t116 =>
 (lock binD prog .mul 108 t104 (.pv (.int .u64 10)) fun t123 =>
 (∃ m',m' < m23/\I23 m' [a0_l23,k1_l23,t116,t123,mask8_l23] s8)))))))))
 (lock binD prog .gtr 108 t101 (.pv (.int .u64 0)) fun t118 =>
 (condD t118
 (lock nilD a0_l23 fun t120 =>
 (lock fieldAddrD prog 181 t120 4 fun t121 =>
 (lock storeD prog s 4 t121 (.pv (.bool true)) fun s9 =>
 (lock binD prog .mul 108 t104 (.pv (.int .u64 10)) fun t123 =>
 (∃ m',m' < m23/\I23 m' [a0_l23,k1_l23,w5_l23,t123,mask8_l23] s9)))))
 (lock binD prog .mul 108 t104 (.pv (.int .u64 10)) fun t123 =>
 (∃ m',m' < m23/\I23 m' [a0_l23,k1_l23,w5_l23,t123,mask8_l23] s))))))))
 (lock nilD a0_l23 fun t126 =>
 (lock fieldAddrD prog 181 t126 1 fun t127 =>
 (lock storeD prog s 3 t127 w5_l23 fun s10 =>
 (env 210 [a0_l23] s10 (fun t129 s11 =>
 (retV (.tuple []) s11 K)) (panV X)))))))
theorem L201_23_eq (env:Env) (I23:Nat->List AV->AS->Prop) (m23:Nat) (a0_l23 k1_l23 w5_l23 n6_l23 mask8_l23:AV) (s:AS) (K:AV->AS->Prop) (X:PV->AS->Prop):L201_23 env I23 m23 a0_l23 k1_l23 w5_l23 n6_l23 mask8_l23 s K X=wpD prog env an201 (subC (bodyC f201) [1,1,1,1,1,1,1,0,0,0]) (contQ prog env an201 (bodyC f201) [1,1,1,1,1,1,1,0,0,0] [(I23,m23)] (rootQ prog f201 K X)) [(0,a0_l23),(1,k1_l23),(5,w5_l23),(6,n6_l23),(8,mask8_l23)] s:=by
  unfold L201_23
  kernel_rfl
theorem lp201_23 {α:Type} {env:Env}  {a0_l23 k1_l23 mask8_l23:AV} {s:AS} {K:AV->AS->Prop} {X:PV->AS->Prop} (μ:α->AS->Nat) (I:α->AS->Prop) (ew5_l23 en6_l23:α->AV) (a0:α) (h0:I a0 s)
 (h:∀ a s,I a s->L201_23 env  (Inv (fun a=>[a0_l23,k1_l23,ew5_l23 a,en6_l23 a,mask8_l23]) μ I) (μ a s) a0_l23 k1_l23 (ew5_l23 a) (en6_l23 a) mask8_l23 s K X) :
 ∃ I23:Nat->List AV->AS->Prop,(∃ m,I23 m [a0_l23,k1_l23,ew5_l23 a0,en6_l23 a0,mask8_l23] s)/\∀ (m:Nat) (x0 x1 x2 x3 x4:AV),∀ s,I23 m [x0,x1,x2,x3,x4] s ->
 L201_23 env  I23 m x0 x1 x2 x3 x4 s K X:=by
  refine ⟨Inv (fun a=>[a0_l23,k1_l23,ew5_l23 a,en6_l23 a,mask8_l23]) μ I,⟨_,a0,rfl,rfl,h0⟩,?_⟩
  rintro m x0 x1 x2 x3 x4 s' ⟨a,hv,rfl,hI⟩
  simp only [List.cons.injEq,and_true] at hv
  obtain ⟨rfl,rfl,rfl,rfl,rfl⟩:=hv
  exact h a s' hI
def L201_15 (env:Env) (I15:Nat->List AV->AS->Prop) (m15:Nat) (a0_l15 k1_l15 r4_l15 w5_l15 n6_l15 mask8_l15:AV) (s:AS) (K:AV->AS->Prop) (X:PV->AS->Prop):Prop :=
 (lock nilD a0_l15 fun t63 =>
 (lock fieldAddrD prog 181 t63 1 fun t64 =>
 (lock loadD prog s 3 t64 fun t65 =>
 (lock binD prog .lss 3 r4_l15 t65 fun t66 =>
 (condD t66
 (lock nilD a0_l15 fun t71 =>
 (lock fieldAddrD prog 181 t71 0 fun t72 =>
 (lock indexAddrD prog 179 t72 r4_l15 fun t73 =>
 (lock loadD prog s 5 t73 fun t74 =>
 (lock convD prog s 5 108 t74 fun t75 =>
 (lock binD prog .shr 108 n6_l15 k1_l15 fun t78 =>
 (lock binD prog .and 108 n6_l15 mask8_l15 fun t81 =>
 (lock binD prog .add 108 t78 (.pv (.int .u64 48)) fun t85 =>
 (lock convD prog s 108 5 t85 fun t86 =>
 (lock nilD a0_l15 fun t87 =>
 (lock fieldAddrD prog 181 t87 0 fun t88 =>
 (lock indexAddrD prog 179 t88 w5_l15 fun t89 =>
 (lock storeD prog s 5 t89 t86 fun s6 =>
 (lock binD prog .add 3 w5_l15 (.pv (.int .i64 1)) fun t91 =>
 (lock binD prog .mul 108 t81 (.pv (.int .u64 10)) fun t93 =>
 (lock binD prog .add 108 t93 t75 fun t95 =>
 (lock binD prog .sub 108 t95 (.pv (.int .u64 48)) fun t96 =>
 (lock binD prog .add 3 r4_l15 (.pv (.int .i64 1)) fun t68 =>
 (∃ m',m' < m15/\I15 m' [a0_l15,k1_l15,t68,t91,t96,mask8_l15] s6)))))))))))))))))))
 (∃ I23:Nat->List AV->AS->Prop,(∃ m,I23 m [a0_l15,k1_l15,w5_l15,n6_l15,mask8_l15] s)/\∀ (m23:Nat) (a0_l23 k1_l23 w5_l23 n6_l23 mask8_l23:AV),∀ s7,I23 m23 [a0_l23,k1_l23,w5_l23,n6_l23,mask8_l23] s7 ->
 (L201_23 env I23 m23 a0_l23 k1_l23 w5_l23 n6_l23 mask8_l23 s7 K X)))))))
theorem L201_15_eq (env:Env) (I15:Nat->List AV->AS->Prop) (m15:Nat) (a0_l15 k1_l15 r4_l15 w5_l15 n6_l15 mask8_l15:AV) (s:AS) (K:AV->AS->Prop) (X:PV->AS->Prop):L201_15 env I15 m15 a0_l15 k1_l15 r4_l15 w5_l15 n6_l15 mask8_l15 s K X=wpD prog env an201 (subC (bodyC f201) [1,1,1,1,1,1,0,0,0]) (contQ prog env an201 (bodyC f201) [1,1,1,1,1,1,0,0,0] [(I15,m15)] (rootQ prog f201 K X)) [(0,a0_l15),(1,k1_l15),(4,r4_l15),(5,w5_l15),(6,n6_l15),(8,mask8_l15)] s:=by
  unfold L201_15
  simp only [L201_23_eq]
  kernel_rfl
theorem lp201_15 {α:Type} {env:Env}  {a0_l15 k1_l15 mask8_l15:AV} {s:AS} {K:AV->AS->Prop} {X:PV->AS->Prop} (μ:α->AS->Nat) (I:α->AS->Prop) (er4_l15 ew5_l15 en6_l15:α->AV) (a0:α) (h0:I a0 s)
 (h:∀ a s,I a s->L201_15 env  (Inv (fun a=>[a0_l15,k1_l15,er4_l15 a,ew5_l15 a,en6_l15 a,mask8_l15]) μ I) (μ a s) a0_l15 k1_l15 (er4_l15 a) (ew5_l15 a) (en6_l15 a) mask8_l15 s K X) :
 ∃ I15:Nat->List AV->AS->Prop,(∃ m,I15 m [a0_l15,k1_l15,er4_l15 a0,ew5_l15 a0,en6_l15 a0,mask8_l15] s)/\∀ (m:Nat) (x0 x1 x2 x3 x4 x5:AV),∀ s,I15 m [x0,x1,x2,x3,x4,x5] s ->
 L201_15 env  I15 m x0 x1 x2 x3 x4 x5 s K X:=by
  refine ⟨Inv (fun a=>[a0_l15,k1_l15,er4_l15 a,ew5_l15 a,en6_l15 a,mask8_l15]) μ I,⟨_,a0,rfl,rfl,h0⟩,?_⟩
  rintro m x0 x1 x2 x3 x4 x5 s' ⟨a,hv,rfl,hI⟩
  simp only [List.cons.injEq,and_true] at hv
  obtain ⟨rfl,rfl,rfl,rfl,rfl,rfl⟩:=hv
  exact h a s' hI
def J201_13 (env:Env)  (a0_j13 k1_j13 r4_j13 w5_j13 n6_j13:AV) (s:AS) (K:AV->AS->Prop) (X:PV->AS->Prop):Prop :=
 (lock nilD a0_j13 fun t50 =>
 (lock fieldAddrD prog 181 t50 2 fun t51 =>
 (lock loadD prog s 3 t51 fun t52 =>
 (lock binD prog .sub 3 r4_j13 (.pv (.int .i64 1)) fun t54 =>
 (lock binD prog .sub 3 t52 t54 fun t55 =>
 (lock nilD a0_j13 fun t56 =>
 (lock fieldAddrD prog 181 t56 2 fun t57 =>
 (lock storeD prog s 3 t57 t55 fun s4 =>
 (lock binD prog .shl 108 (.pv (.int .u64 1)) k1_j13 fun t59 =>
 (lock binD prog .sub 108 t59 (.pv (.int .u64 1)) fun t60 =>
 (∃ I15:Nat->List AV->AS->Prop,(∃ m,I15 m [a0_j13,k1_j13,r4_j13,w5_j13,n6_j13,t60] s4)/\∀ (m15:Nat) (a0_l15 k1_l15 r4_l15 w5_l15 n6_l15 mask8_l15:AV),∀ s5,I15 m15 [a0_l15,k1_l15,r4_l15,w5_l15,n6_l15,mask8_l15] s5 ->
 (L201_15 env I15 m15 a0_l15 k1_l15 r4_l15 w5_l15 n6_l15 mask8_l15 s5 K X))))))))))))
theorem J201_13_eq (env:Env)  (a0_j13 k1_j13 r4_j13 w5_j13 n6_j13:AV) (s:AS) (K:AV->AS->Prop) (X:PV->AS->Prop):J201_13 env  a0_j13 k1_j13 r4_j13 w5_j13 n6_j13 s K X=cutK (fun fr s=>wpD prog env an201 (subC (bodyC f201) [1,1,1,1]) (contQ prog env an201 (bodyC f201) [1,1,1,1] [] (rootQ prog f201 K X)) fr s) [(0,a0_j13),(1,k1_j13),(4,r4_j13),(5,w5_j13),(6,n6_j13)] s:=by
  unfold J201_13
  simp only [L201_15_eq]
  refine cutK_of ?_
  kernel_rfl
def L201_8 (env:Env) (I3:Nat->List AV->AS->Prop) (m3:Nat) (I8:Nat->List AV->AS->Prop) (m8:Nat) (a0_l8 k1_l8 r4_l8 w5_l8 n6_l8:AV) (s:AS) (K:AV->AS->Prop) (X:PV->AS->Prop):Prop :=
 (lock binD prog .shr 108 n6_l8 k1_l8 fun t31 =>
 (lock binD prog .eql 108 t31 (.pv (.int .u64 0)) fun t32 =>
 (condD t32
 (lock binD prog .mul 108 n6_l8 (.pv (.int .u64 10)) fun t34 =>
 (lock binD prog .add 3 r4_l8 (.pv (.int .i64 1)) fun t36 =>
 (∃ m',m' < m8/\I8 m' [a0_l8,k1_l8,t36,w5_l8,t34] s)))
 (J201_13 env  (a0_l8) (k1_l8) (r4_l8) (w5_l8) (n6_l8) s K X))))
theorem L201_8_eq (env:Env) (I3:Nat->List AV->AS->Prop) (m3:Nat) (I8:Nat->List AV->AS->Prop) (m8:Nat) (a0_l8 k1_l8 r4_l8 w5_l8 n6_l8:AV) (s:AS) (K:AV->AS->Prop) (X:PV->AS->Prop):L201_8 env I3 m3 I8 m8 a0_l8 k1_l8 r4_l8 w5_l8 n6_l8 s K X=wpD prog env an201 (subC (bodyC f201) [1,1,1,0,0,0,1,0,0,0,1,0,1,0,0,0]) (contQ prog env an201 (bodyC f201) [1,1,1,0,0,0,1,0,0,0,1,0,1,0,0,0] [(I3,m3),(I8,m8)] (rootQ prog f201 K X)) [(0,a0_l8),(1,k1_l8),(4,r4_l8),(5,w5_l8),(6,n6_l8)] s:=by
  unfold L201_8
  simp only [J201_13_eq]
  kernel_rfl
theorem lp201_8 {α:Type} {env:Env} {I3:Nat->List AV->AS->Prop} {m3:Nat} {a0_l8 k1_l8 w5_l8:AV} {s:AS} {K:AV->AS->Prop} {X:PV->AS->Prop} (μ:α->AS->Nat) (I:α->AS->Prop) (er4_l8 en6_l8:α->AV) (a0:α) (h0:I a0 s)
 (h:∀ a s,I a s->L201_8 env I3 m3 (Inv (fun a=>[a0_l8,k1_l8,er4_l8 a,w5_l8,en6_l8 a]) μ I) (μ a s) a0_l8 k1_l8 (er4_l8 a) w5_l8 (en6_l8 a) s K X) :
 ∃ I8:Nat->List AV->AS->Prop,(∃ m,I8 m [a0_l8,k1_l8,er4_l8 a0,w5_l8,en6_l8 a0] s)/\∀ (m:Nat) (x0 x1 x2 x3 x4:AV),∀ s,I8 m [x0,x1,x2,x3,x4] s ->
 L201_8 env I3 m3 I8 m x0 x1 x2 x3 x4 s K X:=by
  refine ⟨Inv (fun a=>[a0_l8,k1_l8,er4_l8 a,w5_l8,en6_l8 a]) μ I,⟨_,a0,rfl,rfl,h0⟩,?_⟩
  rintro m x0 x1 x2 x3 x4 s' ⟨a,hv,rfl,hI⟩
  simp only [List.cons.injEq,and_true] at hv
  obtain ⟨rfl,rfl,rfl,rfl,rfl⟩:=hv
  exact h a s' hI
def L201_3 (env:Env) (I3:Nat->List AV->AS->Prop) (m3:Nat) (a0_l3 k1_l3 r4_l3 w5_l3 n6_l3:AV) (s:AS) (K:AV->AS->Prop) (X:PV->AS->Prop):Prop :=
 (lock binD prog .shr 108 n6_l3 k1_l3 fun t14 =>
 (lock binD prog .eql 108 t14 (.pv (.int .u64 0)) fun t15 =>
 (condD t15
 (lock nilD a0_l3 fun t20 =>
 (lock fieldAddrD prog 181 t20 1 fun t21 =>
 (lock loadD prog s 3 t21 fun t22 =>
 (lock binD prog .geq 3 r4_l3 t22 fun t23 =>
 (condD t23
 (lock binD prog .eql 108 n6_l3 (.pv (.int .u64 0)) fun t25 =>
 (condD t25
 (lock nilD a0_l3 fun t27 =>
 (lock fieldAddrD prog 181 t27 1 fun t28 =>
 (lock storeD prog s 3 t28 (.pv (.int .i64 0)) fun s2 =>
 (retV (.tuple []) s2 K))))
 (∃ I8:Nat->List AV->AS->Prop,(∃ m,I8 m [a0_l3,k1_l3,r4_l3,w5_l3,n6_l3] s)/\∀ (m8:Nat) (a0_l8 k1_l8 r4_l8 w5_l8 n6_l8:AV),∀ s3,I8 m8 [a0_l8,k1_l8,r4_l8,w5_l8,n6_l8] s3 ->
 (L201_8 env I3 m3 I8 m8 a0_l8 k1_l8 r4_l8 w5_l8 n6_l8 s3 K X))))
 (lock nilD a0_l3 fun t39 =>
 (lock fieldAddrD prog 181 t39 0 fun t40 =>
 (lock indexAddrD prog 179 t40 r4_l3 fun t41 =>
 (lock loadD prog s 5 t41 fun t42 =>
 (lock convD prog s 5 108 t42 fun t43 =>
 (lock binD prog .mul 108 n6_l3 (.pv (.int .u64 10)) fun t45 =>
 (lock binD prog .add 108 t45 t43 fun t47 =>
 (lock binD prog .sub 108 t47 (.pv (.int .u64 48)) fun t48 =>
 (lock binD prog .add 3 r4_l3 (.pv (.int .i64 1)) fun t17 =>
 (∃ m',m' < m3/\I3 m' [a0_l3,k1_l3,t17,w5_l3,t48] s)))))))))))))))
 (J201_13 env  (a0_l3) (k1_l3) (r4_l3) (w5_l3) (n6_l3) s K X))))
theorem L201_3_eq (env:Env) (I3:Nat->List AV->AS->Prop) (m3:Nat) (a0_l3 k1_l3 r4_l3 w5_l3 n6_l3:AV) (s:AS) (K:AV->AS->Prop) (X:PV->AS->Prop):L201_3 env I3 m3 a0_l3 k1_l3 r4_l3 w5_l3 n6_l3 s K X=wpD prog env an201 (subC (bodyC f201) [1,1,1,0,0,0]) (contQ prog env an201 (bodyC f201) [1,1,1,0,0,0] [(I3,m3)] (rootQ prog f201 K X)) [(0,a0_l3),(1,k1_l3),(4,r4_l3),(5,w5_l3),(6,n6_l3)] s:=by
  unfold L201_3
  simp only [J201_13_eq,L201_8_eq]
  kernel_rfl
theorem lp201_3 {α:Type} {env:Env}  {a0_l3 k1_l3 w5_l3:AV} {s:AS} {K:AV->AS->Prop} {X:PV->AS->Prop} (μ:α->AS->Nat) (I:α->AS->Prop) (er4_l3 en6_l3:α->AV) (a0:α) (h0:I a0 s)
 (h:∀ a s,I a s->L201_3 env  (Inv (fun a=>[a0_l3,k1_l3,er4_l3 a,w5_l3,en6_l3 a]) μ I) (μ a s) a0_l3 k1_l3 (er4_l3 a) w5_l3 (en6_l3 a) s K X) :
 ∃ I3:Nat->List AV->AS->Prop,(∃ m,I3 m [a0_l3,k1_l3,er4_l3 a0,w5_l3,en6_l3 a0] s)/\∀ (m:Nat) (x0 x1 x2 x3 x4:AV),∀ s,I3 m [x0,x1,x2,x3,x4] s ->
 L201_3 env  I3 m x0 x1 x2 x3 x4 s K X:=by
  refine ⟨Inv (fun a=>[a0_l3,k1_l3,er4_l3 a,w5_l3,en6_l3 a]) μ I,⟨_,a0,rfl,rfl,h0⟩,?_⟩
  rintro m x0 x1 x2 x3 x4 s' ⟨a,hv,rfl,hI⟩
  simp only [List.cons.injEq,and_true] at hv
  obtain ⟨rfl,rfl,rfl,rfl,rfl⟩:=hv
  exact h a s' hI
def S201 (env:Env) (a0_a k1_a:AV) (s:AS) (K:AV->AS->Prop) (X:PV->AS->Prop):Prop :=
 (∃ I3:Nat->List AV->AS->Prop,(∃ m,I3 m [a0_a,k1_a,(.pv (.int .i64 0)),(.pv (.int .i64 0)),(.pv (.int .u64 0))] s)/\∀ (m3:Nat) (a0_l3 k1_l3 r4_l3 w5_l3 n6_l3:AV),∀ s1,I3 m3 [a0_l3,k1_l3,r4_l3,w5_l3,n6_l3] s1 ->
 (L201_3 env I3 m3 a0_l3 k1_l3 r4_l3 w5_l3 n6_l3 s1 K X))
theorem S201_eq (env:Env) (a0_a k1_a:AV) (s:AS) (K:AV->AS->Prop) (X:PV->AS->Prop):S201 env a0_a k1_a s K X=bodyD prog env an201 f201 [a0_a,k1_a] s K X:=by
  unfold S201
  simp only [L201_3_eq]
  kernel_rfl
theorem S201_ok:(match f201.body with | some c=>okCode an201 prog f201.ntmps c | none=>false)=true:=by kernel_rfl
def an218:An:={ mu:=[],cut:=[],loop:=[(2,[0,1,5])] }
def L218_2 (env:Env) (I2:Nat->List AV->AS->Prop) (m2:Nat) (b0_l2 s1_l2 i5_l2:AV) (s:AS) (K:AV->AS->Prop) (X:PV->AS->Prop):Prop :=
 (lock lenD prog 9 s1_l2 fun t8 =>
 (lock binD prog .lss 3 i5_l2 t8 fun t9 =>
 (condD t9
 (lock lenD prog 141 b0_l2 fun t14 =>
 (lock binD prog .geq 3 i5_l2 t14 fun t15 =>
 (condD t15
 (retV ((.pv (.bool true))) s K)
 (lock indexAddrD prog 141 b0_l2 i5_l2 fun t18 =>
 (lock loadD prog s 5 t18 fun t19 =>
 (lock indexD prog 9 s1_l2 i5_l2 fun t22 =>
 (lock binD prog .neq 5 t19 t22 fun t23 =>
 (condD t23
 (lock indexAddrD prog 141 b0_l2 i5_l2 fun t26 =>
 (lock loadD prog s 5 t26 fun t27 =>
 (lock indexD prog 9 s1_l2 i5_l2 fun t30 =>
 (lock binD prog .lss 5 t27 t30 fun t31 =>
 (retV (t31) s K)))))
 (lock binD prog .add 3 i5_l2 (.pv (.int .i64 1)) fun t11 =>
 (∃ m',m' < m2/\I2 m' [b0_l2,s1_l2,t11] s))))))))))
 (retV ((.pv (.bool false))) s K))))
theorem L218_2_eq (env:Env) (I2:Nat->List AV->AS->Prop) (m2:Nat) (b0_l2 s1_l2 i5_l2:AV) (s:AS) (K:AV->AS->Prop) (X:PV->AS->Prop):L218_2 env I2 m2 b0_l2 s1_l2 i5_l2 s K X=wpD prog env an218 (subC (bodyC f218) [1,0,1,0,0]) (contQ prog env an218 (bodyC f218) [1,0,1,0,0] [(I2,m2)] (rootQ prog f218 K X)) [(0,b0_l2),(1,s1_l2),(5,i5_l2)] s:=by
  unfold L218_2
  kernel_rfl
theorem lp218_2 {α:Type} {env:Env}  {b0_l2 s1_l2:AV} {s:AS} {K:AV->AS->Prop} {X:PV->AS->Prop} (μ:α->AS->Nat) (I:α->AS->Prop) (ei5_l2:α->AV) (a0:α) (h0:I a0 s)
 (h:∀ a s,I a s->L218_2 env  (Inv (fun a=>[b0_l2,s1_l2,ei5_l2 a]) μ I) (μ a s) b0_l2 s1_l2 (ei5_l2 a) s K X) :
 ∃ I2:Nat->List AV->AS->Prop,(∃ m,I2 m [b0_l2,s1_l2,ei5_l2 a0] s)/\∀ (m:Nat) (x0 x1 x2:AV),∀ s,I2 m [x0,x1,x2] s ->
 L218_2 env  I2 m x0 x1 x2 s K X:=by
  refine ⟨Inv (fun a=>[b0_l2,s1_l2,ei5_l2 a]) μ I,⟨_,a0,rfl,rfl,h0⟩,?_⟩
  rintro m x0 x1 x2 s' ⟨a,hv,rfl,hI⟩
  simp only [List.cons.injEq,and_true] at hv
  obtain ⟨rfl,rfl,rfl⟩:=hv
  exact h a s' hI
def S218 (env:Env) (b0_a s1_a:AV) (s:AS) (K:AV->AS->Prop) (X:PV->AS->Prop):Prop :=
 (∃ I2:Nat->List AV->AS->Prop,(∃ m,I2 m [b0_a,s1_a,(.pv (.int .i64 0))] s)/\∀ (m2:Nat) (b0_l2 s1_l2 i5_l2:AV),∀ s1,I2 m2 [b0_l2,s1_l2,i5_l2] s1 ->
 (L218_2 env I2 m2 b0_l2 s1_l2 i5_l2 s1 K X))
theorem S218_eq (env:Env) (b0_a s1_a:AV) (s:AS) (K:AV->AS->Prop) (X:PV->AS->Prop):S218 env b0_a s1_a s K X=bodyD prog env an218 f218 [b0_a,s1_a] s K X:=by
  unfold S218
  simp only [L218_2_eq]
  kernel_rfl
theorem S218_ok:(match f218.body with | some c=>okCode an218 prog f218.ntmps c | none=>false)=true:=by kernel_rfl
def an200:An:={ mu:=[],cut:=[(3,[0,1,4]),(30,[0,4])],loop:=[(7,[0,1,4,5,6,7]),(18,[0,4,6,7])] }
def J200_30 (env:Env)  (a0_j30 delta4_j30:AV) (s:AS) (K:AV->AS->Prop) (X:PV->AS->Prop):Prop :=
 (lock nilD a0_j30 fun t128 =>
 (lock fieldAddrD prog 181 t128 2 fun t129 =>
 (lock loadD prog s 3 t129 fun t130 =>
 (lock binD prog .add 3 t130 delta4_j30 fun t132 =>
 (lock nilD a0_j30 fun t133 =>
 (lock fieldAddrD prog 181 t133 2 fun t134 =>
 (lock storeD prog s 3 t134 t132 fun s10 =>
 (env 210 [a0_j30] s10 (fun t136 s11 =>
 (retV (.tuple []) s11 K)) (panV X)))))))))
theorem J200_30_eq (env:Env)  (a0_j30 delta4_j30:AV) (s:AS) (K:AV->AS->Prop) (X:PV->AS->Prop):J200_30 env  a0_j30 delta4_j30 s K X=cutK (fun fr s=>wpD prog env an200 (subC (bodyC f200) [1,1,1,1,1,1,1,1,1]) (contQ prog env an200 (bodyC f200) [1,1,1,1,1,1,1,1,1] [] (rootQ prog f200 K X)) fr s) [(0,a0_j30),(4,delta4_j30)] s:=by
  unfold J200_30
  refine cutK_of ?_
  kernel_rfl
def L200_18 (env:Env) (I18:Nat->List AV->AS->Prop) (m18:Nat) (a0_l18 delta4_l18 w6_l18 n7_l18:AV) (s:AS) (K:AV->AS->Prop) (X:PV->AS->Prop):Prop :=
 (lock binD prog .gtr 108 n7_l18 (.pv (.int .u64 0)) fun t86 =>
 (condD t86
 (lock binD prog .quo 108 n7_l18 (.pv (.int .u64 10)) fun t88 =>
 (lock binD prog .mul 108 (.pv (.int .u64 10)) t88 fun t91 =>
 (lock binD prog .sub 108 n7_l18 t91 fun t92 =>
 (lock binD prog .sub 3 w6_l18 (.pv (.int .i64 1)) fun t94 =>
 (lock binD prog .lss 3 t94 (.pv (.int .i64 800)) fun t96 =>
 (condD t96
 (lock binD prog .add 108 t92 (.pv (.int .u64 48)) fun t100 =>
 (lock convD prog s 108 5 t100 fun t101 =>
 (lock nilD a0_l18 fun t102 =>
 (lock fieldAddrD prog 181 t102 0 fun t103 =>
 (lock indexAddrD prog 179 t103 t94 fun t104 =>
 (lock storeD prog s 5 t104 t101 fun s6 =>
 (∃ m',m' < m18/\I18 m' [a0_l18,delta4_l18,t94,t88] s6)))))))
 (lock binD prog .neq 108 t92 (.pv (.int .u64 0)) fun t106 =>
 (condD t106
 (lock nilD a0_l18 fun t108 =>
 (lock fieldAddrD prog 181 t108 4 fun t109 =>
 (lock storeD prog s 4 t109 (.pv (.bool true)) fun s7 =>
 (∃ m',m' < m18/\I18 m' [a0_l18,delta4_l18,t94,t88] s7))))
 (∃ m',m' < m18/\I18 m' [a0_l18,delta4_l18,t94,t88] s)))))))))
 (lock nilD a0_l18 fun t112 =>
 (lock fieldAddrD prog 181 t112 1 fun t113 =>
 (lock loadD prog s 3 t113 fun t114 =>
 (lock binD prog .add 3 t114 delta4_l18 fun t116 =>
 (lock nilD a0_l18 fun t117 =>
 (lock fieldAddrD prog 181 t117 1 fun t118 =>
 (lock storeD prog s 3 t118 t116 fun s8 =>
 (lock nilD a0_l18 fun t120 =>
 (lock fieldAddrD prog 181 t120 1 fun t121 =>
 (lock loadD prog s8 3 t121 fun t122 =>
 (lock binD prog .geq 3 t122 (.pv (.int .i64 800)) fun t123 =>
 (condD t123
 (lock nilD a0_l18 fun t125 =>
 (lock fieldAddrD prog 181 t125 1 fun t126 =>
 (lock storeD prog s8 3 t126 (.pv (.int .i64 800)) fun s9 =>
 (J200_30 env  (a0_l18) (delta4_l18) s9 K X))))
 (J200_30 env  (a0_l18) (delta4_l18) s8 K X)))))))))))))))
theorem L200_18_eq (env:Env) (I18:Nat->List AV->AS->Prop) (m18:Nat) (a0_l18 delta4_l18 w6_l18 n7_l18:AV) (s:AS) (K:AV->AS->Prop) (X:PV->AS->Prop):L200_18 env I18 m18 a0_l18 delta4_l18 w6_l18 n7_l18 s K X=wpD prog env an200 (subC (bodyC f200) [1,1,1,1,1,1,0,0,0]) (contQ prog env an200 (bodyC f200) [1,1,1,1,1,1,0,0,0] [(I18,m18)] (rootQ prog f200 K X)) [(0,a0_l18),(4,delta4_l18),(6,w6_l18),(7,n7_l18)] s:=by
  unfold L200_18
  simp only [J200_30_eq]
  kernel_rfl
theorem lp200_18 {α:Type} {env:Env}  {a0_l18 delta4_l18:AV} {s:AS} {K:AV->AS->Prop} {X:PV->AS->Prop} (μ:α->AS->Nat) (I:α->AS->Prop) (ew6_l18 en7_l18:α->AV) (a0:α) (h0:I a0 s)
 (h:∀ a s,I a s->L200_18 env  (Inv (fun a=>[a0_l18,delta4_l18,ew6_l18 a,en7_l18 a]) μ I) (μ a s) a0_l18 delta4_l18 (ew6_l18 a) (en7_l18 a) s K X) :
 ∃ I18:Nat->List AV->AS->Prop,(∃ m,I18 m [a0_l18,delta4_l18,ew6_l18 a0,en7_l18 a0] s)/\∀ (m:Nat) (x0 x1 x2 x3:AV),∀ s,I18 m [x0,x1,x2,x3] s ->
 L200_18 env  I18 m x0 x1 x2 x3 s K X:=by
  refine ⟨Inv (fun a=>[a0_l18,delta4_l18,ew6_l18 a,en7_l18 a]) μ I,⟨_,a0,rfl,rfl,h0⟩,?_⟩
  rintro m x0 x1 x2 x3 s' ⟨a,hv,rfl,hI⟩
  simp only [List.cons.injEq,and_true] at hv
  obtain ⟨rfl,rfl,rfl,rfl⟩:=hv
  exact h a s' hI
def L200_7 (env:Env) (I7:Nat->List AV->AS->Prop) (m7:Nat) (a0_l7 k1_l7 delta4_l7 r5_l7 w6_l7 n7_l7:AV) (s:AS) (K:AV->AS->Prop) (X:PV->AS->Prop):Prop :=
 (lock binD prog .geq 3 r5_l7 (.pv (.int .i64 0)) fun t46 =>
 (condD t46
 (lock nilD a0_l7 fun t52 =>
 (lock fieldAddrD prog 181 t52 0 fun t53 =>
 (lock indexAddrD prog 179 t53 r5_l7 fun t54 =>
 (lock loadD prog s 5 t54 fun t55 =>
 (lock convD prog s 5 108 t55 fun t56 =>
 (lock binD prog .sub 108 t56 (.pv (.int .u64 48)) fun t57 =>
 (lock binD prog .shl 108 t57 k1_l7 fun t59 =>
 (lock binD prog .add 108 n7_l7 t59 fun t60 =>
 (lock binD prog .quo 108 t60 (.pv (.int .u64 10)) fun t62 =>
 (lock binD prog .mul 108 (.pv (.int .u64 10)) t62 fun t65 =>
 (lock binD prog .sub 108 t60 t65 fun t66 =>
 (lock binD prog .sub 3 w6_l7 (.pv (.int .i64 1)) fun t68 =>
 (lock binD prog .lss 3 t68 (.pv (.int .i64 800)) fun t70 =>
 (condD t70
 (lock binD prog .add 108 t66 (.pv (.int .u64 48)) fun t74 =>
 (lock convD prog s 108 5 t74 fun t75 =>
 (lock nilD a0_l7 fun t76 =>
 (lock fieldAddrD prog 181 t76 0 fun t77 =>
 (lock indexAddrD prog 179 t77 t68 fun t78 =>
 (lock storeD prog s 5 t78 t75 fun s3 =>
 (lock binD prog .sub 3 r5_l7 (.pv (.int .i64 1)) fun t48 =>
 (∃ m',m' < m7/\I7 m' [a0_l7,k1_l7,delta4_l7,t48,t68,t62] s3))))))))
 (lock binD prog .neq 108 t66 (.pv (.int .u64 0)) fun t80 =>
 (condD t80
 (lock nilD a0_l7 fun t82 =>
 (lock fieldAddrD prog 181 t82 4 fun t83 =>
 (lock storeD prog s 4 t83 (.pv (.bool true)) fun s4 =>
 (lock binD prog .sub 3 r5_l7 (.pv (.int .i64 1)) fun t48 =>
 (∃ m',m' < m7/\I7 m' [a0_l7,k1_l7,delta4_l7,t48,t68,t62] s4)))))
 (lock binD prog .sub 3 r5_l7 (.pv (.int .i64 1)) fun t48 =>
 (∃ m',m' < m7/\I7 m' [a0_l7,k1_l7,delta4_l7,t48,t68,t62] s))))))))))))))))))
 (∃ I18:Nat->List AV->AS->Prop,(∃ m,I18 m [a0_l7,delta4_l7,w6_l7,n7_l7] s)/\∀ (m18:Nat) (a0_l18 delta4_l18 w6_l18 n7_l18:AV),∀ s5,I18 m18 [a0_l18,delta4_l18,w6_l18,n7_l18] s5 ->
 (L200_18 env I18 m18 a0_l18 delta4_l18 w6_l18 n7_l18 s5 K X))))
theorem L200_7_eq (env:Env) (I7:Nat->List AV->AS->Prop) (m7:Nat) (a0_l7 k1_l7 delta4_l7 r5_l7 w6_l7 n7_l7:AV) (s:AS) (K:AV->AS->Prop) (X:PV->AS->Prop):L200_7 env I7 m7 a0_l7 k1_l7 delta4_l7 r5_l7 w6_l7 n7_l7 s K X=wpD prog env an200 (subC (bodyC f200) [1,1,1,1,1,0,1,0,0]) (contQ prog env an200 (bodyC f200) [1,1,1,1,1,0,1,0,0] [(I7,m7)] (rootQ prog f200 K X)) [(0,a0_l7),(1,k1_l7),(4,delta4_l7),(5,r5_l7),(6,w6_l7),(7,n7_l7)] s:=by
  unfold L200_7
  simp only [L200_18_eq]
  kernel_rfl
theorem lp200_7 {α:Type} {env:Env}  {a0_l7 k1_l7 delta4_l7:AV} {s:AS} {K:AV->AS->Prop} {X:PV->AS->Prop} (μ:α->AS->Nat) (I:α->AS->Prop) (er5_l7 ew6_l7 en7_l7:α->AV) (a0:α) (h0:I a0 s)
 (h:∀ a s,I a s->L200_7 env  (Inv (fun a=>[a0_l7,k1_l7,delta4_l7,er5_l7 a,ew6_l7 a,en7_l7 a]) μ I) (μ a s) a0_l7 k1_l7 delta4_l7 (er5_l7 a) (ew6_l7 a) (en7_l7 a) s K X) :
 ∃ I7:Nat->List AV->AS->Prop,(∃ m,I7 m [a0_l7,k1_l7,delta4_l7,er5_l7 a0,ew6_l7 a0,en7_l7 a0] s)/\∀ (m:Nat) (x0 x1 x2 x3 x4 x5:AV),∀ s,I7 m [x0,x1,x2,x3,x4,x5] s ->
 L200_7 env  I7 m x0 x1 x2 x3 x4 x5 s K X:=by
  refine ⟨Inv (fun a=>[a0_l7,k1_l7,delta4_l7,er5_l7 a,ew6_l7 a,en7_l7 a]) μ I,⟨_,a0,rfl,rfl,h0⟩,?_⟩
  rintro m x0 x1 x2 x3 x4 x5 s' ⟨a,hv,rfl,hI⟩
  simp only [List.cons.injEq,and_true] at hv
  obtain ⟨rfl,rfl,rfl,rfl,rfl,rfl⟩:=hv
  exact h a s' hI
def J200_3 (env:Env)  (a0_j3 k1_j3 delta4_j3:AV) (s:AS) (K:AV->AS->Prop) (X:PV->AS->Prop):Prop :=
 (lock nilD a0_j3 fun t34 =>
 (lock fieldAddrD prog 181 t34 1 fun t35 =>
 (lock loadD prog s 3 t35 fun t36 =>
 (lock nilD a0_j3 fun t38 =>
 (lock fieldAddrD prog 181 t38 1 fun t39 =>
 (lock loadD prog s 3 t39 fun t40 =>
 (lock binD prog .add 3 t40 delta4_j3 fun t42 =>
 (lock binD prog .sub 3 t36 (.pv (.int .i64 1)) fun t44 =>
 (∃ I7:Nat->List AV->AS->Prop,(∃ m,I7 m [a0_j3,k1_j3,delta4_j3,t44,t42,(.pv (.int .u64 0))] s)/\∀ (m7:Nat) (a0_l7 k1_l7 delta4_l7 r5_l7 w6_l7 n7_l7:AV),∀ s2,I7 m7 [a0_l7,k1_l7,delta4_l7,r5_l7,w6_l7,n7_l7] s2 ->
 (L200_7 env I7 m7 a0_l7 k1_l7 delta4_l7 r5_l7 w6_l7 n7_l7 s2 K X))))))))))
theorem J200_3_eq (env:Env)  (a0_j3 k1_j3 delta4_j3:AV) (s:AS) (K:AV->AS->Prop) (X:PV->AS->Prop):J200_3 env  a0_j3 k1_j3 delta4_j3 s K X=cutK (fun fr s=>wpD prog env an200 (subC (bodyC f200) [1,1]) (contQ prog env an200 (bodyC f200) [1,1] [] (rootQ prog f200 K X)) fr s) [(0,a0_j3),(1,k1_j3),(4,delta4_j3)] s:=by
  unfold J200_3
  simp only [L200_7_eq]
  refine cutK_of ?_
  kernel_rfl
def S200 (env:Env) (a0_a k1_a:AV) (s:AS) (K:AV->AS->Prop) (X:PV->AS->Prop):Prop :=
 (lock loadD prog s 257 (.glob 17 0) fun t12 =>
 (lock indexAddrD prog 257 t12 k1_a fun t14 =>
 (lock fieldAddrD prog 256 t14 0 fun t15 =>
 (lock loadD prog s 3 t15 fun t16 =>
 (lock nilD a0_a fun t18 =>
 (lock fieldAddrD prog 181 t18 0 fun t19 =>
 (lock nilD a0_a fun t21 =>
 (lock fieldAddrD prog 181 t21 1 fun t22 =>
 (lock loadD prog s 3 t22 fun t23 =>
 (lock arrS prog s 179 t19 (some (.pv (.int .i64 0))) (some t23) fun t24 =>
 (lock loadD prog s 257 (.glob 17 0) fun t25 =>
 (lock indexAddrD prog 257 t25 k1_a fun t27 =>
 (lock fieldAddrD prog 256 t27 1 fun t28 =>
 (lock loadD prog s 9 t28 fun t29 =>
 (env 218 [t24,t29] s (fun t30 s1 =>
 (condD t30
 (lock binD prog .sub 3 t16 (.pv (.int .i64 1)) fun t32 =>
 (J200_3 env  (a0_a) (k1_a) (t32) s1 K X))
 (J200_3 env  (a0_a) (k1_a) (t16) s1 K X))) (panV X))))))))))))))))
theorem S200_eq (env:Env) (a0_a k1_a:AV) (s:AS) (K:AV->AS->Prop) (X:PV->AS->Prop):S200 env a0_a k1_a s K X=bodyD prog env an200 f200 [a0_a,k1_a] s K X:=by
  unfold S200
  simp only [J200_3_eq]
  kernel_rfl
theorem S200_ok:(match f200.body with | some c=>okCode an200 prog f200.ntmps c | none=>false)=true:=by kernel_rfl
def an178:An:={ mu:=[],cut:=[],loop:=[(2,[0,1]),(7,[0,1])] }
def L178_2 (env:Env) (I2:Nat->List AV->AS->Prop) (m2:Nat) (a0_l2 k1_l2:AV) (s:AS) (K:AV->AS->Prop) (X:PV->AS->Prop):Prop :=
 (lock binD prog .gtr 3 k1_l2 (.pv (.int .i64 60)) fun t14 =>
 (condD t14
 (env 200 [a0_l2,(.pv (.int .u64 60))] s (fun t16 s2 =>
 (lock binD prog .sub 3 k1_l2 (.pv (.int .i64 60)) fun t18 =>
 (∃ m',m' < m2/\I2 m' [a0_l2,t18] s2))) (panV X))
 (lock convD prog s 3 108 k1_l2 fun t21 =>
 (env 200 [a0_l2,t21] s (fun t22 s3 =>
 (retV (.tuple []) s3 K)) (panV X)))))
theorem L178_2_eq (env:Env) (I2:Nat->List AV->AS->Prop) (m2:Nat) (a0_l2 k1_l2:AV) (s:AS) (K:AV->AS->Prop) (X:PV->AS->Prop):L178_2 env I2 m2 a0_l2 k1_l2 s K X=wpD prog env an178 (subC (bodyC f178) [0,1,1,1,0,0,0,0]) (contQ prog env an178 (bodyC f178) [0,1,1,1,0,0,0,0] [(I2,m2)] (rootQ prog f178 K X)) [(0,a0_l2),(1,k1_l2)] s:=by
  unfold L178_2
  kernel_rfl
theorem lp178_2 {α:Type} {env:Env}  {a0_l2:AV} {s:AS} {K:AV->AS->Prop} {X:PV->AS->Prop} (μ:α->AS->Nat) (I:α->AS->Prop) (ek1_l2:α->AV) (a0:α) (h0:I a0 s)
 (h:∀ a s,I a s->L178_2 env  (Inv (fun a=>[a0_l2,ek1_l2 a]) μ I) (μ a s) a0_l2 (ek1_l2 a) s K X) :
 ∃ I2:Nat->List AV->AS->Prop,(∃ m,I2 m [a0_l2,ek1_l2 a0] s)/\∀ (m:Nat) (x0 x1:AV),∀ s,I2 m [x0,x1] s ->
 L178_2 env  I2 m x0 x1 s K X:=by
  refine ⟨Inv (fun a=>[a0_l2,ek1_l2 a]) μ I,⟨_,a0,rfl,rfl,h0⟩,?_⟩
  rintro m x0 x1 s' ⟨a,hv,rfl,hI⟩
  simp only [List.cons.injEq,and_true] at hv
  obtain ⟨rfl,rfl⟩:=hv
  exact h a s' hI
def L178_7 (env:Env) (I7:Nat->List AV->AS->Prop) (m7:Nat) (a0_l7 k1_l7:AV) (s:AS) (K:AV->AS->Prop) (X:PV->AS->Prop):Prop :=
 (lock binD prog .lss 3 k1_l7 (.pv (.int .i64 (-60))) fun t27 =>
 (condD t27
 (env 201 [a0_l7,(.pv (.int .u64 60))] s (fun t29 s5 =>
 (lock binD prog .add 3 k1_l7 (.pv (.int .i64 60)) fun t31 =>
 (∃ m',m' < m7/\I7 m' [a0_l7,t31] s5))) (panV X))
 (unD .neg k1_l7 fun t34 =>
 (lock convD prog s 3 108 t34 fun t35 =>
 (env 201 [a0_l7,t35] s (fun t36 s6 =>
 (retV (.tuple []) s6 K)) (panV X))))))
theorem L178_7_eq (env:Env) (I7:Nat->List AV->AS->Prop) (m7:Nat) (a0_l7 k1_l7:AV) (s:AS) (K:AV->AS->Prop) (X:PV->AS->Prop):L178_7 env I7 m7 a0_l7 k1_l7 s K X=wpD prog env an178 (subC (bodyC f178) [0,1,1,1,1,1,0,0,0,0]) (contQ prog env an178 (bodyC f178) [0,1,1,1,1,1,0,0,0,0] [(I7,m7)] (rootQ prog f178 K X)) [(0,a0_l7),(1,k1_l7)] s:=by
  unfold L178_7
  kernel_rfl
theorem lp178_7 {α:Type} {env:Env}  {a0_l7:AV} {s:AS} {K:AV->AS->Prop} {X:PV->AS->Prop} (μ:α->AS->Nat) (I:α->AS->Prop) (ek1_l7:α->AV) (a0:α) (h0:I a0 s)
 (h:∀ a s,I a s->L178_7 env  (Inv (fun a=>[a0_l7,ek1_l7 a]) μ I) (μ a s) a0_l7 (ek1_l7 a) s K X) :
 ∃ I7:Nat->List AV->AS->Prop,(∃ m,I7 m [a0_l7,ek1_l7 a0] s)/\∀ (m:Nat) (x0 x1:AV),∀ s,I7 m [x0,x1] s ->
 L178_7 env  I7 m x0 x1 s K X:=by
  refine ⟨Inv (fun a=>[a0_l7,ek1_l7 a]) μ I,⟨_,a0,rfl,rfl,h0⟩,?_⟩
  rintro m x0 x1 s' ⟨a,hv,rfl,hI⟩
  simp only [List.cons.injEq,and_true] at hv
  obtain ⟨rfl,rfl⟩:=hv
  exact h a s' hI
def S178 (env:Env) (a0_a k1_a:AV) (s:AS) (K:AV->AS->Prop) (X:PV->AS->Prop):Prop :=
 (lock nilD a0_a fun t6 =>
 (lock fieldAddrD prog 181 t6 1 fun t7 =>
 (lock loadD prog s 3 t7 fun t8 =>
 (lock binD prog .eql 3 t8 (.pv (.int .i64 0)) fun t9 =>
 (condD t9
 (retV (.tuple []) s K)
 (lock binD prog .gtr 3 k1_a (.pv (.int .i64 0)) fun t12 =>
 (condD t12
 (∃ I2:Nat->List AV->AS->Prop,(∃ m,I2 m [a0_a,k1_a] s)/\∀ (m2:Nat) (a0_l2 k1_l2:AV),∀ s1,I2 m2 [a0_l2,k1_l2] s1 ->
 (L178_2 env I2 m2 a0_l2 k1_l2 s1 K X))
 (lock binD prog .lss 3 k1_a (.pv (.int .i64 0)) fun t25 =>
 (condD t25
 (∃ I7:Nat->List AV->AS->Prop,(∃ m,I7 m [a0_a,k1_a] s)/\∀ (m7:Nat) (a0_l7 k1_l7:AV),∀ s4,I7 m7 [a0_l7,k1_l7] s4 ->
 (L178_7 env I7 m7 a0_l7 k1_l7 s4 K X))
 (retV (.tuple []) s K))))))))))
theorem S178_eq (env:Env) (a0_a k1_a:AV) (s:AS) (K:AV->AS->Prop) (X:PV->AS->Prop):S178 env a0_a k1_a s K X=bodyD prog env an178 f178 [a0_a,k1_a] s K X:=by
  unfold S178
  simp only [L178_2_eq,L178_7_eq]
  kernel_rfl
theorem S178_ok:(match f178.body with | some c=>okCode an178 prog f178.ntmps c | none=>false)=true:=by kernel_rfl
def an202:An:={ mu:=[],cut:=[(3,[0,1]),(4,[0,1,30])],loop:=[] }
def J202_4 (env:Env)  (a0_j4 nd1_j4 t30_j4:AV) (s:AS) (K:AV->AS->Prop) (X:PV->AS->Prop):Prop :=
 (condD t30_j4
 (lock nilD a0_j4 fun t32 =>
 (lock fieldAddrD prog 181 t32 4 fun t33 =>
 (lock loadD prog s 4 t33 fun t34 =>
 (condD t34
 (retV ((.pv (.bool true))) s K)
 (lock binD prog .gtr 3 nd1_j4 (.pv (.int .i64 0)) fun t36 =>
 (guardD t36 true
 (lock binD prog .sub 3 nd1_j4 (.pv (.int .i64 1)) fun t40 =>
 (lock nilD a0_j4 fun t41 =>
 (lock fieldAddrD prog 181 t41 0 fun t42 =>
 (lock indexAddrD prog 179 t42 t40 fun t43 =>
 (lock loadD prog s 5 t43 fun t44 =>
 (lock binD prog .sub 5 t44 (.pv (.int .u8 48)) fun t45 =>
 (lock binD prog .rem 5 t45 (.pv (.int .u8 2)) fun t46 =>
 (lock binD prog .neq 5 t46 (.pv (.int .u8 0)) fun t47 =>
 (retV (t47) s K)))))))))
 (retV ((.pv (.bool false))) s K)))))))
 (lock nilD a0_j4 fun t51 =>
 (lock fieldAddrD prog 181 t51 0 fun t52 =>
 (lock indexAddrD prog 179 t52 nd1_j4 fun t53 =>
 (lock loadD prog s 5 t53 fun t54 =>
 (lock binD prog .geq 5 t54 (.pv (.int .u8 53)) fun t55 =>
 (retV (t55) s K)))))))
theorem J202_4_eq (env:Env)  (a0_j4 nd1_j4 t30_j4:AV) (s:AS) (K:AV->AS->Prop) (X:PV->AS->Prop):J202_4 env  a0_j4 nd1_j4 t30_j4 s K X=cutK (fun fr s=>wpD prog env an202 (subC (bodyC f202) [1,1,0,1]) (contQ prog env an202 (bodyC f202) [1,1,0,1] [] (rootQ prog f202 K X)) fr s) [(0,a0_j4),(1,nd1_j4),(30,t30_j4)] s:=by
  unfold J202_4
  refine cutK_of ?_
  kernel_rfl
def J202_3 (env:Env)  (a0_j3 nd1_j3:AV) (s:AS) (K:AV->AS->Prop) (X:PV->AS->Prop):Prop :=
 (lock nilD a0_j3 fun t17 =>
 (lock fieldAddrD prog 181 t17 0 fun t18 =>
 (lock indexAddrD prog 179 t18 nd1_j3 fun t19 =>
 (lock loadD prog s 5 t19 fun t20 =>
 (lock binD prog .eql 5 t20 (.pv (.int .u8 53)) fun t21 =>
 (guardD t21 true
 (lock binD prog .add 3 nd1_j3 (.pv (.int .i64 1)) fun t24 =>
 (lock nilD a0_j3 fun t26 =>
 (lock fieldAddrD prog 181 t26 1 fun t27 =>
 (lock loadD prog s 3 t27 fun t28 =>
 (lock binD prog .eql 3 t24 t28 fun t29 =>
 (J202_4 env  (a0_j3) (nd1_j3) (t29) s K X))))))
 (J202_4 env  (a0_j3) (nd1_j3) (.pv (.bool false)) s K X)))))))
theorem J202_3_eq (env:Env)  (a0_j3 nd1_j3:AV) (s:AS) (K:AV->AS->Prop) (X:PV->AS->Prop):J202_3 env  a0_j3 nd1_j3 s K X=cutK (fun fr s=>wpD prog env an202 (subC (bodyC f202) [1,1]) (contQ prog env an202 (bodyC f202) [1,1] [] (rootQ prog f202 K X)) fr s) [(0,a0_j3),(1,nd1_j3)] s:=by
  unfold J202_3
  simp only [J202_4_eq]
  refine cutK_of ?_
  kernel_rfl
def S202 (env:Env) (a0_a nd1_a:AV) (s:AS) (K:AV->AS->Prop) (X:PV->AS->Prop):Prop :=
 (lock binD prog .lss 3 nd1_a (.pv (.int .i64 0)) fun t6 =>
 (guardD t6 false
 (lock nilD a0_a fun t10 =>
 (lock fieldAddrD prog 181 t10 1 fun t11 =>
 (lock loadD prog s 3 t11 fun t12 =>
 (lock binD prog .geq 3 nd1_a t12 fun t13 =>
 (condD t13
 (retV ((.pv (.bool false))) s K)
 (J202_3 env  (a0_a) (nd1_a) s K X))))))
 (retV ((.pv (.bool false))) s K)))
theorem S202_eq (env:Env) (a0_a nd1_a:AV) (s:AS) (K:AV->AS->Prop) (X:PV->AS->Prop):S202 env a0_a nd1_a s K X=bodyD prog env an202 f202 [a0_a,nd1_a] s K X:=by
  unfold S202
  simp only [J202_3_eq]
  kernel_rfl
theorem S202_ok:(match f202.body with | some c=>okCode an202 prog f202.ntmps c | none=>false)=true:=by kernel_rfl
def an179:An:={ mu:=[],cut:=[(8,[0,3,4]),(9,[0,3,4])],loop:=[(6,[0,3,4]),(9,[0,3,4])] }
def J179_8 (env:Env) (I6:Nat->List AV->AS->Prop) (m6:Nat) (a0_j8 i3_j8 n4_j8:AV) (s:AS) (K:AV->AS->Prop) (X:PV->AS->Prop):Prop :=
 (lock binD prog .mul 37 n4_j8 (.pv (.int .u64 10)) fun t27 =>
 (lock nilD a0_j8 fun t30 =>
 (lock fieldAddrD prog 181 t30 0 fun t31 =>
 (lock indexAddrD prog 179 t31 i3_j8 fun t32 =>
 (lock loadD prog s 5 t32 fun t33 =>
 (lock binD prog .sub 5 t33 (.pv (.int .u8 48)) fun t34 =>
 (lock convD prog s 5 37 t34 fun t35 =>
 (lock binD prog .add 37 t27 t35 fun t36 =>
 (lock binD prog .add 3 i3_j8 (.pv (.int .i64 1)) fun t25 =>
 (∃ m',m' < m6/\I6 m' [a0_j8,t25,t36] s))))))))))
theorem J179_8_eq (env:Env) (I6:Nat->List AV->AS->Prop) (m6:Nat) (a0_j8 i3_j8 n4_j8:AV) (s:AS) (K:AV->AS->Prop) (X:PV->AS->Prop):J179_8 env I6 m6 a0_j8 i3_j8 n4_j8 s K X=cutK (fun fr s=>wpD prog env an179 (subC (bodyC f179) [1,1,1,1,0,1,0,0,1]) (contQ prog env an179 (bodyC f179) [1,1,1,1,0,1,0,0,1] [(I6,m6)] (rootQ prog f179 K X)) fr s) [(0,a0_j8),(3,i3_j8),(4,n4_j8)] s:=by
  unfold J179_8
  refine cutK_of ?_
  kernel_rfl
def L179_9 (env:Env) (I9:Nat->List AV->AS->Prop) (m9:Nat) (a0_l9 i3_l9 n4_l9:AV) (s:AS) (K:AV->AS->Prop) (X:PV->AS->Prop):Prop :=
 (lock nilD a0_l9 fun t39 =>
 (lock fieldAddrD prog 181 t39 2 fun t40 =>
 (lock loadD prog s 3 t40 fun t41 =>
 (lock binD prog .lss 3 i3_l9 t41 fun t42 =>
 (condD t42
 (lock binD prog .mul 37 n4_l9 (.pv (.int .u64 10)) fun t46 =>
 (lock binD prog .add 3 i3_l9 (.pv (.int .i64 1)) fun t44 =>
 (∃ m',m' < m9/\I9 m' [a0_l9,t44,t46] s)))
 (lock nilD a0_l9 fun t49 =>
 (lock fieldAddrD prog 181 t49 2 fun t50 =>
 (lock loadD prog s 3 t50 fun t51 =>
 (env 202 [a0_l9,t51] s (fun t52 s3 =>
 (condD t52
 (lock binD prog .add 37 n4_l9 (.pv (.int .u64 1)) fun t54 =>
 (retV (t54) s3 K))
 (retV (n4_l9) s3 K))) (panV X))))))))))
theorem L179_9_eq (env:Env) (I9:Nat->List AV->AS->Prop) (m9:Nat) (a0_l9 i3_l9 n4_l9:AV) (s:AS) (K:AV->AS->Prop) (X:PV->AS->Prop):L179_9 env I9 m9 a0_l9 i3_l9 n4_l9 s K X=wpD prog env an179 (subC (bodyC f179) [1,1,1,1,1,0,0,0]) (contQ prog env an179 (bodyC f179) [1,1,1,1,1,0,0,0] [(I9,m9)] (rootQ prog f179 K X)) [(0,a0_l9),(3,i3_l9),(4,n4_l9)] s:=by
  unfold L179_9
  kernel_rfl
theorem lp179_9 {α:Type} {env:Env}  {a0_l9:AV} {s:AS} {K:AV->AS->Prop} {X:PV->AS->Prop} (μ:α->AS->Nat) (I:α->AS->Prop) (ei3_l9 en4_l9:α->AV) (a0:α) (h0:I a0 s)
 (h:∀ a s,I a s->L179_9 env  (Inv (fun a=>[a0_l9,ei3_l9 a,en4_l9 a]) μ I) (μ a s) a0_l9 (ei3_l9 a) (en4_l9 a) s K X) :
 ∃ I9:Nat->List AV->AS->Prop,(∃ m,I9 m [a0_l9,ei3_l9 a0,en4_l9 a0] s)/\∀ (m:Nat) (x0 x1 x2:AV),∀ s,I9 m [x0,x1,x2] s ->
 L179_9 env  I9 m x0 x1 x2 s K X:=by
  refine ⟨Inv (fun a=>[a0_l9,ei3_l9 a,en4_l9 a]) μ I,⟨_,a0,rfl,rfl,h0⟩,?_⟩
  rintro m x0 x1 x2 s' ⟨a,hv,rfl,hI⟩
  simp only [List.cons.injEq,and_true] at hv
  obtain ⟨rfl,rfl,rfl⟩:=hv
  exact h a s' hI
def J179_9 (env:Env)  (a0_j9 i3_j9 n4_j9:AV) (s:AS) (K:AV->AS->Prop) (X:PV->AS->Prop):Prop :=
 (∃ I9:Nat->List AV->AS->Prop,(∃ m,I9 m [a0_j9,i3_j9,n4_j9] s)/\∀ (m9:Nat) (a0_l9 i3_l9 n4_l9:AV),∀ s2,I9 m9 [a0_l9,i3_l9,n4_l9] s2 ->
 (L179_9 env I9 m9 a0_l9 i3_l9 n4_l9 s2 K X))
theorem J179_9_eq (env:Env)  (a0_j9 i3_j9 n4_j9:AV) (s:AS) (K:AV->AS->Prop) (X:PV->AS->Prop):J179_9 env  a0_j9 i3_j9 n4_j9 s K X=cutK (fun fr s=>wpD prog env an179 (subC (bodyC f179) [1,1,1,1,1]) (contQ prog env an179 (bodyC f179) [1,1,1,1,1] [] (rootQ prog f179 K X)) fr s) [(0,a0_j9),(3,i3_j9),(4,n4_j9)] s:=by
  unfold J179_9
  simp only [L179_9_eq]
  refine cutK_of ?_
  kernel_rfl
def L179_6 (env:Env) (I6:Nat->List AV->AS->Prop) (m6:Nat) (a0_l6 i3_l6 n4_l6:AV) (s:AS) (K:AV->AS->Prop) (X:PV->AS->Prop):Prop :=
 (lock nilD a0_l6 fun t12 =>
 (lock fieldAddrD prog 181 t12 2 fun t13 =>
 (lock loadD prog s 3 t13 fun t14 =>
 (lock binD prog .lss 3 i3_l6 t14 fun t15 =>
 (guardD t15 true
 (lock nilD a0_l6 fun t19 =>
 (lock fieldAddrD prog 181 t19 1 fun t20 =>
 (lock loadD prog s 3 t20 fun t21 =>
 (lock binD prog .lss 3 i3_l6 t21 fun t22 =>
 (condD t22
 (J179_8 env I6 m6 (a0_l6) (i3_l6) (n4_l6) s K X)
 (J179_9 env  (a0_l6) (i3_l6) (n4_l6) s K X))))))
 (J179_9 env  (a0_l6) (i3_l6) (n4_l6) s K X))))))
theorem L179_6_eq (env:Env) (I6:Nat->List AV->AS->Prop) (m6:Nat) (a0_l6 i3_l6 n4_l6:AV) (s:AS) (K:AV->AS->Prop) (X:PV->AS->Prop):L179_6 env I6 m6 a0_l6 i3_l6 n4_l6 s K X=wpD prog env an179 (subC (bodyC f179) [1,1,1,1,0,1,0,0]) (contQ prog env an179 (bodyC f179) [1,1,1,1,0,1,0,0] [(I6,m6)] (rootQ prog f179 K X)) [(0,a0_l6),(3,i3_l6),(4,n4_l6)] s:=by
  unfold L179_6
  simp only [J179_8_eq,J179_9_eq]
  kernel_rfl
theorem lp179_6 {α:Type} {env:Env}  {a0_l6:AV} {s:AS} {K:AV->AS->Prop} {X:PV->AS->Prop} (μ:α->AS->Nat) (I:α->AS->Prop) (ei3_l6 en4_l6:α->AV) (a0:α) (h0:I a0 s)
 (h:∀ a s,I a s->L179_6 env  (Inv (fun a=>[a0_l6,ei3_l6 a,en4_l6 a]) μ I) (μ a s) a0_l6 (ei3_l6 a) (en4_l6 a) s K X) :
 ∃ I6:Nat->List AV->AS->Prop,(∃ m,I6 m [a0_l6,ei3_l6 a0,en4_l6 a0] s)/\∀ (m:Nat) (x0 x1 x2:AV),∀ s,I6 m [x0,x1,x2] s ->
 L179_6 env  I6 m x0 x1 x2 s K X:=by
  refine ⟨Inv (fun a=>[a0_l6,ei3_l6 a,en4_l6 a]) μ I,⟨_,a0,rfl,rfl,h0⟩,?_⟩
  rintro m x0 x1 x2 s' ⟨a,hv,rfl,hI⟩
  simp only [List.cons.injEq,and_true] at hv
  obtain ⟨rfl,rfl,rfl⟩:=hv
  exact h a s' hI
def S179 (env:Env) (a0_a:AV) (s:AS) (K:AV->AS->Prop) (X:PV->AS->Prop):Prop :=
 (lock nilD a0_a fun t6 =>
 (lock fieldAddrD prog 181 t6 2 fun t7 =>
 (lock loadD prog s 3 t7 fun t8 =>
 (lock binD prog .gtr 3 t8 (.pv (.int .i64 20)) fun t9 =>
 (condD t9
 (retV ((.pv (.int .u64 18446744073709551615))) s K)
 (∃ I6:Nat->List AV->AS->Prop,(∃ m,I6 m [a0_a,(.pv (.int .i64 0)),(.pv (.int .u64 0))] s)/\∀ (m6:Nat) (a0_l6 i3_l6 n4_l6:AV),∀ s1,I6 m6 [a0_l6,i3_l6,n4_l6] s1 ->
 (L179_6 env I6 m6 a0_l6 i3_l6 n4_l6 s1 K X)))))))
theorem S179_eq (env:Env) (a0_a:AV) (s:AS) (K:AV->AS->Prop) (X:PV->AS->Prop):S179 env a0_a s K X=bodyD prog env an179 f179 [a0_a] s K X:=by
  unfold S179
  simp only [L179_6_eq]
  kernel_rfl
theorem S179_ok:(match f179.body with | some c=>okCode an179 prog f179.ntmps c | none=>false)=true:=by kernel_rfl
end Go.AD
