import Derived.Test.YteabilbccbhecaaGreatDoorM22
import Derived.Test.YteabilbccbhecaaGreatDoorRows
import Derived.Test.YteabilbccbhecaaGreatDoorM8
import Derived.ChangeSlices
import Derived.WideShapes
import Derived.SizedLaws
set_option linter.unusedVariables false
set_option maxRecDepth 100000
namespace Go.AD.Fl
open Go.Proofs RowKit Go.AD.Fp
theorem F_iBool64 (hm : HM) : SoundF PS 144 (T_bool .u64) := body_sound hm (envF0_ok hm) an144 Tryz.func144 Tryz.call144 S144_ok (fun args σ K X h => T_iBool64_ok h)
theorem F_iBoolI (hm : HM) : SoundF PS 151 (T_bool .i64) := body_sound hm (envF0_ok hm) an151 Tryz.func151 Tryz.call151 S151_ok (fun args σ K X h => T_iBoolI_ok h)
theorem F_iRound (hm : HM) : SoundF PS 177 T_iRound := body_sound hm (envF0_ok hm) an177 Tryz.func177 Tryz.call177 S177_ok (fun args σ K X h => T_iRound_ok h)
theorem F_iUnmin (hm : HM) : SoundF PS 175 T_iUnmin := body_sound hm (envF0_ok hm) an175 Tryz.func175 Tryz.call175 S175_ok (fun args σ K X h => T_iUnmin_ok h)
theorem F_iLog2 (hm : HM) : SoundF PS 172 T_iLog2 := body_sound hm (envF0_ok hm) an172 Tryz.func172 Tryz.call172 S172_ok (fun args σ K X h => T_iLog2_ok h)
theorem F_iPrescale (hm : HM) : SoundF PS 173 T_iPrescale := body_sound hm (envF0_ok hm) an173 Tryz.func173 Tryz.call173 S173_ok (fun args σ K X h => T_iPrescale_ok h)
theorem F_iPack (hm : HM) : SoundF PS 180 T_iPack := body_sound hm (envF0_ok hm) an180 Tryz.func180 Tryz.call180 S180_ok (fun args σ K X h => (T_iPack_ok rfl h))
theorem F_iExact (hm : HM) : SoundF PS 146 T_iExact := body_sound hm (envF0_ok hm) an146 Tryz.func146 Tryz.call146 S146_ok (fun args σ K X h => T_iExact_ok h)
theorem F_iTrim (hm : HM) : SoundF PS 210 T_iTrim := body_sound hm (envF0_ok hm) an210 Tryz.func210 Tryz.call210 S210_ok (fun args σ K X h => T_iTrim_ok h)
theorem F_iLess (hm : HM) : SoundF PS 218 T_iLess := body_sound hm (envF0_ok hm) an218 Tryz.func218 Tryz.call218 S218_ok (fun args σ K X h => T_iLess_ok h)
theorem F_iShould (hm : HM) : SoundF PS 202 T_iShould := body_sound hm (envF0_ok hm) an202 Tryz.func202 Tryz.call202 S202_ok (fun args σ K X h => T_iShould_ok h)
theorem F_iLower (hm : HM) : SoundF PS 170 T_iLower := body_sound hm (envF0_ok hm) an170 Tryz.func170 Tryz.call170 S170_ok (fun args σ K X h => T_iLower_ok h)
theorem F_iCommon (hm : HM) : SoundF PS 167 T_iCommon := body_sound hm (envF0_ok hm) an167 Tryz.func167 Tryz.call167 S167_ok (fun args σ K X h => T_iCommon_ok h)
theorem F_sRange (hm : HM) : SoundF PS 87 T_sRange := body_sound hm (envF0_ok hm) an87 Tryz.func87 Tryz.call87 S87_ok (fun args σ K X h => (T_sRange_ok rfl h))
theorem F_tMake (hm : HM) : SoundF PS 52 T_tMake := body_sound hm (envF0_ok hm) an52 Tryz.func52 Tryz.call52 S52_ok (fun args σ K X h => T_tMake_ok h)
theorem F_tHas (hm : HM) : SoundF PS 82 T_tHas := body_sound hm (envF0_ok hm) an82 Tryz.func82 Tryz.call82 S82_ok (fun args σ K X h => T_tHas_ok h)
theorem F_dSign (hm : HM) : SoundF PS 55 T_dSign := body_sound hm (envF0_ok hm) an55 Tryz.func55 Tryz.call55 S55_ok (fun args σ K X h => T_dSign_ok h)
theorem F_dRun (hm : HM) : SoundF PS 56 T_dRun := body_sound hm (envF0_ok hm) an56 Tryz.func56 Tryz.call56 S56_ok (fun args σ K X h => T_dRun_ok h)
theorem F_pNum (hm : HM) : SoundF PS 236 T_pNum := body_sound hm (envF0_ok hm) an236 Tryz.func236 Tryz.call236 S236_ok (fun args σ K X h => T_pNum_ok h)
theorem F_pStr (hm : HM) : SoundF PS 237 T_pStr := body_sound hm (envF0_ok hm) an237 Tryz.func237 Tryz.call237 S237_ok (fun args σ K X h => T_pStr_ok h)
theorem F_pBoth (hm : HM) : SoundF PS 238 T_pBoth := body_sound hm (envF0_ok hm) an238 Tryz.func238 Tryz.call238 S238_ok (fun args σ K X h => T_pBoth_ok h)
theorem F_pNone (hm : HM) : SoundF PS 239 T_pNone := body_sound hm (envF0_ok hm) an239 Tryz.func239 Tryz.call239 S239_ok (fun args σ K X h => T_pNone_ok h)
theorem F_cmpNaN (hm : HM) : SoundF PS 42 T_cmpNaN := body_sound hm (envF0_ok hm) an42 Tryz.func42 Tryz.call42 S42_ok (fun args σ K X h => T_cmpNaN_ok h)
theorem F_l8fit (hm : HM) : SoundF PS 8 T_l8fit := body_sound hm (envF0_ok hm) an8 Tryz.func8 Tryz.call8 S8_ok (fun args σ K X h => T_l8fit_ok h)
def envF1 : Env := ((((((((((((((((((((((((envF0.add 144 (T_bool .u64)).add 151 (T_bool .i64)).add 177 T_iRound).add 175 T_iUnmin).add 172 T_iLog2).add 173 T_iPrescale).add 180 T_iPack).add 146 T_iExact).add 210 T_iTrim).add 218 T_iLess).add 202 T_iShould).add 170 T_iLower).add 167 T_iCommon).add 87 T_sRange).add 52 T_tMake).add 82 T_tHas).add 55 T_dSign).add 56 T_dRun).add 236 T_pNum).add 237 T_pStr).add 238 T_pBoth).add 239 T_pNone).add 42 T_cmpNaN).add 8 T_l8fit)
theorem envF1_ok (hm : HM) : EnvOk PS envF1 := EnvOk.add (EnvOk.add (EnvOk.add (EnvOk.add (EnvOk.add (EnvOk.add (EnvOk.add (EnvOk.add (EnvOk.add (EnvOk.add (EnvOk.add (EnvOk.add (EnvOk.add (EnvOk.add (EnvOk.add (EnvOk.add (EnvOk.add (EnvOk.add (EnvOk.add (EnvOk.add (EnvOk.add (EnvOk.add (EnvOk.add (EnvOk.add (envF0_ok hm) (F_iBool64 hm)) (F_iBoolI hm)) (F_iRound hm)) (F_iUnmin hm)) (F_iLog2 hm)) (F_iPrescale hm)) (F_iPack hm)) (F_iExact hm)) (F_iTrim hm)) (F_iLess hm)) (F_iShould hm)) (F_iLower hm)) (F_iCommon hm)) (F_sRange hm)) (F_tMake hm)) (F_tHas hm)) (F_dSign hm)) (F_dRun hm)) (F_pNum hm)) (F_pStr hm)) (F_pBoth hm)) (F_pNone hm)) (F_cmpNaN hm)) (F_l8fit hm)
theorem F_iUscale (hm : HM) : SoundF PS 174 T_iUscale := body_sound hm (envF1_ok hm) an174 Tryz.func174 Tryz.call174 S174_ok (fun args σ K X h => (T_iUscale_ok rfl rfl h))
theorem F_iRight (hm : HM) : SoundF PS 201 T_iRight := body_sound hm (envF1_ok hm) an201 Tryz.func201 Tryz.call201 S201_ok (fun args σ K X h => (T_iRight_ok rfl h))
theorem F_iLeft (hm : HM) : SoundF PS 200 T_iLeft := body_sound hm (envF1_ok hm) an200 Tryz.func200 Tryz.call200 S200_ok (fun args σ K X h => (T_iLeft_ok rfl rfl h))
theorem F_iInteger (hm : HM) : SoundF PS 179 T_iInteger := body_sound hm (envF1_ok hm) an179 Tryz.func179 Tryz.call179 S179_ok (fun args σ K X h => (T_iInteger_ok rfl h))
theorem F_iRead (hm : HM) : SoundF PS 136 T_iRead := body_sound hm (envF1_ok hm) an136 Tryz.func136 Tryz.call136 S136_ok (fun args σ K X h => (T_iRead_ok rfl h))
theorem F_iSet (hm : HM) : SoundF PS 142 T_iSet := body_sound hm (envF1_ok hm) an142 Tryz.func142 Tryz.call142 S142_ok (fun args σ K X h => (T_iSet_ok rfl h))
theorem F_iSpecial (hm : HM) : SoundF PS 135 T_iSpecial := body_sound hm (envF1_ok hm) an135 Tryz.func135 Tryz.call135 S135_ok (fun args σ K X h => (T_iSpecial_ok rfl h))
theorem F_sToError (hm : HM) : SoundF PS 58 T_sToError := body_sound hm (envF1_ok hm) an58 Tryz.func58 Tryz.call58 S58_ok (fun args σ K X h => (T_sToError_ok rfl h))
theorem F_tLeftA (hm : HM) : SoundF PS 53 T_tLeftA := body_sound hm (envF1_ok hm) an53 Tryz.func53 Tryz.call53 S53_ok (fun args σ K X h => (T_tLeftA_ok rfl h))
theorem F_tRightA (hm : HM) : SoundF PS 77 T_tRightA := body_sound hm (envF1_ok hm) an77 Tryz.func77 Tryz.call77 S77_ok (fun args σ K X h => (T_tRightA_ok rfl h))
theorem F_dNumeral (hm : HM) : SoundF PS 37 T_dNumeral := body_sound hm (envF1_ok hm) an37 Tryz.func37 Tryz.call37 S37_ok (fun args σ K X h => (T_dNumeral_ok rfl rfl h))
theorem F_vPlain (hm : HM) : SoundF PS 10 T_vPlain := body_sound hm (envF1_ok hm) an10 Tryz.func10 Tryz.call10 S10_ok (fun args σ K X h => (T_vPlain_ok rfl rfl rfl rfl h))
theorem F_cmpS (hm : HM) : SoundF PS 28 T_cmpS := body_sound hm (envF1_ok hm) an28 Tryz.func28 Tryz.call28 S28_ok (fun args σ K X h => (T_cmpS_ok rfl h))
theorem F_vText (hm : HM) : SoundF PS 27 T_vText := body_sound hm (envF1_ok hm) an27 Tryz.func27 Tryz.call27 S27_ok (fun args σ K X h => T_vText_ok h)
def envF2 : Env := ((((((((((((((envF1.add 174 T_iUscale).add 201 T_iRight).add 200 T_iLeft).add 179 T_iInteger).add 136 T_iRead).add 142 T_iSet).add 135 T_iSpecial).add 58 T_sToError).add 53 T_tLeftA).add 77 T_tRightA).add 37 T_dNumeral).add 10 T_vPlain).add 28 T_cmpS).add 27 T_vText)
theorem envF2_ok (hm : HM) : EnvOk PS envF2 := EnvOk.add (EnvOk.add (EnvOk.add (EnvOk.add (EnvOk.add (EnvOk.add (EnvOk.add (EnvOk.add (EnvOk.add (EnvOk.add (EnvOk.add (EnvOk.add (EnvOk.add (EnvOk.add (envF1_ok hm) (F_iUscale hm)) (F_iRight hm)) (F_iLeft hm)) (F_iInteger hm)) (F_iRead hm)) (F_iSet hm)) (F_iSpecial hm)) (F_sToError hm)) (F_tLeftA hm)) (F_tRightA hm)) (F_dNumeral hm)) (F_vPlain hm)) (F_cmpS hm)) (F_vText hm)
theorem F_iParse64 (hm : HM) : SoundF PS 147 T_iParse64 := body_sound hm (envF2_ok hm) an147 Tryz.func147 Tryz.call147 S147_ok (fun args σ K X h => (T_iParse64_ok rfl rfl rfl rfl rfl rfl rfl rfl rfl h))
theorem F_iShift (hm : HM) : SoundF PS 178 T_iShift := body_sound hm (envF2_ok hm) an178 Tryz.func178 Tryz.call178 S178_ok (fun args σ K X h => (T_iShift_ok rfl rfl h))
theorem F_tTrimLeft (hm : HM) : SoundF PS 36 T_tTrimLeft := body_sound hm (envF2_ok hm) an36 Tryz.func36 Tryz.call36 S36_ok (fun args σ K X h => (T_tTrimLeft_ok rfl rfl h))
theorem F_tTrim (hm : HM) : SoundF PS 48 T_tTrim := body_sound hm (envF2_ok hm) an48 Tryz.func48 Tryz.call48 S48_ok (fun args σ K X h => (T_tTrim_ok rfl rfl rfl h))
def envF3 : Env := ((((envF2.add 147 T_iParse64).add 178 T_iShift).add 36 T_tTrimLeft).add 48 T_tTrim)
theorem envF3_ok (hm : HM) : EnvOk PS envF3 := EnvOk.add (EnvOk.add (EnvOk.add (EnvOk.add (envF2_ok hm) (F_iParse64 hm)) (F_iShift hm)) (F_tTrimLeft hm)) (F_tTrim hm)
theorem F_iBits (hm : HM) : SoundF PS 143 T_iBits := body_sound hm (envF3_ok hm) an143 Tryz.func143 Tryz.call143 S143_ok (fun args σ K X h => (T_iBits_ok rfl rfl h))
def envF4 : Env := (envF3.add 143 T_iBits)
theorem envF4_ok (hm : HM) : EnvOk PS envF4 := EnvOk.add (envF3_ok hm) (F_iBits hm)
theorem F_iAtof64 (hm : HM) : SoundF PS 108 T_iAtof := body_sound hm (envF4_ok hm) an108 Tryz.func108 Tryz.call108 S108_ok (fun args σ K X h => (T_iAtof64_ok rfl rfl rfl rfl rfl rfl rfl rfl h))
def envF5 : Env := (envF4.add 108 T_iAtof)
theorem envF5_ok (hm : HM) : EnvOk PS envF5 := EnvOk.add (envF4_ok hm) (F_iAtof64 hm)
theorem F_iPrefix (hm : HM) : SoundF PS 85 T_iPre := body_sound hm (envF5_ok hm) an85 Tryz.func85 Tryz.call85 S85_ok (fun args σ K X h => (T_iPrefix_ok rfl h))
def envF6 : Env := (envF5.add 85 T_iPre)
theorem envF6_ok (hm : HM) : EnvOk PS envF6 := EnvOk.add (envF5_ok hm) (F_iPrefix hm)
theorem F_iParseFloat (hm : HM) : SoundF PS 57 T_iPF := body_sound hm (envF6_ok hm) an57 Tryz.func57 Tryz.call57 S57_ok (fun args σ K X h => (T_iParseFloat_ok rfl h))
def envF7 : Env := (envF6.add 57 T_iPF)
theorem envF7_ok (hm : HM) : EnvOk PS envF7 := EnvOk.add (envF6_ok hm) (F_iParseFloat hm)
theorem F_sParseFloat (hm : HM) : SoundF PS 38 T_sParse := body_sound hm (envF7_ok hm) an38 Tryz.func38 Tryz.call38 S38_ok (fun args σ K X h => (T_sParseFloat_ok rfl rfl h))
def envF8 : Env := (envF7.add 38 T_sParse)
theorem envF8_ok (hm : HM) : EnvOk PS envF8 := EnvOk.add (envF7_ok hm) (F_sParseFloat hm)
theorem F_dPrefix (hm : HM) : SoundF PS 26 T_dPrefix := body_sound hm (envF8_ok hm) an26 Tryz.func26 Tryz.call26 S26_ok (fun args σ K X h => (T_dPrefix_ok rfl rfl rfl h))
def envF9 : Env := (envF8.add 26 T_dPrefix)
theorem envF9_ok (hm : HM) : EnvOk PS envF9 := EnvOk.add (envF8_ok hm) (F_dPrefix hm)
theorem F_dLooks (hm : HM) : SoundF PS 33 T_dLooks := body_sound hm (envF9_ok hm) an33 Tryz.func33 Tryz.call33 S33_ok (fun args σ K X h => (T_dLooks_ok rfl rfl h))
theorem F_vOf (hm : HM) : SoundF PS 9 T_vOf := body_sound hm (envF9_ok hm) an9 Tryz.func9 Tryz.call9 S9_ok (fun args σ K X h => (T_vOf_ok rfl h))
theorem F_vNumber (hm : HM) : SoundF PS 18 T_vNumber := body_sound hm (envF9_ok hm) an18 Tryz.func18 Tryz.call18 S18_ok (fun args σ K X h => (T_vNumber_ok rfl h))
def envF10 : Env := (((envF9.add 33 T_dLooks).add 9 T_vOf).add 18 T_vNumber)
theorem envF10_ok (hm : HM) : EnvOk PS envF10 := EnvOk.add (EnvOk.add (EnvOk.add (envF9_ok hm) (F_dLooks hm)) (F_vOf hm)) (F_vNumber hm)
theorem F_vOutside (hm : HM) : SoundF PS 22 T_vOutside := body_sound hm (envF10_ok hm) an22 Tryz.func22 Tryz.call22 S22_ok (fun args σ K X h => (T_vOutside_ok rfl rfl h))
theorem F_vCompare (hm : HM) : SoundF PS 11 T_vCompare := body_sound hm (envF10_ok hm) an11 Tryz.func11 Tryz.call11 S11_ok (fun args σ K X h => (T_vCompare_ok rfl rfl rfl h))
def envF11 : Env := ((envF10.add 22 T_vOutside).add 11 T_vCompare)
theorem envF11_ok (hm : HM) : EnvOk PS envF11 := EnvOk.add (EnvOk.add (envF10_ok hm) (F_vOutside hm)) (F_vCompare hm)
theorem F_l8awake (hm : HM) : SoundF PS 7 T_l8awake := body_sound hm (envF11_ok hm) an7 Tryz.func7 Tryz.call7 S7_ok (fun args σ K X h => (T_l8awake_ok rfl rfl rfl rfl h))
def envF12 : Env := (envF11.add 7 T_l8awake)
theorem envF12_ok (hm : HM) : EnvOk PS envF12 := EnvOk.add (envF11_ok hm) (F_l8awake hm)
theorem F_ValueRises (hm : HM) : SoundF PS 3 T_ValueRises := body_sound hm (envF12_ok hm) an3 Tryz.func3 Tryz.call3 S3_ok (fun args σ K X h => (T_ValueRises_ok rfl rfl rfl rfl rfl h))
end Go.AD.Fl

set_option linter.unusedVariables false
set_option linter.unusedSimpArgs false
set_option maxRecDepth 100000
namespace Go.AD.Fl
open Go.Proofs RowKit Go.AD.Fp
def RL (imm : Nat -> Nat -> Option Value) : List PV -> List Value -> Prop
  | [], [] => True
  | p :: ps, v :: vs => RelP imm p v /\ RL imm ps vs
  | _, _ => False
section
variable {imm : Nat -> Nat -> Option Value}
theorem RL.len : ∀ {ps : List PV} {vs : List Value}, RL imm ps vs -> vs.length = ps.length
  | [], [], _ => rfl
  | p :: ps, v :: vs, h => by rw [List.length_cons, List.length_cons, RL.len h.2]
  | [], v :: vs, h => h.elim
  | p :: ps, [], h => h.elim
theorem RL.app : ∀ {ps qs : List PV} {vs us : List Value}, RL imm ps vs -> RL imm qs us -> RL imm (ps ++ qs) (vs ++ us)
  | [], _, [], _, _, h => h
  | p :: ps, qs, v :: vs, us, h, h' => ⟨h.1, RL.app h.2 h'⟩
  | [], _, v :: vs, _, h, _ => h.elim
  | p :: ps, _, [], _, h, _ => h.elim
theorem RL.get : ∀ {ps : List PV} {vs : List Value}, RL imm ps vs -> ∀ i (h : i < ps.length), RelP imm ps[i] (vs.getD i undef)
  | p :: ps, v :: vs, h, 0, _ => h.1
  | p :: ps, v :: vs, h, i + 1, hi => RL.get (ps := ps) (vs := vs) h.2 i (by simpa using hi)
  | [], _, _, i, hi => absurd hi (by simp)
  | p :: ps, [], h, _, _ => h.elim
end
section
variable {P : Program} {W : World} {enc : TypeId × Value -> Unit} {base : Nat} {spare : Nat -> Bool} {held : Bool} {imm : Nat -> Nat -> Option Value}
theorem trod_int {f t : Nat} {k : IntKind} {n : Int} {cs : List Value} {p : List MemPlace} (ht : P.underlying t = some (.int k)) (h : DataW.trod enc P W base spare held f t cs = some (.lit (.int k n), p)) : RL imm [.int k n] cs := by
  cases f with
  | zero => rw [DataW.trod] at h; cases h
  | succ f =>
    unfold DataW.trod at h
    rw [ht] at h
    dsimp only at h
    split at h <;> simp_all
    exact ⟨.int _ _, trivial⟩
theorem trod_bool {f t : Nat} {b : Bool} {cs : List Value} {p : List MemPlace} (ht : P.underlying t = some .bool) (h : DataW.trod enc P W base spare held f t cs = some (.lit (.bool b), p)) : RL imm [.bool b] cs := by
  cases f with
  | zero => rw [DataW.trod] at h; cases h
  | succ f =>
    unfold DataW.trod at h
    rw [ht] at h
    dsimp only at h
    split at h <;> simp_all
    exact ⟨.bool _, trivial⟩
theorem trod_float {f t : Nat} {k : FloatKind} {n : Nat} {cs : List Value} {p : List MemPlace} (ht : P.underlying t = some (.float k)) (h : DataW.trod enc P W base spare held f t cs = some (.lit (.float k n), p)) : RL imm [.float k n] cs := by
  cases f with
  | zero => rw [DataW.trod] at h; cases h
  | succ f =>
    unfold DataW.trod at h
    rw [ht] at h
    dsimp only at h
    split at h <;> simp_all
    exact ⟨.float _ _, trivial⟩
theorem trod_str {f t : Nat} {l : List UInt8} {cs : List Value} {p : List MemPlace} (ht : P.underlying t = some .string) (h : DataW.trod enc P W base spare held f t cs = some (.lit (.string l), p)) : RL imm [.str l] cs := by
  cases f with
  | zero => rw [DataW.trod] at h; cases h
  | succ f =>
    unfold DataW.trod at h
    rw [ht] at h
    dsimp only at h
    split at h <;> simp_all
    obtain ⟨_, h1, _⟩ := h
    rename_i s _ _
    obtain ⟨d⟩ := s
    have h1 : d.toList = l := h1
    subst h1
    exact ⟨.str _, trivial⟩
theorem trod_two {f t : Nat} {fa fb : Field} {d1 d2 : DataW Unit} {v1 v2 : PV} {cs : List Value} {p : List MemPlace} (ht : P.underlying t = some (.struct #[fa, fb])) (hc : P.cellsOf t = 2) (o1 : fa.offset = 0) (o2 : fb.offset = 1) (c1 : P.cellsOf fa.type = 1) (c2 : P.cellsOf fb.type = 1)
    (r1 : ∀ f cs p, DataW.trod enc P W base spare held f fa.type cs = some (d1, p) -> RL imm [v1] cs) (r2 : ∀ f cs p, DataW.trod enc P W base spare held f fb.type cs = some (d2, p) -> RL imm [v2] cs)
    (h : DataW.trod enc P W base spare held f t cs = some (.agg [d1, d2], p)) : RL imm [v1, v2] cs := by
  cases f with
  | zero => rw [DataW.trod] at h; cases h
  | succ f =>
    unfold DataW.trod at h
    rw [ht] at h
    dsimp only at h
    rw [hc] at h
    by_cases hlen : cs.length = 2
    · obtain ⟨a, b, rfl⟩ : ∃ a b, cs = [a, b] := by
        match cs, hlen with
        | [a, b], _ => exact ⟨a, b, rfl⟩
      rw [if_pos hlen] at h
      simp only [List.mapM_cons, List.mapM_nil, o1, o2, c1, c2, List.drop_zero, List.drop_succ_cons, List.take_succ_cons, List.take_zero] at h
      cases ha : DataW.trod enc P W base spare held f fa.type [a] with
      | none => rw [ha] at h; simp at h
      | some x =>
        cases hb : DataW.trod enc P W base spare held f fb.type [b] with
        | none => rw [ha, hb] at h; simp at h
        | some y =>
          rw [ha, hb] at h
          simp at h
          obtain ⟨x1, x2⟩ := x
          obtain ⟨y1, y2⟩ := y
          obtain ⟨⟨e1, e2⟩, _⟩ := h
          simp only at e1 e2
          subst e1 e2
          exact RL.app (ps := [v1]) (qs := [v2]) (r1 _ _ _ ha) (r2 _ _ _ hb)
    · rw [if_neg hlen] at h; cases h
theorem trod_three {f t : Nat} {fa fb fc : Field} {d1 d2 d3 : DataW Unit} {v1 v2 v3 : PV} {cs : List Value} {p : List MemPlace} (ht : P.underlying t = some (.struct #[fa, fb, fc])) (hc : P.cellsOf t = 3) (o1 : fa.offset = 0) (o2 : fb.offset = 1) (o3 : fc.offset = 2) (c1 : P.cellsOf fa.type = 1) (c2 : P.cellsOf fb.type = 1) (c3 : P.cellsOf fc.type = 1)
    (r1 : ∀ f cs p, DataW.trod enc P W base spare held f fa.type cs = some (d1, p) -> RL imm [v1] cs) (r2 : ∀ f cs p, DataW.trod enc P W base spare held f fb.type cs = some (d2, p) -> RL imm [v2] cs) (r3 : ∀ f cs p, DataW.trod enc P W base spare held f fc.type cs = some (d3, p) -> RL imm [v3] cs)
    (h : DataW.trod enc P W base spare held f t cs = some (.agg [d1, d2, d3], p)) : RL imm [v1, v2, v3] cs := by
  cases f with
  | zero => rw [DataW.trod] at h; cases h
  | succ f =>
    unfold DataW.trod at h
    rw [ht] at h
    dsimp only at h
    rw [hc] at h
    by_cases hlen : cs.length = 3
    · obtain ⟨a, b, c, rfl⟩ : ∃ a b c, cs = [a, b, c] := by
        match cs, hlen with
        | [a, b, c], _ => exact ⟨a, b, c, rfl⟩
      rw [if_pos hlen] at h
      simp only [List.mapM_cons, List.mapM_nil, o1, o2, o3, c1, c2, c3, List.drop_zero, List.drop_succ_cons, List.take_succ_cons, List.take_zero] at h
      cases ha : DataW.trod enc P W base spare held f fa.type [a] with
      | none => rw [ha] at h; simp at h
      | some x =>
        cases hb : DataW.trod enc P W base spare held f fb.type [b] with
        | none => rw [ha, hb] at h; simp at h
        | some y =>
          cases hc' : DataW.trod enc P W base spare held f fc.type [c] with
          | none => rw [ha, hb, hc'] at h; simp at h
          | some z =>
            rw [ha, hb, hc'] at h
            simp at h
            obtain ⟨x1, x2⟩ := x
            obtain ⟨y1, y2⟩ := y
            obtain ⟨z1, z2⟩ := z
            obtain ⟨⟨e1, e2, e3⟩, _⟩ := h
            simp only at e1 e2 e3
            subst e1 e2 e3
            exact RL.app (ps := [v1]) (qs := [v2, v3]) (r1 _ _ _ ha) (RL.app (ps := [v2]) (qs := [v3]) (r2 _ _ _ hb) (r3 _ _ _ hc'))
    · rw [if_neg hlen] at h; cases h
theorem pieces {α : Type} {toD : α -> DataW Unit} {toP : α -> List PV} {get : Nat -> Option (List Value)} {read : List Value -> Option (DataW Unit × List MemPlace)} (hr : ∀ x vs p, read vs = some (toD x, p) -> RL imm (toP x) vs) :
    ∀ (n s : Nat) (rows : List α) (xs : List (DataW Unit × List MemPlace)), (List.range' s n).mapM (fun i => (get i).bind read) = some xs -> xs.map (·.1) = rows.map toD ->
    rows.length = n /\ ∃ pcs : List (List Value), pcs.length = n /\ (∀ j, j < n -> get (s + j) = some (pcs.getD j [])) /\ RL imm (rows.flatMap toP) pcs.flatten
  | 0, s, rows, xs, h, he => by
    simp only [List.range'_zero, List.mapM_nil] at h
    have : xs = [] := (Option.some.inj h).symm
    subst this
    have : rows = [] := by cases rows with | nil => rfl | cons => simp at he
    subst this
    exact ⟨rfl, [], rfl, fun j hj => absurd hj (Nat.not_lt_zero _), trivial⟩
  | n + 1, s, rows, xs, h, he => by
    rw [List.range'_succ, List.mapM_cons] at h
    cases hg : get s with
    | none => rw [hg] at h; simp at h
    | some vs =>
      rw [hg] at h
      cases hx : read vs with
      | none => rw [Option.bind_some, hx] at h; simp at h
      | some x =>
        rw [Option.bind_some, hx] at h
        cases hm : (List.range' (s + 1) n).mapM (fun i => (get i).bind read) with
        | none => rw [hm] at h; simp at h
        | some ys =>
          rw [hm] at h
          have hxs : xs = x :: ys := (Option.some.inj h).symm
          subst hxs
          cases rows with
          | nil => simp at he
          | cons r rows =>
            rw [List.map_cons, List.map_cons] at he
            injection he with e1 e2
            obtain ⟨k1, pcs, k2, k3, k4⟩ := pieces hr n (s + 1) rows ys hm e2
            refine ⟨by rw [List.length_cons, k1], vs :: pcs, by rw [List.length_cons, k2], ?_, ?_⟩
            · intro j hj
              cases j with
              | zero => exact hg
              | succ j =>
                rw [List.getD_cons_succ, <- k3 j (by omega)]
                congr 1; omega
            · rw [List.flatMap_cons, List.flatten_cons]
              obtain ⟨x1, x2⟩ := x
              have e1 : x1 = toD r := e1
              subst e1
              exact RL.app (hr r vs x2 hx) k4
theorem flatten_pieces : ∀ (n m : Nat) (cs : List Value) (pcs : List (List Value)), cs.length = n * m -> pcs.length = n -> (∀ j, j < n -> pcs.getD j [] = (cs.drop (j * m)).take m) -> pcs.flatten = cs
  | 0, m, cs, pcs, h1, h2, _ => by
    have : pcs = [] := List.length_eq_zero_iff.1 h2
    subst this
    have : cs = [] := List.length_eq_zero_iff.1 (by omega)
    subst this; rfl
  | n + 1, m, cs, pcs, h1, h2, h3 => by
    cases pcs with
    | nil => simp at h2
    | cons q pcs =>
      have e0 := h3 0 (by omega)
      rw [List.getD_cons_zero, Nat.zero_mul, List.drop_zero] at e0
      have hm : (n + 1) * m = n * m + m := Nat.succ_mul n m
      have ih := flatten_pieces n m (cs.drop m) pcs (by rw [List.length_drop]; omega) (by simpa using h2) (fun j hj => by
        have := h3 (j + 1) (by omega)
        rw [List.getD_cons_succ] at this
        rw [this, List.drop_drop]
        congr 2
        rw [Nat.succ_mul]; omega)
      rw [List.flatten_cons, ih, e0, List.take_append_drop]
theorem range_range' (n : Nat) : List.range n = List.range' 0 n := List.range_eq_range'
theorem trod_arr {α : Type} {f t n e : Nat} {toD : α -> DataW Unit} {toP : α -> List PV} {rows : List α} {cs : List Value} {p : List MemPlace} (ht : P.underlying t = some (.array n e)) (hc : P.cellsOf t = n * P.cellsOf e) (hr : ∀ x f vs p, DataW.trod enc P W base spare held f e vs = some (toD x, p) -> RL imm (toP x) vs)
    (h : DataW.trod enc P W base spare held f t cs = some (.agg (rows.map toD), p)) : RL imm (rows.flatMap toP) cs := by
  cases f with
  | zero => rw [DataW.trod] at h; cases h
  | succ f =>
    unfold DataW.trod at h
    rw [ht] at h
    dsimp only at h
    by_cases hlen : cs.length = P.cellsOf t
    · rw [if_pos hlen, Option.map_eq_some_iff] at h
      obtain ⟨xs, hx, he⟩ := h
      have he : xs.map (·.1) = rows.map toD := by
        have := (Prod.mk.inj he).1
        injection this
      rw [range_range'] at hx
      obtain ⟨_, pcs, k2, k3, k4⟩ := pieces (get := fun i => some ((cs.drop (i * P.cellsOf e)).take (P.cellsOf e))) (read := DataW.trod enc P W base spare held f e) (fun x vs p => hr x f vs p) n 0 rows xs hx he
      have : pcs.flatten = cs := flatten_pieces n (P.cellsOf e) cs pcs (by rw [hlen, hc]) k2 (fun j hj => by
        have := k3 j hj
        rw [Nat.zero_add] at this
        exact (Option.some.inj this).symm)
      rw [this] at k4
      exact k4
    · rw [if_neg hlen] at h; cases h
theorem cell_spot {w : World} {a : Addr} {v : Value} (h : w.cell? (a.add 0) = some v) : a = ⟨a.block, a.off, none⟩ := by
  rw [show a.add 0 = a by simp [Addr.add]] at h
  unfold World.cell? at h
  obtain ⟨b, o, sp⟩ := a
  cases sp with
  | none => rfl
  | some s =>
    dsimp only at h
    split at h <;> simp at h
theorem addr_add (a : Addr) (m n : Nat) : (a.add m).add n = a.add (m + n) := by
  obtain ⟨b, o, s⟩ := a
  unfold Addr.add
  by_cases hm : m = 0
  · subst hm; simp
  · by_cases hn : n = 0
    · subst hn; simp
    · rw [if_neg hm, if_neg hn, if_neg (by omega)]
      simp only [Addr.mk.injEq, true_and, and_true]
      omega
theorem cells_get {w : World} {a : Addr} {base n : Nat} {vs : List Value} (h : w.cells? base a n = some vs) : vs.length = n /\ ∀ i, i < n -> w.cell? (a.add i) = some (vs.getD i undef) := by
  unfold World.cells? at h
  split at h
  · have : ∀ (n s : Nat) (vs : List Value), (List.range' s n).mapM (fun i => w.cell? (a.add i)) = some vs -> vs.length = n /\ ∀ i, i < n -> w.cell? (a.add (s + i)) = some (vs.getD i undef) := by
      intro n
      induction n with
      | zero =>
        intro s vs h
        simp only [List.range'_zero, List.mapM_nil] at h
        have : vs = [] := (Option.some.inj h).symm
        subst this
        exact ⟨rfl, fun i hi => absurd hi (Nat.not_lt_zero _)⟩
      | succ n ih =>
        intro s vs h
        rw [List.range'_succ, List.mapM_cons] at h
        cases hg : w.cell? (a.add s) with
        | none => rw [hg] at h; simp at h
        | some v =>
          rw [hg] at h
          cases hm : (List.range' (s + 1) n).mapM (fun i => w.cell? (a.add i)) with
          | none => rw [hm] at h; simp at h
          | some ys =>
            rw [hm] at h
            have hxs : vs = v :: ys := (Option.some.inj h).symm
            subst hxs
            obtain ⟨k1, k2⟩ := ih (s + 1) ys hm
            refine ⟨by rw [List.length_cons, k1], fun i hi => ?_⟩
            cases i with
            | zero => exact hg
            | succ i =>
              rw [List.getD_cons_succ, <- k2 i (by omega)]
              congr 2; omega
    have := this n 0 vs (by rw [<- range_range']; exact h)
    refine ⟨this.1, fun i hi => ?_⟩
    have := this.2 i hi
    rwa [Nat.zero_add] at this
  · cases h
theorem flatten_get {m : Nat} : ∀ (pcs : List (List Value)), (∀ q ∈ pcs, q.length = m) -> pcs.flatten.length = pcs.length * m /\ ∀ j i, j < pcs.length -> i < m -> pcs.flatten.getD (j * m + i) undef = (pcs.getD j []).getD i undef
  | [], _ => ⟨by simp, fun j i hj _ => absurd hj (by simp)⟩
  | q :: pcs, h => by
    have hq := h q (List.mem_cons_self ..)
    obtain ⟨h1, h2⟩ := flatten_get pcs (fun x hx => h x (List.mem_cons_of_mem _ hx))
    refine ⟨by rw [List.flatten_cons, List.length_append, h1, hq, List.length_cons, Nat.succ_mul]; omega, ?_⟩
    intro j i hj hi
    rw [List.flatten_cons]
    cases j with
    | zero =>
      rw [Nat.zero_mul, Nat.zero_add, List.getD_cons_zero, List.getD_eq_getElem?_getD, List.getElem?_append_left (by omega), <- List.getD_eq_getElem?_getD]
    | succ j =>
      rw [List.getD_cons_succ, <- h2 j i (by simpa using hj) hi, List.getD_eq_getElem?_getD, List.getElem?_append_right (by rw [hq, Nat.succ_mul]; omega), <- List.getD_eq_getElem?_getD, hq]
      congr 1
      rw [Nat.succ_mul]; omega
theorem trod_row {α : Type} {f t e : Nat} {toD : α -> DataW Unit} {toP : α -> List PV} {rows : List α} {cs : List Value} {p : List MemPlace} (ht : P.underlying t = some (.slice e)) (hc : 0 < P.cellsOf e) (hne : rows ≠ [])
    (hr : ∀ x f vs p, DataW.trod enc P W base spare held f e vs = some (toD x, p) -> RL (fun b o => W.cell? ⟨b, o, none⟩) (toP x) vs)
    (h : DataW.trod enc P W base spare held f t cs = some (.slice (rows.map toD) [], p)) : RL (fun b o => W.cell? ⟨b, o, none⟩) [.lst rows.length (rows.flatMap toP)] cs := by
  cases f with
  | zero => rw [DataW.trod] at h; cases h
  | succ f =>
    obtain ⟨a, len, cap, rfl⟩ : ∃ a len cap, cs = [.slice (some a) len cap] := by
      unfold DataW.trod at h
      rw [ht] at h
      dsimp only at h
      split at h <;> simp_all
    unfold DataW.trod at h
    rw [ht] at h
    dsimp only at h
    by_cases hb : base <= a.block /\ len <= cap /\ cap <= maxLen
    · rw [if_pos hb, Option.bind_eq_some_iff] at h
      obtain ⟨xs, hx, h⟩ := h
      rw [Option.map_eq_some_iff] at h
      obtain ⟨rest, _, he⟩ := h
      have he : xs.map (·.1) = rows.map toD := by
        have := (Prod.mk.inj he).1
        injection this
      rw [range_range'] at hx
      obtain ⟨k1, pcs, k2, k3, k4⟩ := pieces (get := fun i => W.cells? base (a.add (i * P.cellsOf e)) (P.cellsOf e)) (read := DataW.trod enc P W base spare held f e) (fun x vs p => hr x f vs p) len 0 rows xs hx he
      have hall : ∀ q ∈ pcs, q.length = P.cellsOf e := by
        intro q hq
        obtain ⟨j, hj, rfl⟩ := List.getElem_of_mem hq
        have := k3 j (by omega)
        rw [Nat.zero_add, List.getD_eq_getElem?_getD, List.getElem?_eq_getElem hj] at this
        exact (cells_get this).1
      obtain ⟨f1, f2⟩ := flatten_get pcs hall
      have hspot : ∀ i, i < len * P.cellsOf e -> W.cell? (a.add i) = some (pcs.flatten.getD i undef) := by
        intro i hi
        have hj : i / P.cellsOf e < len := (Nat.div_lt_iff_lt_mul hc).2 hi
        have hk := Nat.mod_lt i hc
        have hd := Nat.div_add_mod i (P.cellsOf e)
        have g1 := k3 _ hj
        rw [Nat.zero_add] at g1
        have g2 := (cells_get g1).2 _ hk
        rw [<- f2 _ _ (by omega) hk, addr_add] at g2
        have e2 : i / P.cellsOf e * P.cellsOf e + i % P.cellsOf e = i := by rw [Nat.mul_comm]; exact hd
        rw [e2] at g2
        exact g2
      have hlen0 : 0 < len := by
        rw [<- k1]
        exact List.length_pos_iff.2 hne
      have ha := cell_spot (hspot 0 (Nat.mul_pos hlen0 hc))
      refine ⟨?_, trivial⟩
      rw [k1]
      refine .lst len _ _ cap a.block a.off pcs.flatten hb.2.1 (.inr (congrArg some ha)) (RL.len k4) ?_ (RL.get k4)
      intro i hi
      have := hspot i (by rw [<- k2, <- f1]; exact hi)
      rw [ha, Addr.add_lit] at this
      exact this
    · rw [if_neg hb] at h; cases h
theorem trod_if {f t : Nat} {ms : Array Method} {d : DataW Unit} {cs : List Value} {p : List MemPlace} (ht : ∃ ms, P.underlying t = some (.interface ms)) (h : DataW.trod enc P W base spare held f t cs = some (d, p)) : ∃ v, cs = [v] /\ v.oneCell' = true /\ v.cells = #[v] := by
  obtain ⟨ms, ht⟩ := ht
  cases f with
  | zero => rw [DataW.trod] at h; cases h
  | succ f =>
    unfold DataW.trod at h
    rw [ht] at h
    dsimp only at h
    split at h <;> simp_all <;> exact ⟨rfl, rfl⟩
theorem laid_mem : ∀ {laid : List (String × DataW Unit)} {ps : List MemPlace}, DataW.LaidVars P W laid ps -> ∀ x ∈ laid, ∃ g t cs fuel p, P.globalNamed x.1 = some g /\ (P.globals[g]?).map (·.type) = some t /\ (∃ ty fz, W.heap[g]? = some (.cells cs ty fz)) /\ DataW.trod (fun _ => ()) P W 0 (fun _ => true) false fuel t cs.toList = some (x.2, p)
  | [], _, _, x, hx => by cases hx
  | (n, d) :: r, ps, h, x, hx => by
    obtain ⟨g, t, cs, fuel, p, q, h1, h2, h3, h4, h5, _⟩ := h
    rcases List.mem_cons.1 hx with rfl | hx
    · refine ⟨g, t, cs, fuel, p, h1, h2, ?_, h4⟩
      unfold World.var? at h3
      rw [h1, Option.bind_some] at h3
      split at h3
      · rename_i c ty fz hc
        cases h3
        exact ⟨ty, fz, hc⟩
      · cases h3
    · exact laid_mem h5 x hx
theorem named_eq {n : String} {g g' : Nat} {x : Global} (h : P.globalNamed n = some g) (hx : P.globals[g']? = some x) (hn : x.name = n) : g' = g := by
  unfold Program.globalNamed at h
  split at h
  · rename_i g0 he
    cases h
    obtain ⟨hg, _⟩ := Array.getElem?_eq_some_iff.1 hx
    have : g' ∈ (List.range P.globals.size).filter fun g => (P.globals[g]?).any (·.name == n) := by
      rw [List.mem_filter, List.mem_range]
      exact ⟨hg, by rw [hx]; simp [hn]⟩
    rw [he] at this
    simpa using this
  · cases h
theorem cells_at {g : Nat} {cs : Array Value} {ty : TypeId} {fz : Nat × Nat} (h : W.heap[g]? = some (.cells cs ty fz)) (i : Nat) (v : Value) (hv : cs.toList[i]? = some v) : W.cell? ⟨g, i, none⟩ = some v := by
  unfold World.cell?
  simp only [h]
  simpa using hv
end
end Go.AD.Fl

set_option linter.unusedVariables false
set_option linter.unusedSimpArgs false
set_option maxRecDepth 100000
namespace Go.AD.Fl
open Go.Proofs RowKit Go.AD.Fp
theorem pow10_rows : Go.Pinned.pow10Rows = (List.range 696).map fun (i : Nat) => (hiP ((i : Int) - 348), loP ((i : Int) - 348)) := by decide +kernel
theorem cheat_rows : Go.Pinned.cheatRows = cheatsL := by decide +kernel
def f10Rows : List Nat := [4607182418800017408, 4621819117588971520, 4636737291354636288, 4652007308841189376, 4666723172467343360, 4681608360884174848, 4696837146684686336, 4711630319722168320, 4726483295884279808, 4741671816366391296, 4756540486875873280, 4771362005757984768, 4786511204640096256, 4801453603149578240, 4816244402031689728, 4831355200913801216, 4846369599423283200, 4861130398305394688, 4876203697187506176, 4891288408196988160, 4906019910204099648, 4921056587992461136, 4936209963552724370]
theorem f10_rows : ((List.range 23).map fun (i : Nat) => FloatKind.f64.nearest ((10 ^ i : Nat) : Int)) = f10Rows := by decide +kernel
theorem flat_one {α : Type} (f : α -> PV) (l : List α) : l.flatMap (fun x => [f x]) = l.map f := by
  induction l with
  | nil => rfl
  | cons x l ih => rw [List.flatMap_cons, ih]; rfl
theorem tab_pow10 : tabPow10 = Go.Pinned.pow10Rows.flatMap fun x => [.int .u64 x.1, .int .u64 x.2] := by
  rw [pow10_rows, List.flatMap_map]; rfl
theorem tab_cheats : tabCheats = Go.Pinned.cheatRows.flatMap fun x => [.int .i64 x.1, .str x.2] := by
  rw [cheat_rows]; rfl
theorem tab_f10 : tabF10 = f10Rows.flatMap fun n => [.float .f64 n] := by
  rw [flat_one, <- f10_rows, List.map_map]; rfl
def wants : List (String × DataW Unit) := [("internal/strconv.float64info", Go.Proofs.YteabilbccbhecaaGreatDoor.Rows.laid_internal_strconv_float64info), ("internal/strconv.optimize", Go.Proofs.YteabilbccbhecaaGreatDoor.Rows.laid_internal_strconv_optimize), ("internal/strconv.powtab", Go.Proofs.YteabilbccbhecaaGreatDoor.Rows.laid_internal_strconv_powtab), ("internal/strconv.float64pow10", Go.Proofs.YteabilbccbhecaaGreatDoor.Rows.laid_internal_strconv_float64pow10), ("internal/strconv.uint64pow10", Go.Proofs.YteabilbccbhecaaGreatDoor.Rows.laid_internal_strconv_uint64pow10), ("strconv.ErrRange", Go.Proofs.YteabilbccbhecaaGreatDoor.Rows.laid_strconv_ErrRange), ("strconv.ErrSyntax", Go.Proofs.YteabilbccbhecaaGreatDoor.Rows.laid_strconv_ErrSyntax), ("internal/strconv.leftcheats", Go.Proofs.YteabilbccbhecaaGreatDoor.Rows.laid_internal_strconv_leftcheats), ("internal/strconv.pow10Tab", Go.Proofs.YteabilbccbhecaaGreatDoor.Rows.laid_internal_strconv_pow10Tab)]
section
variable {W : World}
def Holds (W : World) (g : Nat) (cs : List PV) : Prop := ∃ vs : List Value, vs.length = cs.length /\ (∀ i v, vs[i]? = some v -> W.cell? ⟨g, i, none⟩ = some v) /\ ∀ i (h : i < cs.length), RelP (fun b o => W.cell? ⟨b, o, none⟩) cs[i] (vs.getD i undef)
theorem holds_of {laid : List (String × DataW Unit)} {ps : List MemPlace} (hl : DataW.LaidVars PS W laid ps) {n : String} {d : DataW Unit} (hm : (n, d) ∈ laid) {g0 t0 : Nat} (hn : PS.globalNamed n = some g0) (ht : (PS.globals[g0]?).map (·.type) = some t0) {cs : List PV}
    (hr : ∀ f vs p, DataW.trod (fun _ => ()) PS W 0 (fun _ => true) false f t0 vs = some (d, p) -> RL (fun b o => W.cell? ⟨b, o, none⟩) cs vs) {g : Nat} {x : Global} (hx : PS.globals[g]? = some x) (hxn : x.name = n) : Holds W g cs := by
  obtain ⟨g1, t, vs, f, p, h1, h2, ⟨ty, fz, h3⟩, h4⟩ := laid_mem hl _ hm
  have e1 : g1 = g0 := by
    have := h1.symm.trans hn
    exact Option.some.inj this
  subst e1
  have e2 : t = t0 := by
    have := h2.symm.trans ht
    exact Option.some.inj this
  subst e2
  have e3 := named_eq hn hx hxn
  subst e3
  have hR := hr f vs.toList p h4
  exact ⟨vs.toList, hR.len, fun i v hv => cells_at h3 i v hv, hR.get⟩
theorem ready_of {laid : List (String × DataW Unit)} (hS : W.ShapedOpen PS) (hl : laidMet PS laid W) (hm : ∀ x ∈ wants, x ∈ laid) : Ready PS W := by
  obtain ⟨ps, hl, _, _⟩ := hl
  have hno : (List.range PS.globals.size).all (fun i => !((PS.globals[i]?.map (·.name)) == some "tedder/syntax.end")) = true := by kernel_rfl
  have uI : PS.underlying 3 = some (.int .i64) := T.un3
  have uU : PS.underlying 108 = some (.int .u64) := T.un108
  have u64 : PS.underlying 37 = some (.int .u64) := T.un37
  refine ⟨hS, fun g cs hk => ?_, fun g hk => ?_⟩
  · show Holds W g cs
    unfold Go.AD.known at hk
    cases hx : PS.globals[g]? with
    | none => rw [hx] at hk; cases hk
    | some x =>
      rw [hx] at hk
      have hk : knownTab x.name = some cs := hk
      unfold knownTab at hk
      split at hk
      · rename_i e
        exfalso
        obtain ⟨hg, _⟩ := Array.getElem?_eq_some_iff.1 hx
        have := List.all_eq_true.1 hno g (List.mem_range.2 hg)
        rw [hx, Option.map_some, e] at this
        simp at this
      split at hk
      · rename_i e
        cases hk
        refine holds_of hl (hm ("internal/strconv.pow10Tab", Go.Proofs.YteabilbccbhecaaGreatDoor.Rows.laid_internal_strconv_pow10Tab) (by simp [wants])) (g0 := 14) (t0 := 242) (by kernel_rfl) (by kernel_rfl) ?_ hx e
        intro f vs p h
        rw [tab_pow10]
        refine trod_arr (toD := fun x : Nat × Nat => .agg [.lit (.int .u64 x.1), .lit (.int .u64 x.2)]) (n := 696) (e := 241) Tryz.underlying242 (by kernel_rfl) ?_ h
        intro x f vs p h
        have hu : ∃ fa fb, PS.underlying 241 = some (.struct #[fa, fb]) /\ fa.type = 37 /\ fb.type = 37 /\ fa.offset = 0 /\ fb.offset = 1 := ⟨_, _, Tryz.underlying241, rfl, rfl, by kernel_rfl, by kernel_rfl⟩
        obtain ⟨fa, fb, hu, t1, t2, o1, o2⟩ := hu
        refine trod_two hu (by kernel_rfl) o1 o2 (by rw [t1]; kernel_rfl) (by rw [t2]; kernel_rfl) ?_ ?_ h
        · intro f cs p h; rw [t1] at h; exact trod_int u64 h
        · intro f cs p h; rw [t2] at h; exact trod_int u64 h
      split at hk
      · rename_i e
        cases hk
        refine holds_of hl (hm ("internal/strconv.uint64pow10", Go.Proofs.YteabilbccbhecaaGreatDoor.Rows.laid_internal_strconv_uint64pow10) (by simp [wants])) (g0 := 8) (t0 := 192) (by kernel_rfl) (by kernel_rfl) ?_ hx e
        intro f vs p h
        have he : u64s ((List.range 20).map fun i => 10 ^ i) = ((List.range 20).map fun i => 10 ^ i).flatMap fun (n : Nat) => [PV.int .u64 (n : Int)] := by rw [flat_one]; rfl
        rw [he]
        have hd : (Go.Proofs.YteabilbccbhecaaGreatDoor.Rows.laid_internal_strconv_uint64pow10 : DataW Unit) = .agg (((List.range 20).map fun i => 10 ^ i).map fun (n : Nat) => .lit (.int .u64 (n : Int))) := by kernel_rfl
        rw [hd] at h
        refine trod_arr (n := 20) (e := 37) Tryz.underlying192 (by kernel_rfl) ?_ h
        intro x f vs p h
        exact trod_int u64 h
      split at hk
      · rename_i e
        cases hk
        refine holds_of hl (hm ("internal/strconv.powtab", Go.Proofs.YteabilbccbhecaaGreatDoor.Rows.laid_internal_strconv_powtab) (by simp [wants])) (g0 := 11) (t0 := 85) (by kernel_rfl) (by kernel_rfl) ?_ hx e
        intro f vs p h
        refine trod_row (rows := [1, 3, 6, 9, 13, 16, 19, 23, 26]) (toD := fun (n : Int) => .lit (.int .i64 n)) (toP := fun n => [.int .i64 n]) (e := 3) Tryz.underlying85 (by rw [show PS.cellsOf 3 = 1 by kernel_rfl]; decide) (by simp) ?_ h
        intro x f vs p h
        exact trod_int uI h
      split at hk
      · rename_i e
        cases hk
        refine holds_of hl (hm ("internal/strconv.leftcheats", Go.Proofs.YteabilbccbhecaaGreatDoor.Rows.laid_internal_strconv_leftcheats) (by simp [wants])) (g0 := 17) (t0 := 257) (by kernel_rfl) (by kernel_rfl) ?_ hx e
        intro f vs p h
        rw [tab_cheats, show (61 : Nat) = Go.Pinned.cheatRows.length by kernel_rfl]
        refine trod_row (toD := fun x : Nat × List UInt8 => .agg [.lit (.int .i64 x.1), .lit (.string x.2)]) (e := 256) Tryz.underlying257 (by rw [show PS.cellsOf 256 = 2 by kernel_rfl]; decide) (by rw [cheat_rows]; simp [cheatsL]) ?_ h
        intro x f vs p h
        have hu : ∃ fa fb, PS.underlying 256 = some (.struct #[fa, fb]) /\ fa.type = 3 /\ fb.type = 9 /\ fa.offset = 0 /\ fb.offset = 1 := ⟨_, _, Tryz.underlying256, rfl, rfl, by kernel_rfl, by kernel_rfl⟩
        obtain ⟨fa, fb, hu, t1, t2, o1, o2⟩ := hu
        refine trod_two hu (by kernel_rfl) o1 o2 (by rw [t1]; kernel_rfl) (by rw [t2]; kernel_rfl) ?_ ?_ h
        · intro f cs p h; rw [t1] at h; exact trod_int uI h
        · intro f cs p h; rw [t2] at h; exact trod_str T.und9 h
      split at hk
      · rename_i e
        cases hk
        refine holds_of hl (hm ("internal/strconv.float64pow10", Go.Proofs.YteabilbccbhecaaGreatDoor.Rows.laid_internal_strconv_float64pow10) (by simp [wants])) (g0 := 12) (t0 := 217) (by kernel_rfl) (by kernel_rfl) ?_ hx e
        intro f vs p h
        rw [tab_f10]
        refine trod_row (rows := f10Rows) (toD := fun (n : Nat) => .lit (.float .f64 n)) (e := 22) Tryz.underlying217 (by rw [show PS.cellsOf 22 = 1 by kernel_rfl]; decide) (by simp [f10Rows]) ?_ h
        intro x f vs p h
        exact trod_float T.un22 h
      split at hk
      · rename_i e
        cases hk
        refine holds_of hl (hm ("internal/strconv.float64info", Go.Proofs.YteabilbccbhecaaGreatDoor.Rows.laid_internal_strconv_float64info) (by simp [wants])) (g0 := 7) (t0 := 171) (by kernel_rfl) (by kernel_rfl) ?_ hx e
        intro f vs p h
        have hu : ∃ fa fb fc, PS.underlying 171 = some (.struct #[fa, fb, fc]) /\ fa.type = 108 /\ fb.type = 108 /\ fc.type = 3 /\ fa.offset = 0 /\ fb.offset = 1 /\ fc.offset = 2 := ⟨_, _, _, Tryz.underlying171, rfl, rfl, rfl, by kernel_rfl, by kernel_rfl, by kernel_rfl⟩
        obtain ⟨fa, fb, fc, hu, t1, t2, t3, o1, o2, o3⟩ := hu
        refine trod_three hu (by kernel_rfl) o1 o2 o3 (by rw [t1]; kernel_rfl) (by rw [t2]; kernel_rfl) (by rw [t3]; kernel_rfl) ?_ ?_ ?_ h
        · intro f cs p h; rw [t1] at h; exact trod_int uU h
        · intro f cs p h; rw [t2] at h; exact trod_int uU h
        · intro f cs p h; rw [t3] at h; exact trod_int uI h
      split at hk
      · rename_i e
        cases hk
        refine holds_of hl (hm ("internal/strconv.optimize", Go.Proofs.YteabilbccbhecaaGreatDoor.Rows.laid_internal_strconv_optimize) (by simp [wants])) (g0 := 6) (t0 := 4) (by kernel_rfl) (by kernel_rfl) ?_ hx e
        intro f vs p h
        exact trod_bool unBool h
      · cases hk
  · unfold Go.AD.anyG at hk
    cases hx : PS.globals[g]? with
    | none => rw [hx] at hk; cases hk
    | some x =>
      rw [hx] at hk
      have hk : (x.name == "strconv.ErrRange" || x.name == "strconv.ErrSyntax") = true := hk
      have key : ∀ (n : String) (d : DataW Unit) (g0 : Nat), (n, d) ∈ laid -> PS.globalNamed n = some g0 -> (PS.globals[g0]?).map (·.type) = some 75 -> x.name = n -> ∃ v, W.cell? ⟨g, 0, none⟩ = some v /\ v.oneCell' = true /\ v.cells = #[v] := by
        intro n d g0 hmem hn ht hxn
        obtain ⟨g1, t, vs, f, p, h1, h2, ⟨ty, fz, h3⟩, h4⟩ := laid_mem hl _ hmem
        have e1 : g1 = g0 := Option.some.inj (h1.symm.trans hn)
        subst e1
        have e2 : t = 75 := Option.some.inj (h2.symm.trans ht)
        subst e2
        have e3 := named_eq hn hx hxn
        subst e3
        obtain ⟨v, hv, h5, h6⟩ := trod_if (ms := #[]) unErr h4
        exact ⟨v, cells_at h3 0 v (by rw [hv]; rfl), h5, h6⟩
      rw [Bool.or_eq_true, beq_iff_eq, beq_iff_eq] at hk
      rcases hk with e | e
      · exact key _ _ 2 (hm ("strconv.ErrRange", Go.Proofs.YteabilbccbhecaaGreatDoor.Rows.laid_strconv_ErrRange) (by simp [wants])) (by kernel_rfl) (by kernel_rfl) e
      · exact key _ _ 1 (hm ("strconv.ErrSyntax", Go.Proofs.YteabilbccbhecaaGreatDoor.Rows.laid_strconv_ErrSyntax) (by simp [wants])) (by kernel_rfl) (by kernel_rfl) e
end
end Go.AD.Fl

set_option linter.unusedVariables false
set_option linter.unusedSimpArgs false
set_option maxRecDepth 100000
namespace Go.AD.Fl
open Go.Proofs RowKit Go.AD.Fp
section
variable {P : Program} {W : World} {r : Reach} {base : Nat}
theorem cell_str {u : TypeId} {v : Value} (hu : P.underlying u = some .string) (h : Cell.okWide P W r base u v) : ∃ l : Bytes, v = .string ⟨l.toArray⟩ := by
  simp only [Cell.okWide, hu] at h
  cases v <;> simp_all [Cell.ok]
  rename_i s
  exact ⟨s.data.toList, by cases s; simp⟩
theorem cell_f64 {u : TypeId} {v : Value} (hu : P.underlying u = some (.float .f64)) (h : Cell.okWide P W r base u v) : ∃ b, v = .float .f64 b := by
  simp only [Cell.okWide, hu] at h
  cases v <;> simp_all [Cell.ok]
def TR (P : Program) : List TypeId -> Prop
  | [] => True
  | [_] => False
  | [_, _] => False
  | a :: b :: c :: r => P.underlying a = some .string /\ P.underlying b = some (.float .f64) /\ P.underlying c = some .string /\ TR P r
theorem rows_in : ∀ {ts : List TypeId} {vs : List Value}, TR P ts -> vs.length = ts.length -> (∀ (i : Nat) v, vs[i]? = some v -> ∃ u, ts[i]? = some u /\ Cell.okWide P W r base u v) ->
    ∃ l : List P3, l.length * 3 = ts.length /\ RelL (Gh.start W) (flatP l) vs
  | [], vs, _, hl, _ => by
    have : vs = [] := List.eq_nil_of_length_eq_zero (by simpa using hl)
    subst this
    exact ⟨[], rfl, RelL.nil _⟩
  | [_], _, h, _, _ => h.elim
  | [_, _], _, h, _, _ => h.elim
  | a :: b :: c :: ts, vs, h, hl, hv => by
    obtain ⟨h1, h2, h3, h4⟩ := h
    match vs, hl with
    | v1 :: v2 :: v3 :: vs, hl =>
      obtain ⟨_, e1, k1⟩ := hv 0 v1 rfl
      obtain ⟨_, e2, k2⟩ := hv 1 v2 rfl
      obtain ⟨_, e3, k3⟩ := hv 2 v3 rfl
      cases e1; cases e2; cases e3
      obtain ⟨l1, rfl⟩ := cell_str h1 k1
      obtain ⟨n2, rfl⟩ := cell_f64 h2 k2
      obtain ⟨l3, rfl⟩ := cell_str h3 k3
      obtain ⟨l, hl, hr⟩ := rows_in (ts := ts) (vs := vs) h4 (by simpa using hl) (fun i v hi => hv (i + 3) v hi)
      refine ⟨(l1, n2, l3) :: l, by simp only [List.length_cons]; omega, ?_⟩
      exact RelL.cons (.pv (.str l1)) (RelL.cons (.pv (.float _ _)) (RelL.cons (.pv (.str l3)) hr))
theorem agg_in {t : TypeId} {v : Value} {ts : List TypeId} (hu : (∃ fs, P.underlying t = some (.struct fs)) \/ ∃ n e, P.underlying t = some (.array n e)) (hT : P.cellTypes P.depth t = some ts) (hc : P.cellsOf t = ts.length) (hR : TR P ts) (h : Value.okWide P W r base t v) :
    ∃ l : List P3, l.length * 3 = ts.length /\ RelV (Gh.start W) (.agg (flatP l)) v := by
  have h : ∃ cs, v = .agg cs /\ cs.size = P.cellsOf t /\ Row.okWide P W r base t cs := by
    unfold Value.okWide at h
    rcases hu with ⟨fs, hu⟩ | ⟨n, e, hu⟩ <;> rw [hu] at h <;> exact h
  obtain ⟨cs, rfl, hs, ts', e, _, hv⟩ := h
  rw [hT] at e
  cases e
  obtain ⟨l, h1, h2⟩ := rows_in (W := W) (vs := cs.toList) hR (by rw [Array.length_toList, hs, hc]) (fun i v hi => by
    have hi' : cs[i]? = some v := by rw [<- Array.getElem?_toList]; exact hi
    obtain ⟨u, e1, e2⟩ := hv i v hi'
    have hlt : i < ts.length := by
      obtain ⟨k, _⟩ := Array.getElem?_eq_some_iff.1 hi'
      omega
    rw [Nat.mod_eq_of_lt hlt] at e1
    exact ⟨u, e1, e2⟩)
  refine ⟨l, h1, ?_⟩
  have := RelV.of_agg h2
  simpa using this
theorem vals3_in {v : Value} (h : Value.okWide PS W r base 25 v) : ∃ x y z : P3, RelV (Gh.start W) (.agg (flatP [x, y, z])) v := by
  obtain ⟨l, h1, h2⟩ := agg_in (ts := [9, 22, 9, 9, 22, 9, 9, 22, 9]) (.inr ⟨_, _, Tryz.underlying25⟩) (by kernel_rfl) (by kernel_rfl) ⟨T.und9, T.un22, T.und9, T.und9, T.un22, T.und9, T.und9, T.un22, T.und9, trivial⟩ h
  obtain ⟨x, y, z, rfl⟩ : ∃ x y z, l = [x, y, z] := by
    have hl : l.length = 3 := by simp only [List.length_cons, List.length_nil] at h1; omega
    match l, hl with
    | [x, y, z], _ => exact ⟨x, y, z, rfl⟩
  exact ⟨x, y, z, h2⟩
end
end Go.AD.Fl

set_option linter.unusedVariables false
namespace Go.AD
open Go.ChangeShapes Go.WideShapes
theorem RelL.one {ρ:Gh} {a:AV} {u:Value} (h:RelV ρ a u):RelL ρ [a] [u]:=.cons h (.nil ρ)
end Go.AD
