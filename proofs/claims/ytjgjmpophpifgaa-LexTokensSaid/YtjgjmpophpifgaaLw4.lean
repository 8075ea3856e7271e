/- lex: the document's functions, one behind the other. -/
import Derived.Test.YtjgjmpophpifgaaLw3
import Derived.Test.YtjgjmpophpifgaaLx7
set_option linter.unusedVariables false
namespace Go.AD.Lx
open Go.Proofs
theorem F_rletter (hm : HM) : SoundF PS 23 (byteT letterB) := body_sound hm (envL8_ok hm) an23 Try.func23 Try.call23 S23_ok (fun args σ K X h => T_rletter_ok h)
theorem F_rdigit (hm : HM) : SoundF PS 24 (byteT digitB) := body_sound hm (envL8_ok hm) an24 Try.func24 Try.call24 S24_ok (fun args σ K X h => T_rdigit_ok h)
theorem F_ramong (hm : HM) : SoundF PS 25 T_ramong := body_sound hm (envL8_ok hm) an25 Try.func25 Try.call25 S25_ok (fun args σ K X h => T_ramong_ok h)
theorem F_rbarred (hm : HM) : SoundF PS 26 (T_strs wBarred) := body_sound hm (envL8_ok hm) an26 Try.func26 Try.call26 S26_ok (fun args σ K X h => T_rbarred_ok h)
theorem F_rwords (hm : HM) : SoundF PS 27 (T_strs wWords) := body_sound hm (envL8_ok hm) an27 Try.func27 Try.call27 S27_ok (fun args σ K X h => T_rwords_ok h)
theorem F_rbuilts (hm : HM) : SoundF PS 28 (T_strs wBuilts) := body_sound hm (envL8_ok hm) an28 Try.func28 Try.call28 S28_ok (fun args σ K X h => T_rbuilts_ok h)
theorem F_rops (hm : HM) : SoundF PS 29 (T_strs allOps) := body_sound hm (envL8_ok hm) an29 Try.func29 Try.call29 S29_ok (fun args σ K X h => T_rops_ok h)
theorem F_rslashes (hm : HM) : SoundF PS 22 (T_rquote 47 inEreS) := body_sound hm (envL8_ok hm) an22 Try.func22 Try.call22 S22_ok (fun args σ K X h => T_rslashes_ok h)
theorem F_rtext (hm : HM) : SoundF PS 20 (T_rquote 34 inTextS) := body_sound hm (envL8_ok hm) an20 Try.func20 Try.call20 S20_ok (fun args σ K X h => T_rtext_ok h)
def envR1 : Env := (((((((((envL8.add 23 (byteT letterB)).add 24 (byteT digitB)).add 25 (Tr.wk T_ramong)).add 26 (T_strs wBarred)).add 27 (T_strs wWords)).add 28 (T_strs wBuilts)).add 29 (T_strs allOps)).add 22 (T_rquote 47 inEreS)).add 20 (T_rquote 34 inTextS))
theorem envR1_ok (hm : HM) : EnvOk PS envR1 := EnvOk.add (EnvOk.add (EnvOk.add (EnvOk.add (EnvOk.add (EnvOk.add (EnvOk.add (EnvOk.add (EnvOk.add (envL8_ok hm) (F_rletter hm)) (F_rdigit hm)) (F_ramong hm).wk) (F_rbarred hm)) (F_rwords hm)) (F_rbuilts hm)) (F_rops hm)) (F_rslashes hm)) (F_rtext hm)
theorem F_rnumber (hm : HM) : SoundF PS 19 T_number := body_sound hm (envR1_ok hm) an19 Try.func19 Try.call19 S19_ok (fun args σ K X h => (T_rnumber_ok rfl h))
theorem F_roperand (hm : HM) : SoundF PS 21 T_roperand := body_sound hm (envR1_ok hm) an21 Try.func21 Try.call21 S21_ok (fun args σ K X h => (T_roperand_ok rfl h))
def envR2 : Env := ((envR1.add 19 T_number).add 21 T_roperand)
theorem envR2_ok (hm : HM) : EnvOk PS envR2 := EnvOk.add (EnvOk.add (envR1_ok hm) (F_rnumber hm)) (F_roperand hm)
theorem F_rLex (hm : HM) : SoundF PS 12 T_Lex := body_sound hm (envR2_ok hm) an12 Try.func12 Try.call12 S12_ok (fun args σ K X h => (T_rLex_ok ⟨rfl, rfl, rfl, rfl, rfl, rfl, rfl, rfl, rfl, rfl, rfl⟩ h))
def envR3 : Env := (envR2.add 12 T_Lex)
theorem envR3_ok (hm : HM) : EnvOk PS envR3 := EnvOk.add (envR2_ok hm) (F_rLex hm)
end Go.AD.Lx
