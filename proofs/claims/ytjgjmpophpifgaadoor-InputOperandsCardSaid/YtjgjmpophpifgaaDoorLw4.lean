/- lex: the document's functions, one behind the other. -/
import Derived.Test.YtjgjmpophpifgaaDoorLw3
import Derived.Test.YtjgjmpophpifgaaDoorLx7
set_option linter.unusedVariables false
namespace Go.AD.Lx
open Go.Proofs
theorem F_rletter (hm : HM) : SoundF PS 53 (byteT letterB) := body_sound hm (envL8_ok hm) an53 Tryd.func53 Tryd.call53 S53_ok (fun args σ K X h => T_rletter_ok h)
theorem F_rdigit (hm : HM) : SoundF PS 54 (byteT digitB) := body_sound hm (envL8_ok hm) an54 Tryd.func54 Tryd.call54 S54_ok (fun args σ K X h => T_rdigit_ok h)
theorem F_ramong (hm : HM) : SoundF PS 55 T_ramong := body_sound hm (envL8_ok hm) an55 Tryd.func55 Tryd.call55 S55_ok (fun args σ K X h => T_ramong_ok h)
theorem F_rbarred (hm : HM) : SoundF PS 56 (T_strs wBarred) := body_sound hm (envL8_ok hm) an56 Tryd.func56 Tryd.call56 S56_ok (fun args σ K X h => T_rbarred_ok h)
theorem F_rwords (hm : HM) : SoundF PS 57 (T_strs wWords) := body_sound hm (envL8_ok hm) an57 Tryd.func57 Tryd.call57 S57_ok (fun args σ K X h => T_rwords_ok h)
theorem F_rbuilts (hm : HM) : SoundF PS 58 (T_strs wBuilts) := body_sound hm (envL8_ok hm) an58 Tryd.func58 Tryd.call58 S58_ok (fun args σ K X h => T_rbuilts_ok h)
theorem F_rops (hm : HM) : SoundF PS 59 (T_strs allOps) := body_sound hm (envL8_ok hm) an59 Tryd.func59 Tryd.call59 S59_ok (fun args σ K X h => T_rops_ok h)
theorem F_rslashes (hm : HM) : SoundF PS 52 (T_rquote 47 inEreS) := body_sound hm (envL8_ok hm) an52 Tryd.func52 Tryd.call52 S52_ok (fun args σ K X h => T_rslashes_ok h)
theorem F_rtext (hm : HM) : SoundF PS 50 (T_rquote 34 inTextS) := body_sound hm (envL8_ok hm) an50 Tryd.func50 Tryd.call50 S50_ok (fun args σ K X h => T_rtext_ok h)
def envR1 : Env := (((((((((envL8.add 53 (byteT letterB)).add 54 (byteT digitB)).add 55 (Tr.wk T_ramong)).add 56 (T_strs wBarred)).add 57 (T_strs wWords)).add 58 (T_strs wBuilts)).add 59 (T_strs allOps)).add 52 (T_rquote 47 inEreS)).add 50 (T_rquote 34 inTextS))
theorem envR1_ok (hm : HM) : EnvOk PS envR1 := EnvOk.add (EnvOk.add (EnvOk.add (EnvOk.add (EnvOk.add (EnvOk.add (EnvOk.add (EnvOk.add (EnvOk.add (envL8_ok hm) (F_rletter hm)) (F_rdigit hm)) (F_ramong hm).wk) (F_rbarred hm)) (F_rwords hm)) (F_rbuilts hm)) (F_rops hm)) (F_rslashes hm)) (F_rtext hm)
theorem F_rnumber (hm : HM) : SoundF PS 49 T_number := body_sound hm (envR1_ok hm) an49 Tryd.func49 Tryd.call49 S49_ok (fun args σ K X h => (T_rnumber_ok rfl h))
theorem F_roperand (hm : HM) : SoundF PS 51 T_roperand := body_sound hm (envR1_ok hm) an51 Tryd.func51 Tryd.call51 S51_ok (fun args σ K X h => (T_roperand_ok rfl h))
def envR2 : Env := ((envR1.add 49 T_number).add 51 T_roperand)
theorem envR2_ok (hm : HM) : EnvOk PS envR2 := EnvOk.add (EnvOk.add (envR1_ok hm) (F_rnumber hm)) (F_roperand hm)
theorem F_rLex (hm : HM) : SoundF PS 29 T_Lex := body_sound hm (envR2_ok hm) an29 Tryd.func29 Tryd.call29 S29_ok (fun args σ K X h => (T_rLex_ok ⟨rfl, rfl, rfl, rfl, rfl, rfl, rfl, rfl, rfl, rfl, rfl⟩ h))
def envR3 : Env := (envR2.add 29 T_Lex)
theorem envR3_ok (hm : HM) : EnvOk PS envR3 := EnvOk.add (envR2_ok hm) (F_rLex hm)
end Go.AD.Lx
