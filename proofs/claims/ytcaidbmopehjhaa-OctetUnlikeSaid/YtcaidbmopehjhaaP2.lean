/- octet: the functions, one behind the other. -/
import Derived.Test.YtcaidbmopehjhaaP1
set_option linter.unusedVariables false
namespace Go.AD
open Go.Proofs
abbrev HM : Prop := Go.Proofs.Try.prog.follows .mixedOrders = true
theorem F36 (hm : HM) : SoundF PA 36 T36 := body_sound hm envO1_ok an36 Try.func36 Try.call36 S36_ok T36_ok
theorem F37 (hm : HM) : SoundF PA 37 T37 := body_sound hm envO1_ok an37 Try.func37 Try.call37 S37_ok T37_ok
theorem F53 (hm : HM) : SoundF PA 53 T53 := body_sound hm envO1_ok an53 Try.func53 Try.call53 S53_ok T53_ok
theorem F49 (hm : HM) : SoundF PA 49 T49 := body_sound hm envO1_ok an49 Try.func49 Try.call49 S49_ok T49_ok
theorem F50 (hm : HM) : SoundF PA 50 T50 := body_sound hm envO1_ok an50 Try.func50 Try.call50 S50_ok T50_ok
theorem F28 (hm : HM) : SoundF PA 28 T28 := body_sound hm envO1_ok an28 Try.func28 Try.call28 S28_ok T28_ok
theorem F30 (hm : HM) : SoundF PA 30 T30 := body_sound hm envO1_ok an30 Try.func30 Try.call30 S30_ok T30_ok
theorem F18 (hm : HM) : SoundF PA 18 T18 := body_sound hm envO1_ok an18 Try.func18 Try.call18 S18_ok T18_ok
theorem F33 (hm : HM) : SoundF PA 33 T33 := body_sound hm envO1_ok an33 Try.func33 Try.call33 S33_ok T33_ok
theorem F43 (hm : HM) : SoundF PA 43 T43 := body_sound hm envO1_ok an43 Try.func43 Try.call43 S43_ok T43_ok
theorem F38 (hm : HM) : SoundF PA 38 T38 := body_sound hm envO1_ok an38 Try.func38 Try.call38 S38_ok T38_ok
theorem F42 (hm : HM) : SoundF PA 42 T42 := body_sound hm envO1_ok an42 Try.func42 Try.call42 S42_ok T42_ok
theorem F39 (hm : HM) : SoundF PA 39 T39 := body_sound hm envO1_ok an39 Try.func39 Try.call39 S39_ok T39_ok
theorem F52 (hm : HM) : SoundF PA 52 T52 := body_sound hm envO1_ok an52 Try.func52 Try.call52 S52_ok T52_ok
theorem F41 (hm : HM) : SoundF PA 41 T41 := body_sound hm envO1_ok an41 Try.func41 Try.call41 S41_ok T41_ok
theorem F32 (hm : HM) : SoundF PA 32 T32 := body_sound hm envO1_ok an32 Try.func32 Try.call32 S32_ok T32_ok
def envO2 : Env := ((((((((((((((((envO1.add 36 T36).add 37 T37).add 53 (Tr.wk T53)).add 49 T49).add 50 T50).add 28 T28).add 30 T30).add 18 T18).add 33 T33).add 43 T43).add 38 T38).add 42 T42).add 39 T39).add 52 T52).add 41 T41).add 51 T51).add 32 T32
theorem envO2_ok (hm : HM) : EnvOk PA envO2 := ((((((((((((((((envO1_ok.add (F36 hm)).add (F37 hm)).add (F53 hm).wk).add (F49 hm)).add (F50 hm)).add (F28 hm)).add (F30 hm)).add (F18 hm)).add (F33 hm)).add (F43 hm)).add (F38 hm)).add (F42 hm)).add (F39 hm)).add (F52 hm)).add (F41 hm)).add F51).add (F32 hm)
theorem F19 (hm : HM) : SoundF PA 19 T19 := body_sound hm (envO2_ok hm) an19 Try.func19 Try.call19 S19_ok (T19_ok rfl)
theorem F35 (hm : HM) : SoundF PA 35 T35 := body_sound hm (envO2_ok hm) an35 Try.func35 Try.call35 S35_ok (T35_ok rfl)
theorem F34 (hm : HM) : SoundF PA 34 T52 := body_sound hm (envO2_ok hm) an34 Try.func34 Try.call34 S34_ok (T34_ok rfl)
theorem F21 (hm : HM) : SoundF PA 21 T21 := body_sound hm (envO2_ok hm) an21 Try.func21 Try.call21 S21_ok (T21_ok rfl rfl rfl)
theorem F48 (hm : HM) : SoundF PA 48 T48 := body_sound hm (envO2_ok hm) an48 Try.func48 Try.call48 S48_ok (T48_ok rfl rfl)
theorem F31 (hm : HM) : SoundF PA 31 T31 := body_sound hm (envO2_ok hm) an31 Try.func31 Try.call31 S31_ok (T31_ok rfl)
def envO3 : Env := (((((envO2.add 19 T19).add 35 T35).add 34 T52).add 21 T21).add 48 T48).add 31 T31
theorem envO3_ok (hm : HM) : EnvOk PA envO3 := ((((((envO2_ok hm).add (F19 hm)).add (F35 hm)).add (F34 hm)).add (F21 hm)).add (F48 hm)).add (F31 hm)
theorem F20 (hm : HM) : SoundF PA 20 T20 := body_sound hm (envO3_ok hm) an20 Try.func20 Try.call20 S20_ok (T20_ok rfl rfl rfl rfl rfl rfl rfl)
theorem F27 (hm : HM) : SoundF PA 27 T27 := body_sound hm (envO3_ok hm) an27 Try.func27 Try.call27 S27_ok (T27_ok rfl)
theorem F29 (hm : HM) : SoundF PA 29 T29 := body_sound hm (envO3_ok hm) an29 Try.func29 Try.call29 S29_ok (T29_ok rfl)
def envO4 : Env := ((envO3.add 20 T20).add 27 T27).add 29 T29
theorem envO4_ok (hm : HM) : EnvOk PA envO4 := (((envO3_ok hm).add (F20 hm)).add (F27 hm)).add (F29 hm)
theorem F17 (hm : HM) : SoundF PA 17 T17 := body_sound hm (envO4_ok hm) an17 Try.func17 Try.call17 S17_ok (T17_ok rfl rfl rfl)
def envO5 : Env := envO4.add 17 T17
theorem envO5_ok (hm : HM) : EnvOk PA envO5 := (envO4_ok hm).add (F17 hm)
theorem F5 (hm : HM) : SoundF PA 5 T5 := body_sound hm (envO5_ok hm) an5 Try.func5 Try.call5 S5_ok (T5_ok rfl rfl rfl)
theorem F6 (hm : HM) : SoundF PA 6 T6 := body_sound hm (envO5_ok hm) an6 Try.func6 Try.call6 S6_ok (T6_ok rfl rfl)
theorem F7 (hm : HM) : SoundF PA 7 T7 := body_sound hm (envO5_ok hm) an7 Try.func7 Try.call7 S7_ok (T7_ok rfl rfl rfl)
theorem F11 (hm : HM) : SoundF PA 11 T7 := body_sound hm (envO5_ok hm) an11 Try.func11 Try.call11 S11_ok (T11_ok rfl rfl rfl rfl rfl)
theorem F12 (hm : HM) : SoundF PA 12 T12 := body_sound hm (envO5_ok hm) an12 Try.func12 Try.call12 S12_ok (T12_ok rfl rfl rfl)
theorem F13 (hm : HM) : SoundF PA 13 T12 := body_sound hm (envO5_ok hm) an13 Try.func13 Try.call13 S13_ok (T13_ok rfl rfl rfl)
end Go.AD
