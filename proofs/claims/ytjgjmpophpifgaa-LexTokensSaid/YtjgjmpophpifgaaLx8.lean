/- lex: the laws' functions. -/
import Derived.Test.YtjgjmpophpifgaaLx6
import Derived.Test.YtjgjmpophpifgaaLx7
set_option linter.unusedVariables false
namespace Go.AD.Lx
open Go.Proofs
theorem F_awake5 (hm : HM) : SoundF PS 10 T_true0 := body_sound hm (envL8_ok hm) an10 Try.func10 Try.call10 S10_ok (fun args σ K X h => (T_awake5_ok rfl h))
theorem F_quote5 (hm : HM) : SoundF PS 14 T_quote5 := body_sound hm (envL8_ok hm) an14 Try.func14 Try.call14 S14_ok (fun args σ K X h => T_quote5_ok h)
theorem F_rSame (hm : HM) : SoundF PS 13 T_rSame := body_sound hm (envL8_ok hm) an13 Try.func13 Try.call13 S13_ok (fun args σ K X h => T_rSame_ok h)
def envL9 : Env := (((envL8.add 10 T_true0).add 14 T_quote5).add 13 T_rSame)
theorem envL9_ok (hm : HM) : EnvOk PS envL9 := EnvOk.add (EnvOk.add (EnvOk.add (envL8_ok hm) (F_awake5 hm)) (F_quote5 hm)) (F_rSame hm)
theorem F_LexQuotes (hm : HM) : SoundF PS 4 T_law1 := body_sound hm (envL9_ok hm) an4 Try.func4 Try.call4 S4_ok (fun args σ K X h => (T_LexQuotes_ok rfl rfl rfl h))
theorem F_LexJoins (hm : HM) : SoundF PS 5 T_law2 := body_sound hm (envL9_ok hm) an5 Try.func5 Try.call5 S5_ok (fun args σ K X h => (T_LexJoins_ok rfl rfl rfl h))
theorem F_LexBlanks (hm : HM) : SoundF PS 6 T_law2 := body_sound hm (envL9_ok hm) an6 Try.func6 Try.call6 S6_ok (fun args σ K X h => (T_LexBlanks_ok rfl rfl rfl h))
def envL10 : Env := (((envL9.add 4 T_law1).add 5 T_law2).add 6 T_law2)
theorem envL10_ok (hm : HM) : EnvOk PS envL10 := EnvOk.add (EnvOk.add (EnvOk.add (envL9_ok hm) (F_LexQuotes hm)) (F_LexJoins hm)) (F_LexBlanks hm)
end Go.AD.Lx
