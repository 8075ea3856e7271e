/- ere: the functions, one behind the other; the recursion. -/
import Derived.Test.YtjgjmpophpifgaaLeA
set_option linter.unusedVariables false
namespace Go.AD.Lx
open Go.Proofs
abbrev HME : Prop := Go.Proofs.Try.prog.follows .mixedOrders = true
def envE1 : Env := (((env0.add 61 T_CutPrefix).add 80 T_CutE).add 46 T_IndexByte)
theorem envE1_ok (hm : HME) : EnvOk PS envE1 := EnvOk.add (EnvOk.add (EnvOk.add (env0_ok PS) (F_CutPrefix)) (F_CutE)) (F_IndexByte)
theorem F_ePeek (hm : HME) : SoundF PS 58 T_ePeek := body_sound hm (envE1_ok hm) an58 Try.func58 Try.call58 S58_ok (fun args σ K X h => T_ePeek_ok h)
theorem F_eTake (hm : HME) : SoundF PS 48 T_eTake := body_sound hm (envE1_ok hm) an48 Try.func48 Try.call48 S48_ok (fun args σ K X h => (T_eTake_ok rfl h))
theorem F_eDigits (hm : HME) : SoundF PS 73 T_eDigits := body_sound hm (envE1_ok hm) an73 Try.func73 Try.call73 S73_ok (fun args σ K X h => T_eDigits_ok h)
theorem F_ePut (hm : HME) : SoundF PS 76 T_ePut := body_sound hm (envE1_ok hm) an76 Try.func76 Try.call76 S76_ok (fun args σ K X h => T_ePut_ok h)
theorem F_eText (hm : HME) : SoundF PS 68 T_eText := body_sound hm (envE1_ok hm) an68 Try.func68 Try.call68 S68_ok (fun args σ K X h => T_eText_ok h)
theorem F_eCount (hm : HME) : SoundF PS 74 T_eCount := body_sound hm (envE1_ok hm) an74 Try.func74 Try.call74 S74_ok (fun args σ K X h => T_eCount_ok h)
theorem F_eJoined (hm : HME) : SoundF PS 49 T_eJoined := body_sound hm (envE1_ok hm) an49 Try.func49 Try.call49 S49_ok (fun args σ K X h => T_eJoined_ok h)
def envE2 : Env := (((((((envE1.add 58 T_ePeek).add 48 T_eTake).add 73 T_eDigits).add 76 T_ePut).add 68 T_eText).add 74 T_eCount).add 49 (Tr.wk T_eJoined))
theorem envE2_ok (hm : HME) : EnvOk PS envE2 := EnvOk.add (EnvOk.add (EnvOk.add (EnvOk.add (EnvOk.add (EnvOk.add (EnvOk.add (envE1_ok hm) (F_ePeek hm)) (F_eTake hm)) (F_eDigits hm)) (F_ePut hm)) (F_eText hm)) (F_eCount hm)) (F_eJoined hm).wk
theorem F_eEscaped (hm : HME) : SoundF PS 69 T_eEscaped := body_sound hm (envE2_ok hm) an69 Try.func69 Try.call69 S69_ok (fun args σ K X h => (T_eEscaped_ok rfl rfl h))
theorem F_eClass (hm : HME) : SoundF PS 81 T_eClass := body_sound hm (envE2_ok hm) an81 Try.func81 Try.call81 S81_ok (fun args σ K X h => (T_eClass_ok rfl h))
theorem F_eInterval (hm : HME) : SoundF PS 65 T_eInterval := body_sound hm (envE2_ok hm) an65 Try.func65 Try.call65 S65_ok (fun args σ K X h => (T_eInterval_ok rfl rfl rfl h))
def envE3 : Env := (((envE2.add 69 T_eEscaped).add 81 T_eClass).add 65 T_eInterval)
theorem envE3_ok (hm : HME) : EnvOk PS envE3 := EnvOk.add (EnvOk.add (EnvOk.add (envE2_ok hm) (F_eEscaped hm)) (F_eClass hm)) (F_eInterval hm)
theorem F_eItem (hm : HME) : SoundF PS 75 T_eItem := body_sound hm (envE3_ok hm) an75 Try.func75 Try.call75 S75_ok (fun args σ K X h => (T_eItem_ok rfl rfl rfl rfl h))
theorem F_eRepeat (hm : HME) : SoundF PS 59 T_eRepeat := body_sound hm (envE3_ok hm) an59 Try.func59 Try.call59 S59_ok (fun args σ K X h => (T_eRepeat_ok rfl rfl h))
def envE4 : Env := ((envE3.add 75 T_eItem).add 59 T_eRepeat)
theorem envE4_ok (hm : HME) : EnvOk PS envE4 := EnvOk.add (EnvOk.add (envE3_ok hm) (F_eItem hm)) (F_eRepeat hm)
theorem F_eSet (hm : HME) : SoundF PS 67 T_eSet := body_sound hm (envE4_ok hm) an67 Try.func67 Try.call67 S67_ok (fun args σ K X h => (T_eSet_ok rfl rfl rfl rfl h))
def envE5 : Env := (envE4.add 67 T_eSet)
theorem envE5_ok (hm : HME) : EnvOk PS envE5 := EnvOk.add (envE4_ok hm) (F_eSet hm)
theorem SoundF.le {f : FuncId} {T T' : Tr} (h : SoundF PS f T) (hT : ∀ args σ K X, T' args σ K X → T args σ K X) : SoundF PS f T' :=
  fun w0 hS ρ σ w args us K X H hr ht => h w0 hS ρ σ w args us K X H hr (hT _ _ _ _ ht)
/-- All of the parser, for expressions of whatever length. -/
theorem F_eBranches (hm : HME) : ∀ f : Nat, SoundF PS 31 (T_eBranches f)
  | 0 => by
    rintro w0 hS ρ σ w args us K X H hr ⟨g, σ0, l, s, d, Y, hg, _, _, _, _, hfu, _⟩
    omega
  | f + 1 => by
    have E1 := EnvOk.add (envE5_ok hm) (F_eBranches hm f)
    have G := body_sound hm E1 an66 Try.func66 Try.call66 S66_ok (T := T_eGroup f) (fun args σ K X h => T_eGroup_ok rfl rfl h)
    have E2 := EnvOk.add E1 G
    have A := body_sound hm E2 an60 Try.func60 Try.call60 S60_ok (T := T_eAtom (f + 1)) (fun args σ K X h => T_eAtom_ok rfl rfl rfl rfl h)
    have E3 := EnvOk.add E2 A
    have Pc := body_sound hm E3 an47 Try.func47 Try.call47 S47_ok (T := T_ePieces (f + 2)) (fun args σ K X h => T_ePieces_ok rfl rfl rfl rfl h)
    have E4 := EnvOk.add E3 Pc
    have B := body_sound hm E4 an31 Try.func31 Try.call31 S31_ok (T := T_eBranches (f + 3)) (fun args σ K X h => T_eBranches_ok rfl rfl rfl h)
    refine SoundF.le B ?_
    rintro args σ K X ⟨g, σ0, l, s, d, Y, hg, h⟩
    exact ⟨g, σ0, l, s, d, Y, by omega, h⟩
end Go.AD.Lx
