/- lex: the law of the tokens. -/
import Derived.Test.YtjgjmpophpifgaaLw4
import Derived.Test.YtjgjmpophpifgaaLx8
set_option linter.unusedVariables false
set_option linter.unusedSimpArgs false
set_option maxRecDepth 100000
namespace Go.AD.Lx
open Go.Proofs
section
variable {env : Env} {args : List AV} {σ0 σ : AS} {K : AV → AS → Prop} {X : PV → AS → Prop}
theorem T_LexTokens_ok (h1 : env 11 = T_Lex) (h2 : env 10 = T_true0) (h3 : env 13 = T_rSame) (h4 : env 12 = T_Lex) (h : T_law1 args σ K X) : bodyD PS env an3 Try.f3 args σ K X := by
  obtain ⟨s, rfl, hK⟩ := h
  rw [← S3_eq env, S3, h2]
  refine ⟨rfl, fun σ1 _ => ?_⟩
  have j5 : J3_5 env (.pv (.str s)) σ1 K X := by
    unfold J3_5
    refine lex_call h1 fun σ2 _ => ?_
    cases ha : lexS s with
    | none =>
      simp only [lexV, lock_eq, ext_tuple, List.getElem?_cons_zero, List.getElem?_cons_succ, someEx]
      rw [h4]
      refine ⟨s, rfl, fun σ3 _ => ?_⟩
      rw [ha]
      simp only [lexV, lock_eq, ext_tuple, List.getElem?_cons_zero, List.getElem?_cons_succ, someEx, bin_beql (P := PS) (t := 4) rfl, beq_self_eq_true, guard_true, if_true]
      rw [h3]
      exact ⟨[], rfl, by decide, retV_self (hK _)⟩
    | some a =>
      have hla := lex_len ha
      simp only [lexV, lock_eq, ext_tuple, List.getElem?_cons_zero, List.getElem?_cons_succ, someEx]
      rw [h4]
      refine ⟨s, rfl, fun σ3 _ => ?_⟩
      rw [ha]
      simp only [lexV, lock_eq, ext_tuple, List.getElem?_cons_zero, List.getElem?_cons_succ, someEx, bin_beql (P := PS) (t := 4) rfl, beq_self_eq_true, guard_true, if_true]
      rw [h3]
      exact ⟨a, rfl, by omega, retV_self (hK _)⟩
  simp only [go_sem, Bool.not_true, Bool.false_eq_true, if_false]
  refine iteI (fun g1 => ?_) (fun g1 => j5)
  refine iteI (fun g2 => retV_self (hK _)) (fun g2 => j5)
end
def envR4 : Env := ((envR3.add 10 T_true0).add 13 T_rSame)
theorem envR4_ok (hm : HM) : EnvOk PS envR4 := EnvOk.add (EnvOk.add (envR3_ok hm) (F_awake5 hm)) (F_rSame hm)
theorem F_LexTokens (hm : HM) : SoundF PS 3 T_law1 := body_sound hm (envR4_ok hm) an3 Try.func3 Try.call3 S3_ok (fun args σ K X h => (T_LexTokens_ok rfl rfl rfl rfl h))
def envR5 : Env := (envR4.add 3 T_law1)
theorem envR5_ok (hm : HM) : EnvOk PS envR5 := EnvOk.add (envR4_ok hm) (F_LexTokens hm)
end Go.AD.Lx
