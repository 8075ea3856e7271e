/- A deferred closure whose first region hands on what 'recover' hands back. -/
import Derived.Test.YtjgjmpophpifgaaDoorAd21
set_option linter.unusedVariables false
set_option linter.unusedSimpArgs false
namespace Go.AD
open RowKit
section
variable {P : Program} {env : Env}
def closureD2 (P : Program) (env : Env) (an : An) (c2 : Code) (slot slot2 : Nat) (args : List AV) (σ : AS) (r : Option PV) (K : AS → Prop) : Prop :=
  wpD P env an c2 (closeQ K) (((frOf 0 args).put (some slot) (match r with | none => .pv .nilIface | some p => .pv p)).put (some slot2) (match r with | none => .pv .nilIface | some p => .pv p)) σ
theorem at_put {a : Act} {t : Nat} {v : Value} (h : t < a.tmps.size) : (a.put (some t) v).tmps.getD t undef = v := by
  simp [Act.put, h]
theorem closure_sound2 (hm : P.follows .mixedOrders = true) (E : EnvOk P env) (an : An) {g : FuncId} {fn : Func} {id : Nat} {o o' : Oper} {c2 : Code} {slot slot2 : Nat} (hg : P.funcs[g]? = some fn) (hb : fn.body = some (.seq (.region id #[o, o'] false) c2)) (hgd : o.guard = none) (hgd' : o'.guard = none) (hdst : o.dst = some slot) (hdst' : o'.dst = some slot2) (hslot : slot < fn.ntmps) (hslot' : slot2 < fn.ntmps)
    (hrec : ∀ (a : Act) (w : World), (execOp a.eval o).run P w = .ok .recover w) (hasg : ∀ (a : Act) (w : World), (execOp a.eval o').run P w = .ok (.value (a.tmps.getD slot undef)) w) (hres : fn.results = #[]) (hok : okCode an P fn.ntmps c2 = true) {T : TrD} (hT : ∀ args σ r K, T args σ r K → args.length ≤ fn.ntmps ∧ closureD2 P env an c2 slot slot2 args σ r K) : SoundDef P g T := by
  intro w0 hS ρ σ w args us K H hr
  have hput : ∀ d, (some slot : Option Nat) = some d → d < fn.ntmps := fun d hd => by cases hd; exact hslot
  have hput' : ∀ d, (some slot2 : Option Nat) = some d → d < fn.ntmps := fun d hd => by cases hd; exact hslot'
  have hwant : ∀ tm, Region.wanted o (yielded #[o, o'] tm) = true := fun a => by unfold Region.wanted; rw [hgd]
  have hwant' : ∀ tm, Region.wanted o' (yielded #[o, o'] tm) = true := fun a => by unfold Region.wanted; rw [hgd']
  have hl : List.range (#[o, o'] : Array Oper).size = [0, 1] := rfl
  have e0 : (#[o, o'] : Array Oper)[0]? = some o := rfl
  have e1 : (#[o, o'] : Array Oper)[1]? = some o' := rfl
  have hrv : ∀ (a : Act) (w : World), (results fn a.tmps).run P w = .ok (.tuple #[]) w := by
    intro a w
    rw [results_eq, hres]
    simp
  refine ⟨fun h => ?_, fun p u hp h => ?_⟩
  · obtain ⟨hn, h⟩ := hT _ _ _ _ h
    refine callsD_of_wpS hg hb fun c0 cs hu => ?_
    refine wpS_seq (wpS_region ?_)
    rw [hl]
    simp only [wpOpsS, e0, e1, hwant, hwant', if_true, hrec, hasg]
    have er : recoverD (c0 :: cs) = none := by simp [recoverD, hu]
    rw [er]
    simp only [Exit.thenS, hdst, hdst', hasg, Oper.upon]
    have F0 := frOf_rel hr _ hn []
    have F1 := F0.put hput (v := .pv .nilIface) (u := .nilIface) (.pv .nilIface)
    rw [at_put (by have := F0.size; rw [this]; exact hslot)]
    have h : wpD P env an c2 (closeQ K) (((frOf 0 args).put (some slot) (.pv .nilIface)).put (some slot2) (.pv .nilIface)) σ := h
    refine wpS_of_wp (code_sound hm E hS an fn.ntmps [] c2 hok h H (F1.put hput' (.pv .nilIface)) rfl ?_)
    rintro e a w' ⟨ρ', fr, σ', e', h1, h2, h3, h4, h5, h6⟩
    have hc : c0 :: cs = { c0 with mode := .returning } :: cs := by rw [← hu]
    cases h5 with
    | normal => exact ⟨h4, _, hc, _, hrv a w', ⟨_, rfl⟩, rfl, ρ', σ', h1, h2, h6⟩
    | ret => exact ⟨h4, _, hc, _, hrv a w', ⟨_, rfl⟩, rfl, ρ', σ', h1, h2, h6⟩
    | panic p u hp => exact h6.elim
    | exit id => exact h6.elim
    | goto l => exact h6.elim
  · obtain ⟨hn, h⟩ := hT _ _ _ _ h
    refine callsD_of_wpS hg hb fun c0 cs hu => ?_
    refine wpS_seq (wpS_region ?_)
    rw [hl]
    simp only [wpOpsS, e0, e1, hwant, hwant', if_true, hrec, hasg]
    have er : recoverD (c0 :: cs) = some (u, { c0 with mode := .panicking [{ v := u, recovered := true }] } :: cs) := by simp [recoverD, hu]
    rw [er]
    simp only [Exit.thenS, hdst, hdst', hasg, Oper.upon]
    have F0 := frOf_rel hr _ hn []
    have F1 := F0.put hput (v := .pv p) (u := u) (.pv hp)
    rw [at_put (by have := F0.size; rw [this]; exact hslot)]
    have h : wpD P env an c2 (closeQ K) (((frOf 0 args).put (some slot) (.pv p)).put (some slot2) (.pv p)) σ := h
    refine wpS_of_wp (code_sound hm E hS an fn.ntmps [] c2 hok h H (F1.put hput' (.pv hp)) rfl ?_)
    rintro e a w' ⟨ρ', fr, σ', e', h1, h2, h3, h4, h5, h6⟩
    cases h5 with
    | normal => exact ⟨h4, _, rfl, _, hrv a w', ⟨_, rfl⟩, rfl, ρ', σ', h1, h2, h6⟩
    | ret => exact ⟨h4, _, rfl, _, hrv a w', ⟨_, rfl⟩, rfl, ρ', σ', h1, h2, h6⟩
    | panic p u hp => exact h6.elim
    | exit id => exact h6.elim
    | goto l => exact h6.elim
end
end Go.AD
