/- A function that defers one closure, which recovers. -/
import Derived.Test.YtjgjmpophpifgaaDoorAd14
import Derived.Defers
import Derived.Recover
set_option linter.unusedVariables false
set_option linter.unusedSimpArgs false
namespace Go.AD
open RowKit
/-- What a deferred closure does: with what 'recover' hands back. -/
abbrev TrD := List AV → AS → Option PV → (AS → Prop) → Prop
def SoundDef (P : Program) (g : FuncId) (T : TrD) : Prop := ∀ (w0 : World), Ready P w0 → ∀ (ρ : Gh) (σ : AS) (w : World) (args : List AV) (us : List Value) (K : AS → Prop), RelH w0 ρ σ w → RelL ρ args us →
  (T args σ none K → CallsD P g us.toArray .returning w fun e u' w' => (∃ v, e = .returned v) ∧ u' = .returning ∧ ∃ ρ' σ', ρ.le ρ' ∧ RelH w0 ρ' σ' w' ∧ K σ') ∧
  ∀ p u, RelP ρ.imm p u → T args σ (some p) K → CallsD P g us.toArray (.panicking [{ v := u, recovered := false }]) w fun e u' w' => (∃ v, e = .returned v) ∧ u' = .panicking [{ v := u, recovered := true }] ∧ ∃ ρ' σ', ρ.le ρ' ∧ RelH w0 ρ' σ' w' ∧ K σ'
def closeQ (K : AS → Prop) : AEx → Fr → AS → Prop := fun e _ σ => match e with
  | .normal | .ret => K σ
  | _ => False
/-- The closure's body behind its 'recover'. -/
def closureD (P : Program) (env : Env) (an : An) (c2 : Code) (slot : Nat) (args : List AV) (σ : AS) (r : Option PV) (K : AS → Prop) : Prop :=
  wpD P env an c2 (closeQ K) ((frOf 0 args).put (some slot) (match r with | none => .pv .nilIface | some p => .pv p)) σ
section
variable {P : Program} {env : Env}
theorem closure_sound (hm : P.follows .mixedOrders = true) (E : EnvOk P env) (an : An) {g : FuncId} {fn : Func} {id : Nat} {o : Oper} {c2 : Code} {slot : Nat} (hg : P.funcs[g]? = some fn) (hb : fn.body = some (.seq (.region id #[o] false) c2)) (hgd : o.guard = none) (hdst : o.dst = some slot) (hslot : slot < fn.ntmps)
    (hrec : ∀ (a : Act) (w : World), (execOp a.eval o).run P w = .ok .recover w) (hres : fn.results = #[]) (hok : okCode an P fn.ntmps c2 = true) {T : TrD} (hT : ∀ args σ r K, T args σ r K → args.length ≤ fn.ntmps ∧ closureD P env an c2 slot args σ r K) : SoundDef P g T := by
  intro w0 hS ρ σ w args us K H hr
  have hput : ∀ d, (some slot : Option Nat) = some d → d < fn.ntmps := fun d hd => by cases hd; exact hslot
  have hwant : ∀ tm, Region.wanted o (yielded #[o] tm) = true := fun a => by unfold Region.wanted; rw [hgd]
  have hrv : ∀ (a : Act) (w : World), (results fn a.tmps).run P w = .ok (.tuple #[]) w := by
    intro a w
    rw [results_eq, hres]
    simp
  refine ⟨fun h => ?_, fun p u hp h => ?_⟩
  · obtain ⟨hn, h⟩ := hT _ _ _ _ h
    refine callsD_of_wpS hg hb fun c0 cs hu => ?_
    refine wpS_seq (wpS_region ?_)
    have hl : List.range (#[o] : Array Oper).size = [0] := rfl
    rw [hl]
    have e0 : (#[o] : Array Oper)[0]? = some o := rfl
    simp only [wpOpsS, e0, hwant, if_true, hrec]
    have er : recoverD (c0 :: cs) = none := by simp [recoverD, hu]
    rw [er]
    simp only [Exit.thenS, hdst]
    have h : wpD P env an c2 (closeQ K) ((frOf 0 args).put (some slot) (.pv .nilIface)) σ := h
    refine wpS_of_wp (code_sound hm E hS an fn.ntmps [] c2 hok h H ((frOf_rel hr _ hn []).put hput (.pv .nilIface)) rfl ?_)
    rintro e a w' ⟨ρ', fr, σ', e', h1, h2, h3, h4, h5, h6⟩
    have hc : c0 :: cs = { c0 with mode := .returning } :: cs := by rw [← hu]
    cases h5 with
    | normal => exact ⟨h4, _, hc, _, hrv a w', ⟨_, rfl⟩, rfl, ρ', σ', h1, h2, h6⟩
    | ret => exact ⟨h4, _, hc, _, hrv a w', ⟨_, rfl⟩, rfl, ρ', σ', h1, h2, h6⟩
    | panic p u hp => exact h6.elim
    | exit id => exact h6.elim
    | goto l => exact h6.elim
  · obtain ⟨hn, h⟩ := hT _ _ _ _ h
    refine callsD_of_wpS hg hb fun c0 cs hu => ?_
    refine wpS_seq (wpS_region ?_)
    have hl : List.range (#[o] : Array Oper).size = [0] := rfl
    rw [hl]
    have e0 : (#[o] : Array Oper)[0]? = some o := rfl
    simp only [wpOpsS, e0, hwant, if_true, hrec]
    have er : recoverD (c0 :: cs) = some (u, { c0 with mode := .panicking [{ v := u, recovered := true }] } :: cs) := by simp [recoverD, hu]
    rw [er]
    simp only [Exit.thenS, hdst]
    have h : wpD P env an c2 (closeQ K) ((frOf 0 args).put (some slot) (.pv p)) σ := h
    refine wpS_of_wp (code_sound hm E hS an fn.ntmps [] c2 hok h H ((frOf_rel hr _ hn []).put hput (.pv hp)) rfl ?_)
    rintro e a w' ⟨ρ', fr, σ', e', h1, h2, h3, h4, h5, h6⟩
    cases h5 with
    | normal => exact ⟨h4, _, rfl, _, hrv a w', ⟨_, rfl⟩, rfl, ρ', σ', h1, h2, h6⟩
    | ret => exact ⟨h4, _, rfl, _, hrv a w', ⟨_, rfl⟩, rfl, ρ', σ', h1, h2, h6⟩
    | panic p u hp => exact h6.elim
    | exit id => exact h6.elim
    | goto l => exact h6.elim
/-- At the door: the closure, then the results are read. -/
def doorQ (P : Program) (fn : Func) (T : TrD) (caps : List AV) (K : AV → AS → Prop) : AEx → Fr → AS → Prop := fun e fr σ => match e with
  | .normal | .ret => T caps σ none fun σ => retD P fn K fr σ
  | .panic p => T caps σ (some p) fun σ => retD P fn K fr σ
  | _ => False
def midQ (P : Program) (env : Env) (an : An) (fn : Func) (T : TrD) (c2 : Code) (t : Nat) (caps : List Operand) (K : AV → AS → Prop) : AEx → Fr → AS → Prop := fun e fr σ => match e with
  | .normal => wpD P env an c2 (doorQ P fn T (evs fr caps) K) (fr.put (some t) .undef) σ
  | _ => False
/-- A body that defers a closure behind its first part. -/
def deferD (P : Program) (env : Env) (an : An) (fn : Func) (T : TrD) (c1 c2 : Code) (t : Nat) (caps : List Operand) : Tr := fun args σ K _ =>
  args.length ≤ fn.ntmps ∧ wpD P env an c1 (midQ P env an fn T c2 t caps K) (frOf 0 args) σ
theorem RelL.mono' {ρ ρ' : Gh} (hm : ρ.le ρ') {as : List AV} {us : List Value} (h : RelL ρ as us) : RelL ρ' as us := ⟨h.1, fun i hi => (h.2 i hi).mono hm⟩
theorem defer_sound (hm : P.follows .mixedOrders = true) (E : EnvOk P env) (an : An) {f g : FuncId} {fn : Func} {c1 c2 : Code} {id t : Nat} {o1 o2 : Oper} {caps : List Operand} (hf : P.funcs[f]? = some fn) (hcall : ∀ (args : Array Value) (w : World), (callFunc f args).run P w = .ok (.enter f args) w) (hcg : ∀ (args : Array Value) (w : World), (callFunc g args).run P w = .ok (.enter g args) w)
    (hb : fn.body = some (.seq c1 (.seq (.region id #[o1, o2] false) c2))) (hg1 : o1.guard = none) (hg2 : o2.guard = none) (hd1 : o1.dst = some t) (hd2 : o2.dst = none) (ht : t < fn.ntmps)
    (ho1 : ∀ (a : Act) (w : World), (execOp a.eval o1).run P w = .ok (.value (.func (.func g) #[] (caps.map a.eval).toArray)) w)
    (ho2 : ∀ (a : Act) (w : World) (v : Array Value), a.tmps.getD t undef = .func (.func g) #[] v → (execOp a.eval o2).run P w = .ok (.defer { target := .fn (.func g) v, args := #[] }) w)
    (hok1 : okCode an P fn.ntmps c1 = true) (hok2 : okCode an P fn.ntmps c2 = true) {T : TrD} (hT : SoundDef P g T) {T' : Tr} (hT' : ∀ args σ K X, T' args σ K X → deferD P env an fn T c1 c2 t caps args σ K X) : SoundF P f T' := by
  intro w0 hS ρ σ w args us K X H hr h
  refine ⟨hcall _ w, ?_⟩
  obtain ⟨hn, h⟩ := hT' _ _ _ _ h
  refine calls_of_wp_defers hf hb ?_
  refine wp_seq (code_sound hm E hS an fn.ntmps [] c1 hok1 h H (frOf_rel hr _ hn []) rfl ?_)
  rintro e a w1 ⟨ρ1, fr1, σ1, e1, h1, H1, F1, hd, h5, h6⟩
  cases h5 with
  | normal =>
    have h6 : wpD P env an c2 (doorQ P fn T (evs fr1 caps) K) (fr1.put (some t) .undef) σ1 := h6
    have hcv : RelL ρ1 (evs fr1 caps) (caps.map a.eval) := evs_rel F1 caps
    have hput : ∀ d, (some t : Option Nat) = some d → d < fn.ntmps := fun d hd => by cases hd; exact ht
    show (Code.seq (.region id #[o1, o2] false) c2).wp P _ a w1
    refine wp_seq (wp_region ?_)
    have hl : List.range (#[o1, o2] : Array Oper).size = [0, 1] := rfl
    have e0 : (#[o1, o2] : Array Oper)[0]? = some o1 := rfl
    have e1 : (#[o1, o2] : Array Oper)[1]? = some o2 := rfl
    have hw1 : ∀ tm, Region.wanted o1 (yielded #[o1, o2] tm) = true := fun a => by unfold Region.wanted; rw [hg1]
    have hw2 : ∀ tm, Region.wanted o2 (yielded #[o1, o2] tm) = true := fun a => by unfold Region.wanted; rw [hg2]
    rw [hl]
    simp only [wpOps, e0, e1, hw1, hw2, if_true]
    refine .inl ?_
    unfold Oper.wp
    rw [ho1]
    show (o2.upon P (a.put o1.dst _) _ _ _) ∨ _
    rw [hd1]
    refine .inl ?_
    have hat : (a.put (some t) (.func (.func g) #[] (caps.map a.eval).toArray)).tmps.getD t undef = .func (.func g) #[] (caps.map a.eval).toArray := by
      have hsz := F1.size
      simp [Act.put, hsz, ht]
    rw [ho2 _ _ _ hat]
    show c2.wp P (bodyPostD P fn _) (Act.put _ o2.dst _) w1
    rw [hd2]
    have F2 := F1.put hput (v := .undef) (u := .func (.func g) #[] (caps.map a.eval).toArray) (.undef _)
    refine code_sound hm E hS an fn.ntmps [{ target := .fn (.func g) (caps.map a.eval).toArray, args := #[] }] c2 hok2 h6 H1 (a := _) ⟨F2.size, F2.get⟩ (by show _ :: _ = _; rw [put_defers, hd]) ?_
    rintro e a2 w2 ⟨ρ2, fr2, σ2, e2, k1, H2, F3, hd', k5, k6⟩
    have fin : ∀ (u : FrameMode) (w3 : World) (ρ3 : Gh) (σ3 : AS), ρ2.le ρ3 → RelH w0 ρ3 σ3 w3 → retD P fn K fr2 σ3 → ∃ v, (results fn a2.tmps).run P w3 = .ok v w3 ∧ ∃ ρ' σ', ρ.le ρ' ∧ RelH w0 ρ' σ' w3 ∧ ∃ r, RelV ρ' r v ∧ K r σ' := by
      intro u w3 ρ3 σ3 l3 H3 hk
      obtain ⟨r, u, σ4, m1, m2, m3, m4⟩ := ret_sound hS H3 (F3.mono l3) fn hk
      exact ⟨u, m1, ρ3, σ4, Gh.le_trans h1 (Gh.le_trans k1 l3), H3.sub m3, r, m2, m4⟩
    have hcv2 := hcv.mono' k1
    have hinv : (invoke (.fn (.func g) (caps.map a.eval).toArray) #[]).run P w2 = .ok (.enter g (caps.map a.eval).toArray) w2 := by
      have := hcg (#[] ++ (caps.map a.eval).toArray) w2
      rw [Array.empty_append] at this
      simp only [invoke, Array.empty_append]
      exact this
    cases k5 with
    | normal =>
      have hk : T (evs fr1 caps) σ2 none (fun σ => retD P fn K fr2 σ) := k6
      show Leaves P fn a2.tmps _ a2.defers .returning w2
      rw [hd']
      refine ⟨by simp, .func g, _, g, _, rfl, hinv, ?_⟩
      intro c cs hc
      obtain ⟨e, u', w3, frx, ⟨⟨v, rfl⟩, rfl, ρ3, σ3, l3, H3, k3⟩, q1, q2, q3⟩ := (hT w0 hS ρ2 σ2 w2 _ _ _ H2 hcv2).1 hk c cs hc
      exact ⟨_, _, w3, frx, fin .returning w3 ρ3 σ3 l3 H3 k3, q1, q2, q3⟩
    | ret =>
      have hk : T (evs fr1 caps) σ2 none (fun σ => retD P fn K fr2 σ) := k6
      show Leaves P fn a2.tmps _ a2.defers .returning w2
      rw [hd']
      refine ⟨by simp, .func g, _, g, _, rfl, hinv, ?_⟩
      intro c cs hc
      obtain ⟨e, u', w3, frx, ⟨⟨v, rfl⟩, rfl, ρ3, σ3, l3, H3, k3⟩, q1, q2, q3⟩ := (hT w0 hS ρ2 σ2 w2 _ _ _ H2 hcv2).1 hk c cs hc
      exact ⟨_, _, w3, frx, fin .returning w3 ρ3 σ3 l3 H3 k3, q1, q2, q3⟩
    | panic p u hp =>
      have hk : T (evs fr1 caps) σ2 (some p) (fun σ => retD P fn K fr2 σ) := k6
      show Leaves P fn a2.tmps _ a2.defers (.panicking _) w2
      rw [hd']
      refine ⟨by simp, .func g, _, g, _, rfl, hinv, ?_⟩
      intro c cs hc
      obtain ⟨e, u', w3, frx, ⟨⟨v, rfl⟩, rfl, ρ3, σ3, l3, H3, k3⟩, q1, q2, q3⟩ := (hT w0 hS ρ2 σ2 w2 _ _ _ H2 hcv2).2 p u hp hk c cs hc
      exact ⟨_, _, w3, frx, fin .returning w3 ρ3 σ3 l3 H3 k3, q1, q2, q3⟩
    | exit id => exact k6.elim
    | goto l => exact k6.elim
  | ret => exact h6.elim
  | panic p u hp => exact h6.elim
  | exit id => exact h6.elim
  | goto l => exact h6.elim
end
end Go.AD
