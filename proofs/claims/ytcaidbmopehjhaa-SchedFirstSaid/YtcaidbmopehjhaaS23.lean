/- sched: the laws SchedPlans and SchedFirst. -/
import Derived.Test.YtcaidbmopehjhaaS22
import Derived.Test.YtcaidbmopehjhaaG7
set_option linter.unusedVariables false
set_option linter.unusedSimpArgs false
set_option maxRecDepth 100000
namespace Go.AD.Sc
open Go.Proofs
/-- What 'few' says. -/
def fewS : List Int → Int → Bool
  | [], _ => true
  | c :: l, n => if c > 200 - n then false else fewS l (n + max c 0)
def few (l : List Int) : Bool := if l.length > 40 then false else fewS l 0
def T23 : Tr := fun args σ K _ => ∃ l : List Int, args = [.pv (.lst l.length (i64s l))] ∧ (∀ c ∈ l, in64 c) ∧ K (.pv (.bool (few l))) σ
theorem getI_mem {l : List Int} {i : Nat} (h : i < l.length) : l.getD i 0 ∈ l := by
  rw [List.getD_eq_getElem?_getD, List.getElem?_eq_getElem h]; exact List.getElem_mem h
theorem T23_ok {env : Env} (args : List AV) (σ : AS) (K : AV → AS → Prop) (X : PV → AS → Prop) (h : T23 args σ K X) : bodyD PS env an23 Try.f23 args σ K X := by
  obtain ⟨l, rfl, hl, h⟩ := h
  rw [← S23_eq env, S23]
  simp only [go_sem]
  refine iteI (fun h1 => ?_) (fun h1 => ?_)
  · refine retV_self ?_
    rwa [few, if_pos (by omega)] at h
  · rw [few, if_neg (by omega)] at h
    refine lp23_5 (fun (a : Nat × Int) _ => l.length - a.1) (fun a τ => τ = σ ∧ a.1 ≤ l.length ∧ 0 ≤ a.2 ∧ a.2 ≤ 200 ∧ fewS l 0 = fewS (l.drop a.1) a.2) (fun a => .pv (.int .i64 a.2)) (fun a => .pv (.int .i64 a.1)) (0, 0) ⟨rfl, by simp, by simp, by simp, by simp⟩ ?_
    rintro ⟨i, n⟩ τ ⟨rfl, hi, hn0, hn1, he⟩
    simp only at hi hn0 hn1 he
    have il : (i64s l).length = l.length * 1 := by simp [i64s]
    unfold L23_5
    simp (disch := omega) only [go_sem]
    refine iteI (fun hlt => ?_) (fun hge => ?_)
    · have hd : l.drop i = l.getD i 0 :: l.drop (i + 1) := drop_consD hlt
      have hc : in64 (l.getD i 0) := hl _ (getI_mem hlt)
      unfold in64 at hc
      rw [hd, fewS] at he
      simp (disch := omega) only [go_sem, T.ixl22, i64s_getD]
      refine iteI (fun h2 => ?_) (fun h2 => ?_)
      · rw [if_pos (by omega)] at he
        rw [he] at h
        exact retV_self h
      · rw [if_neg (by omega)] at he
        try rw [wrap64 (by omega) (by omega)]
        exact back (i + 1, n + max (l.getD i 0) 0) rfl (by simp only; omega) ⟨rfl, by simp only; omega, by simp only; omega, by simp only; omega, he⟩
    · rw [he, List.drop_eq_nil_of_le (by omega), fewS] at h
      exact retV_self h
/-! ### Plan's answer, in one word -/
def planR (l : List Int) (room : Int) (picks : List Int) : List Stp × Nat := if rightS l room = none then ([], 0) else plan (l.map Int.toNat) room.toNat (pickAt picks)
def outV (r : List Stp × Nat) : AV := .tuple [.pv (.lst r.1.length (flatS r.1)), .pv (.int .i64 r.2)]
theorem ints_back (cs : List Nat) : (ints cs).map Int.toNat = cs := by
  induction cs with
  | nil => rfl
  | cons c cs ih => simp [ints] at ih ⊢; exact ih
theorem T24_of {l picks : List Int} {room : Int} {σ : AS} {K : AV → AS → Prop} {X : PV → AS → Prop} (hp : ∀ c ∈ picks, in64 c) (hpl : picks.length ≤ 100000000000000) (hK : ∀ σ', σ.sub σ' → K (outV (planR l room picks)) σ') :
    T24 [.pv (.lst l.length (i64s l)), .pv (.int .i64 room), .pv (.lst picks.length (i64s picks))] σ K X := by
  refine ⟨l, picks, room, rfl, hp, hpl, ?_, ?_⟩
  · intro h
    have := hK σ (sub_refl _)
    rw [planR, if_pos h] at this
    exact this
  · intro cs r e1 e2 h _ _ _ _ _ σ' hs
    have := hK σ' hs
    rw [planR, if_neg h, e1, e2, ints_back, Int.toNat_natCast] at this
    exact this
theorem T25_of {l picks : List Int} {room : Int} {σ : AS} {K : AV → AS → Prop} {X : PV → AS → Prop} (hp : ∀ c ∈ picks, in64 c) (hpl : picks.length ≤ 100000000000000) (hl : rightS l room ≠ none → l.length ≤ 64) (hK : ∀ σ', σ.sub σ' → K (outV (planR l room picks)) σ') :
    T25 [.pv (.lst l.length (i64s l)), .pv (.int .i64 room), .pv (.lst picks.length (i64s picks))] σ K X := by
  refine ⟨l, picks, room, rfl, hp, hpl, ?_, hl, ?_⟩
  · intro h
    have := hK σ (sub_refl _)
    rw [planR, if_pos h] at this
    exact this
  · intro cs r e1 e2 h _ _ _ _ _ σ' hs
    have := hK σ' hs
    rw [planR, if_neg h, e1, e2, ints_back, Int.toNat_natCast] at this
    exact this
theorem right_none {l : List Int} {room : Int} (h : 4096 < l.length) : rightS l room = none := by rw [rightS, if_pos (by omega)]
theorem planR_len (l : List Int) (room : Int) (picks : List Int) : (planR l room picks).1.length ≤ 2000000 := by
  unfold planR
  split
  · simp
  · rename_i h
    cases hr : rightS l room with
    | none => exact absurd hr h
    | some n =>
      obtain ⟨cs, r, rfl, rfl, hk1, hk4, hr1, hr2, rfl, hsum⟩ := right_some hr
      rw [ints_back, Int.toNat_natCast, plan_len hr1]
      unfold total
      omega
def T8 : Tr := fun args σ K _ => ∃ (l picks : List Int) (room : Int), args = [.pv (.lst l.length (i64s l)), .pv (.int .i64 room), .pv (.lst picks.length (i64s picks))] ∧ (∀ c ∈ l, in64 c) ∧ (∀ c ∈ picks, in64 c) ∧ l.length ≤ 100000000000000 ∧ picks.length ≤ 100000000000000 ∧ ∀ σ', K (.pv (.bool true)) σ'
theorem few_len {l : List Int} (h : few l = true) : l.length ≤ 40 := by
  unfold few at h
  split at h
  · cases h
  · omega
theorem T8_ok {env : Env} (h22 : env 22 = T22) (h23 : env 23 = T23) (h24 : env 24 = Tr.wk T24) (h25 : env 25 = Tr.wk T25) (h26 : env 26 = Tr.wk T26) (args : List AV) (σ : AS) (K : AV → AS → Prop) (X : PV → AS → Prop) (h : T8 args σ K X) : bodyD PS env an8 Try.f8 args σ K X := by
  obtain ⟨l, picks, room, rfl, hl, hp, hll, hpl, hK⟩ := h
  rw [← S8_eq env, S8, h22]
  refine ⟨rfl, fun σ1 _ => ?_⟩
  simp only [go_sem, Bool.not_true, Bool.false_eq_true, if_false]
  rw [h23]
  refine ⟨l, rfl, hl, ?_⟩
  simp only [go_sem]
  have j : (few l = false → 4096 < l.length) → J8_5 env (.pv (.lst l.length (i64s l))) (.pv (.int .i64 room)) (.pv (.lst picks.length (i64s picks))) σ1 K X := by
    intro hb
    unfold J8_5
    rw [h24]
    refine Tr.wk_same (T24_of hp hpl fun σ2 _ => ?_)
    simp only [go_sem, outV, List.getElem?_cons_zero, List.getElem?_cons_succ]
    rw [h25]
    refine Tr.wk_same (T25_of hp hpl ?_ fun σ3 _ => ?_)
    · intro h1
      cases hf : few l with
      | true => have := few_len hf; omega
      | false => exact absurd (right_none (hb hf)) h1
    simp only [go_sem, outV, List.getElem?_cons_zero, List.getElem?_cons_succ, beq_self_eq_true, if_true]
    rw [h26]
    have := planR_len l room picks
    exact Tr.wk_same ⟨_, rfl, by omega, retV_self (hK _)⟩
  refine iteI (fun hf => ?_) (fun hf => ?_)
  · simp only [Bool.not_eq_eq_eq_not, Bool.not_true] at hf
    refine iteI (fun h1 => retV_self (hK _)) (fun h1 => j fun _ => by omega)
  · refine j fun h1 => ?_
    rw [h1] at hf
    simp at hf
end Go.AD.Sc
