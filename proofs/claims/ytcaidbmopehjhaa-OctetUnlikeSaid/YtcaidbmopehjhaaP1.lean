/- octet: the laws come to true. -/
import Derived.Test.YtcaidbmopehjhaaO9
set_option linter.unusedVariables false
set_option maxRecDepth 100000
namespace Go.AD
open Go.Proofs
section
variable {env : Env}
def T5 : Tr := fun args σ K _ => ∃ (s : List UInt8) (f n : Int), args = [.pv (.str s), .pv (.int .i64 f), .pv (.int .i64 n)] ∧ in64 f ∧ in64 n ∧ ∀ τ, K (.pv (.bool true)) τ
theorem T5_ok (h17 : env 17 = T17) (h18 : env 18 = T18) (h19 : env 19 = T19) (args : List AV) (σ : AS) (K : AV → AS → Prop) (X : PV → AS → Prop) (h : T5 args σ K X) : bodyD PA env an5 Try.f5 args σ K X := by
  obtain ⟨s, f, n, rfl, hf, hn, hK⟩ := h
  rw [← S5_eq env, S5, h17]
  refine ⟨rfl, fun σ1 _ => ?_⟩
  simp only [go_sem, Bool.not_true, Bool.false_eq_true, if_false]
  split
  · exact retV_self (hK _)
  · rw [h18]
    refine ⟨s, f, n, rfl, by omega, hf, hn, ?_⟩
    rw [h19]
    refine ⟨s, f, n, rfl, by omega, hf, hn, ?_⟩
    simp only [go_sem, beq_self_eq_true]
    exact retV_self (hK _)
def T6 : Tr := fun args σ K _ => ∃ (s : List UInt8) (a : Int), args = [.pv (.str s), .pv (.int .i64 a)] ∧ in64 a ∧ ∀ τ, K (.pv (.bool true)) τ
theorem T6_ok (h17 : env 17 = T17) (h18 : env 18 = T18) (args : List AV) (σ : AS) (K : AV → AS → Prop) (X : PV → AS → Prop) (h : T6 args σ K X) : bodyD PA env an6 Try.f6 args σ K X := by
  obtain ⟨s, a, rfl, ha, hK⟩ := h
  unfold in64 at ha
  rw [← S6_eq env, S6, h17]
  refine ⟨rfl, fun σ1 _ => ?_⟩
  simp only [go_sem, Bool.not_true, Bool.false_eq_true, if_false]
  split
  · exact retV_self (hK _)
  · rename_i hs
    obtain ⟨k, hk⟩ : ∃ k : Nat, min (max a 0) (s.length : Int) = k := ⟨(min (max a 0) (s.length : Int)).toNat, by omega⟩
    rw [hk, h18]
    refine ⟨s, 1, k, rfl, by omega, by unfold in64; omega, by unfold in64; omega, ?_⟩
    simp (disch := omega) only [go_sem]
    refine ⟨s, _, _, rfl, by omega, by unfold in64; omega, by unfold in64; omega, ?_⟩
    simp only [go_sem]
    rw [cut_parts s k (by omega)]
    refine ⟨?_, ?_⟩
    · have : (cutS s 1 k).length + (cutS s (k + 1 : Nat) s.length).length = s.length := by rw [← List.length_append, cut_parts s k (by omega)]
      omega
    rw [beq_self_eq_true, if_pos rfl]
    refine ⟨s, _, _, rfl, by omega, ha, by unfold in64; omega, ?_⟩
    simp only [go_sem, cut_zero, beq_self_eq_true]
    exact retV_self (hK _)
def T7 : Tr := fun args σ K _ => ∃ (s : List UInt8), args = [.pv (.str s)] ∧ ∀ τ, K (.pv (.bool true)) τ
theorem T7_ok (h17 : env 17 = T17) (h20 : env 20 = T20) (h21 : env 21 = T21) (args : List AV) (σ : AS) (K : AV → AS → Prop) (X : PV → AS → Prop) (h : T7 args σ K X) : bodyD PA env an7 Try.f7 args σ K X := by
  obtain ⟨s, rfl, hK⟩ := h
  rw [← S7_eq env, S7, h17]
  refine ⟨rfl, fun σ1 _ => ?_⟩
  simp only [go_sem, Bool.not_true, Bool.false_eq_true, if_false]
  split
  · exact retV_self (hK _)
  · rw [h20]
    refine ⟨s, rfl, by omega, fun σ2 _ => ?_⟩
    have hp := show_plain_all s.length s (Nat.le_refl _)
    have hlen : (showS s).length ≤ 4000000000 := by
      have : ∀ n (s : List UInt8), s.length ≤ n → (showS s).length ≤ 2000000 * s.length := by
        intro n
        induction n with
        | zero => intro s h; obtain rfl : s = [] := List.eq_nil_of_length_eq_zero (by omega); rw [showS_nil]; simp
        | succ n ih =>
          intro s h
          rcases Nat.eq_zero_or_pos s.length with h0 | h0
          · obtain rfl : s = [] := List.eq_nil_of_length_eq_zero h0
            rw [showS_nil]; simp
          · have h1 := stepS_pos s
            have h3 : (stepS s).1.length ≤ 2000000 ∧ (stepS s).2 ≤ s.length := by
              have h2 := firstS_bd s
              unfold stepS
              split
              · simp; omega
              split
              · simp; omega
              split
              · simp only; have := uPlus_len (firstS s).1; omega
              · simp [octB_len]; omega
            have h4 := ih (s.drop (stepS s).2) (by rw [List.length_drop]; omega)
            rw [List.length_drop] at h4
            rw [showS_step h0, List.length_append]
            omega
      have := this s.length s (Nat.le_refl _)
      omega
    refine lp7_7 (fun (i : Nat) _ => (showS s).length - i) (fun i τ => i ≤ (showS s).length) (fun i => .pv (.int .i64 i)) 0 (by omega) ?_
    intro i τ hi
    unfold L7_7
    simp (disch := omega) only [go_sem]
    split
    · rename_i hlt
      have hb : plainB ((showS s).getD i 0) = true := by
        have := List.all_eq_true.1 hp ((showS s).getD i 0) (by simp [hlt])
        exact this
      unfold plainB at hb
      simp only [Bool.and_eq_true, decide_eq_true_eq] at hb
      simp only [ix9 hlt]
      simp (disch := omega) only [go_sem]
      rw [if_neg (by omega), if_neg (by omega)]
      exact back (i + 1) rfl (by omega) (by omega)
    · rw [h21]
      refine ⟨s, rfl, by omega, ?_⟩
      simp only [go_sem, beq_self_eq_true]
      exact retV_self (hK _)
theorem T11_ok (h17 : env 17 = T17) (h27 : env 27 = T27) (h28 : env 28 = T28) (h29 : env 29 = T29) (h30 : env 30 = T30) (args : List AV) (σ : AS) (K : AV → AS → Prop) (X : PV → AS → Prop) (h : T7 args σ K X) : bodyD PA env an11 Try.f11 args σ K X := by
  obtain ⟨s, rfl, hK⟩ := h
  rw [← S11_eq env, S11, h17]
  refine ⟨rfl, fun σ1 _ => ?_⟩
  simp only [go_sem, Bool.not_true, Bool.false_eq_true, if_false]
  split
  · exact retV_self (hK _)
  · rename_i hs
    rw [h27]
    refine ⟨s, rfl, by omega, ?_⟩
    rw [h28]
    refine ⟨s, rfl, by omega, ?_⟩
    simp only [go_sem, beq_self_eq_true, if_true]
    rw [h29]
    refine ⟨s, rfl, by omega, ?_⟩
    rw [h30]
    refine ⟨s, rfl, by omega, ?_⟩
    simp only [go_sem, beq_self_eq_true, if_true]
    refine ⟨s, rfl, by omega, ?_⟩
    refine ⟨_, rfl, by rw [List.length_map]; omega, ?_⟩
    refine ⟨s, rfl, by omega, ?_⟩
    simp only [go_sem, up_low, beq_self_eq_true]
    exact retV_self (hK _)
def T12 : Tr := fun args σ K _ => ∃ (s t : List UInt8), args = [.pv (.str s), .pv (.str t)] ∧ ∀ τ, K (.pv (.bool true)) τ
theorem T12_ok (h17 : env 17 = T17) (h31 : env 31 = T31) (h32 : env 32 = T32) (args : List AV) (σ : AS) (K : AV → AS → Prop) (X : PV → AS → Prop) (h : T12 args σ K X) : bodyD PA env an12 Try.f12 args σ K X := by
  obtain ⟨s, t, rfl, hK⟩ := h
  rw [← S12_eq env, S12, h17]
  refine ⟨rfl, fun σ1 _ => ?_⟩
  simp only [go_sem, Bool.not_true, Bool.false_eq_true, if_false]
  split
  · exact retV_self (hK _)
  split
  · exact retV_self (hK _)
  · unfold J12_5
    rw [h31]
    refine ⟨s, t, rfl, by omega, ?_⟩
    rw [h32]
    refine ⟨s, t, rfl, by omega, by omega, ?_⟩
    simp only [go_sem, beq_self_eq_true]
    exact retV_self (hK _)
theorem T13_ok (h17 : env 17 = T17) (h31 : env 31 = T31) (h20 : env 20 = T20) (args : List AV) (σ : AS) (K : AV → AS → Prop) (X : PV → AS → Prop) (h : T12 args σ K X) : bodyD PA env an13 Try.f13 args σ K X := by
  obtain ⟨s, t, rfl, hK⟩ := h
  rw [← S13_eq env, S13, h17]
  refine ⟨rfl, fun σ1 _ => ?_⟩
  simp only [go_sem, Bool.not_true, Bool.false_eq_true, if_false]
  split
  · exact retV_self (hK _)
  split
  · exact retV_self (hK _)
  · rw [h31]
    refine ⟨s, [60], rfl, by omega, ?_⟩
    simp only [go_sem]
    split
    · exact retV_self (hK _)
    · rename_i h1
      refine ⟨t, [60], rfl, by omega, ?_⟩
      simp only [go_sem]
      split
      · exact retV_self (hK _)
      · rename_i h2
        have i1 := idx60 s (by simpa using h1)
        have i2 := idx60 t (by simpa using h2)
        unfold J13_5
        rw [h20]
        refine ⟨s, rfl, by omega, fun σ2 _ => ?_⟩
        refine ⟨t, rfl, by omega, fun σ3 _ => ?_⟩
        simp only [go_sem, bin_beql Try.underlying4]
        have e : ((showS s == showS t) == (s == t)) = true := by
          by_cases hst : s = t
          · subst hst; simp
          · have : ¬ showS s = showS t := fun h => hst (show_inj s.length s t (Nat.le_refl _) i1 i2 h)
            rw [beq_eq_false_iff_ne.2 this, beq_eq_false_iff_ne.2 hst]; rfl
        rw [e]
        exact retV_self (hK _)
end
end Go.AD
