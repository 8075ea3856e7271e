/- lex: the laws of joins and blanks; the functions, one behind the other. -/
import Derived.Test.YtjgjmpophpifgaaLx5
set_option linter.unusedVariables false
set_option linter.unusedSimpArgs false
set_option maxRecDepth 100000
namespace Go.AD.Lx
open Go.Proofs
section
variable {env : Env} {args : List AV} {σ0 σ : AS} {K : AV → AS → Prop} {X : PV → AS → Prop}
theorem flatT_take (l : List Tok) (k : Nat) : flatT (l.take k) = (flatT l).take (k * 2) := by
  induction l generalizing k with
  | nil => simp [flatT]
  | cons a l ih =>
    cases k with
    | zero => simp [flatT]
    | succ k =>
      have : (k + 1) * 2 = k * 2 + 2 := by omega
      simp [flatT, tokPV, ih, this]
theorem flatT_drop (l : List Tok) (k : Nat) : flatT (l.drop k) = (flatT l).drop (k * 2) := by
  induction l generalizing k with
  | nil => simp [flatT]
  | cons a l ih =>
    cases k with
    | zero => simp [flatT]
    | succ k =>
      have : (k + 1) * 2 = k * 2 + 2 := by omega
      simp [flatT, tokPV, ih, this]
theorem noTail_of {s : Bytes} (h : s = [] ∨ ¬ (s.getD (s.length - 1) 0).toNat = 92) : NoTail s := by
  unfold NoTail
  rw [List.getLast?_eq_getElem?]
  intro e
  rcases h with rfl | h
  · simp at e
  · rw [List.getD_eq_getElem?_getD, e] at h
    exact h rfl
theorem slT (n m : Nat) (l : List Tok) (h : m ≤ l.length) {K : AV → Prop} (hn : n = l.length) : sliceD PS 23 (.pv (.lst n (flatT l))) none (some (.pv (.int .i64 m))) K = K (.pv (.lst m (flatT (l.take m)))) := by
  subst hn
  simp [sliceD, T.el23, cutAt, T.iS30, T.sz30, h, flatT_take]
theorem slT2 (n m : Nat) (l : List Tok) (h : m ≤ l.length) {K : AV → Prop} (hn : n = l.length) : sliceD PS 23 (.pv (.lst n (flatT l))) (some (.pv (.int .i64 m))) none K = K (.pv (.lst (l.drop m).length (flatT (l.drop m)))) := by
  subst hn
  have e : (flatT l).take (l.length * 2) = flatT l := List.take_of_length_le (by rw [flatT_len]; omega)
  simp [sliceD, T.el23, cutAt, T.iS30, T.sz30, h, flatT_drop, e]
theorem same_call (h : env 13 = T_rSame) {l : List Tok} {n m : Nat} (hn : n = l.length) (hm : m = l.length) (hl : l.length ≤ 1000000000) (hK : K (.pv (.bool true)) σ) : env 13 [.pv (.lst n (flatT l)), .pv (.lst m (flatT l))] σ K X := by
  subst hn hm
  rw [h]; exact ⟨l, rfl, hl, hK⟩
theorem lex_len {s : Bytes} {a : List Tok} (h : lexS s = some a) : a.length ≤ 20000 := by
  have key : ∀ (f : Nat) (s : Bytes) (ts a : List Tok), ts.length ≤ 20000 → lexL f s ts = some a → a.length ≤ 20000 := by
    intro f
    induction f with
    | zero => intro s ts a _ h; cases h
    | succ f ih =>
      intro s ts a ht h
      rw [lexL] at h
      split at h
      · simp only [Option.some.injEq] at h; rw [← h]; exact ht
      · split at h
        · cases h
        · split at h
          · rename_i h2; exact ih _ _ _ h2 h
          · cases h
  unfold lexS at h
  split at h
  · exact key _ _ _ _ (by simp) h
  · cases h
theorem T_LexJoins_ok (h1 : env 11 = T_Lex) (h2 : env 10 = T_true0) (h3 : env 13 = T_rSame) (h : T_law2 args σ K X) : bodyD PS env an5 Try.f5 args σ K X := by
  obtain ⟨s, t, rfl, hK⟩ := h
  rw [← S5_eq env, S5, h2]
  refine ⟨rfl, fun σ1 _ => ?_⟩
  simp only [go_sem, Bool.not_true, Bool.false_eq_true, if_false]
  refine iteI (fun _ => retV_self (hK _)) (fun g1 => ?_)
  refine iteI (fun _ => retV_self (hK _)) (fun g2 => ?_)
  have j5 : NoTail s → J5_5 env (.pv (.str s)) (.pv (.str t)) σ1 K X := by
    intro hn
    have hj := lex_join (t := t) hn (by omega) (by omega)
    unfold J5_5
    refine lex_call h1 fun σ2 _ => ?_
    have hc : s ++ [10] ++ t = s ++ 10 :: t := by simp
    cases ha : lexS s with
    | none =>
      rw [ha] at hj
      simp only [lexV, lock_eq, ext_tuple, List.getElem?_cons_zero, List.getElem?_cons_succ, someEx, ]
      refine lex_call h1 fun σ3 _ => ?_
      cases hb : lexS t with
      | none =>
        simp only [lexV, lock_eq, ext_tuple, List.getElem?_cons_zero, List.getElem?_cons_succ, someEx, ]
        refine ⟨by simp; omega, by simp; omega, ?_⟩
        refine lex_call h1 fun σ4 _ => ?_
        rw [hc, hj]
        simp only [lexV, ext_tuple, List.getElem?_cons_zero, List.getElem?_cons_succ, someEx, un_not, Bool.not_false, guard_false, if_true]
        unfold J5_9
        simp only [go_sem, if_true, Bool.not_false]
        exact retV_self (hK _)
      | some b =>
        simp only [lexV, lock_eq, ext_tuple, List.getElem?_cons_zero, List.getElem?_cons_succ, someEx, ]
        refine ⟨by simp; omega, by simp; omega, ?_⟩
        refine lex_call h1 fun σ4 _ => ?_
        rw [hc, hj]
        simp only [lexV, ext_tuple, List.getElem?_cons_zero, List.getElem?_cons_succ, someEx, un_not, Bool.not_false, guard_false, if_true]
        unfold J5_9
        simp only [go_sem, if_true, Bool.not_false]
        exact retV_self (hK _)
    | some a =>
      rw [ha] at hj
      have hla := lex_len ha
      simp only [lexV, lock_eq, ext_tuple, List.getElem?_cons_zero, List.getElem?_cons_succ, someEx, ]
      refine lex_call h1 fun σ3 _ => ?_
      cases hb : lexS t with
      | none =>
        simp only [lexV, lock_eq, ext_tuple, List.getElem?_cons_zero, List.getElem?_cons_succ, someEx, ]
        refine ⟨by simp; omega, by simp; omega, ?_⟩
        refine lex_call h1 fun σ4 _ => ?_
        rw [hc, hj, hb]
        simp only [lexV, Option.map_none, ext_tuple, List.getElem?_cons_zero, List.getElem?_cons_succ, someEx, un_not, Bool.not_false, Bool.not_true, guard_false, if_true, if_false, Bool.false_eq_true]
        unfold J5_9
        simp only [go_sem, if_true, Bool.not_false]
        exact retV_self (hK _)
      | some b =>
        have hlb := lex_len hb
        simp only [lexV, lock_eq, ext_tuple, List.getElem?_cons_zero, List.getElem?_cons_succ, someEx, ]
        refine ⟨by simp; omega, by simp; omega, ?_⟩
        refine lex_call h1 fun σ4 _ => ?_
        rw [hc, hj, hb]
        simp only [lexV, Option.map_some, ext_tuple, List.getElem?_cons_zero, List.getElem?_cons_succ, someEx, un_not, Bool.not_false, Bool.not_true, guard_false, if_true, if_false, Bool.false_eq_true]
        have hcl : (a ++ [(kNl, [])] ++ b).length = a.length + 1 + b.length := by simp; omega
        have hx : ∀ K : AV → Prop, indexAddrD PS 23 (.pv (.lst (a ++ [(kNl, [])] ++ b).length (flatT (a ++ [(kNl, [])] ++ b)))) (.pv (.int .i64 a.length)) K = K (.elemP (flatT (a ++ [(kNl, [])] ++ b)) (a.length * 2)) := fun K => tok_ix (by omega)
        have hcell : (flatT (a ++ [(kNl, [])] ++ b))[a.length * 2]? = some (.str kNl) := by
          rw [flatT_app, flatT_app, List.append_assoc, List.getElem?_append_right (by rw [flatT_len]; omega), flatT_len]
          simp [flatT, tokPV]
        unfold J5_9
        simp (disch := omega) only [go_sem, if_false, Bool.false_eq_true, Bool.not_true, hx, hcell, T.fe30_0, T.le9, someEx]
        refine iteI (fun h => ?_) (fun _ => ?_)
        · exfalso
          rw [bne_iff_ne] at h
          omega
        refine iteI (fun h => ?_) (fun _ => ?_)
        · exact absurd h (by decide)
        unfold J5_12
        have e1 : (a ++ [(kNl, [])] ++ b).take a.length = a := by simp
        have e2 : (a ++ [(kNl, [])] ++ b).drop (a.length + 1) = b := by
          rw [List.append_assoc, List.drop_append]; simp
        simp (disch := omega) only [go_sem, slT, e1]
        refine same_call h3 rfl rfl (by omega) ?_
        simp (disch := omega) only [go_sem, slT2, e2, if_true]
        exact same_call h3 rfl rfl (by omega) (retV_self (hK _))
  refine iteI (fun g3 => ?_) (fun g3 => ?_)
  · simp (disch := omega) only [go_sem, T.is9, beq_iff_eq]
    exact iteI (fun _ => retV_self (hK _)) (fun g4 => j5 (noTail_of (.inr g4)))
  · exact j5 (noTail_of (.inl (List.eq_nil_of_length_eq_zero (by omega))))
theorem T_LexBlanks_ok (h1 : env 11 = T_Lex) (h2 : env 10 = T_true0) (h3 : env 13 = T_rSame) (h : T_law2 args σ K X) : bodyD PS env an6 Try.f6 args σ K X := by
  obtain ⟨s, c, rfl, hK⟩ := h
  rw [← S6_eq env, S6, h2]
  refine ⟨rfl, fun σ1 _ => ?_⟩
  simp only [go_sem, Bool.not_true, Bool.false_eq_true, if_false]
  refine iteI (fun _ => retV_self (hK _)) (fun g1 => ?_)
  refine iteI (fun _ => retV_self (hK _)) (fun g2 => ?_)
  have j5 : NoTail s → J6_5 env (.pv (.str s)) (.pv (.str c)) σ1 K X := by
    intro hn
    unfold J6_5
    refine lp6_6 (fun (i : Nat) _ => c.length - i) (fun i τ => τ = σ1 ∧ i ≤ c.length ∧ ∀ x ∈ c.take i, lineB x = true) (fun i => .pv (.int .i64 i)) 0 ⟨rfl, Nat.zero_le _, by simp⟩ ?_
    rintro i τ ⟨rfl, hi, hall⟩
    unfold L6_6
    simp (disch := omega) only [go_sem]
    refine iteI (fun hlt => ?_) (fun hge => ?_)
    · simp (disch := omega) only [T.is9, go_sem, beq_iff_eq]
      refine iteI (fun _ => retV_self (hK _)) (fun g3 => ?_)
      refine back (i + 1) rfl (by omega) ⟨rfl, hlt, ?_⟩
      intro x hx
      rw [take_snocD (d := 0) hlt] at hx
      rcases List.mem_append.1 hx with hx | hx
      · exact hall x hx
      · have : x = c.getD i 0 := by simpa [-List.getD_eq_getElem?_getD] using hx
        rw [this]
        unfold lineB
        simpa [-List.getD_eq_getElem?_getD] using g3
    · have : i = c.length := by omega
      subst this
      rw [List.take_length] at hall
      refine lex_call h1 fun σ2 _ => ?_
      cases ha : lexS s with
      | none =>
        simp only [lexV, lock_eq, ext_tuple, List.getElem?_cons_zero, List.getElem?_cons_succ, someEx, ]
        refine ⟨by simp; omega, by simp; omega, by simp; omega, ?_⟩
        refine lex_call h1 fun σ3 _ => ?_
        cases hb : lexS ([9, 32, 92, 10] ++ s ++ [32, 35] ++ c) with
        | none =>
          simp only [lexV, ext_tuple, List.getElem?_cons_zero, List.getElem?_cons_succ, someEx, un_not, Bool.not_false, cond_bool, if_true]
          exact retV_self (hK _)
        | some b =>
          simp only [lexV, ext_tuple, List.getElem?_cons_zero, List.getElem?_cons_succ, someEx, un_not, Bool.not_false, cond_bool, if_true]
          exact retV_self (hK _)
      | some a =>
        have hla := lex_len ha
        simp only [lexV, lock_eq, ext_tuple, List.getElem?_cons_zero, List.getElem?_cons_succ, someEx, ]
        refine ⟨by simp; omega, by simp; omega, by simp; omega, ?_⟩
        refine lex_call h1 fun σ3 _ => ?_
        rw [lex_blanks hn (by omega) (by omega) hall ha]
        simp only [lexV, ext_tuple, List.getElem?_cons_zero, List.getElem?_cons_succ, someEx, un_not, Bool.not_true, cond_bool, Bool.false_eq_true, if_false, guard_true, if_true]
        exact same_call h3 rfl rfl (by omega) (retV_self (hK _))
  refine iteI (fun g3 => ?_) (fun g3 => ?_)
  · simp (disch := omega) only [go_sem, T.is9, beq_iff_eq]
    exact iteI (fun _ => retV_self (hK _)) (fun g4 => j5 (noTail_of (.inr g4)))
  · exact j5 (noTail_of (.inl (List.eq_nil_of_length_eq_zero (by omega))))
end
end Go.AD.Lx
