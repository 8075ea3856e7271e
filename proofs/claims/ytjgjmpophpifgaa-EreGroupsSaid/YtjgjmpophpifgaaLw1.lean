/- lex: the document's small functions. -/
import Derived.Test.YtjgjmpophpifgaaLf
import Derived.Test.YtjgjmpophpifgaaLr
import Derived.Test.YtjgjmpophpifgaaLx4
import Derived.Test.YtjgjmpophpifgaaG3
set_option linter.unusedVariables false
set_option linter.unusedSimpArgs false
set_option maxRecDepth 100000
namespace Go.AD.Lx
open Go.Proofs
section
variable {env : Env} {args : List AV} {σ0 σ : AS} {K : AV → AS → Prop} {X : PV → AS → Prop}
theorem T_rdigit_ok (h : byteT digitB args σ K X) : bodyD PS env an24 Try.f24 args σ K X := by
  obtain ⟨c, rfl, h⟩ := h
  rw [← S24_eq env, S24]
  simp only [go_sem]
  unfold digitB at h
  refine iteI (fun h1 => ?_) (fun h1 => ?_)
  · rw [decide_eq_true h1, Bool.true_and] at h
    exact retV_self h
  · rw [decide_eq_false h1, Bool.false_and] at h
    exact retV_self h
theorem T_rletter_ok (h : byteT letterB args σ K X) : bodyD PS env an23 Try.f23 args σ K X := by
  obtain ⟨c, rfl, h⟩ := h
  rw [← S23_eq env, S23]
  simp only [go_sem]
  rw [letter_doc] at h
  by_cases h1 : 97 ≤ c.toNat <;> by_cases h2 : c.toNat ≤ 122 <;> by_cases h3 : 65 ≤ c.toNat <;> by_cases h4 : c.toNat ≤ 90 <;>
    simp only [h1, h2, h3, h4, if_true, if_false, decide_true, decide_false, Bool.true_and, Bool.false_and, Bool.and_true, Bool.and_false, Bool.true_or, Bool.or_true, Bool.false_or, Bool.or_false] at h ⊢ <;> first | exact retV_self h | omega
def T_ramong : Tr := fun args σ K _ => ∃ (w : Bytes) (l : List Bytes), args = [.pv (.str w), .pv (.lst l.length (l.map .str))] ∧ l.length ≤ 1000 ∧ K (.pv (.bool (decide (w ∈ l)))) σ
theorem T_ramong_ok (h : T_ramong args σ K X) : bodyD PS env an25 Try.f25 args σ K X := by
  obtain ⟨w, l, rfl, hl, hK⟩ := h
  rw [← S25_eq env, S25]
  refine lp25_2 (fun (i : Nat) _ => l.length - i) (fun i τ => τ = σ ∧ i ≤ l.length ∧ w ∉ l.take i) (fun i => .pv (.int .i64 i)) 0 ⟨rfl, Nat.zero_le _, by simp⟩ ?_
  rintro i τ ⟨rfl, hi, hno⟩
  unfold L25_2
  simp (disch := omega) only [go_sem]
  refine iteI (fun hlt => ?_) (fun hge => ?_)
  · have e3 : (l.map PV.str).length = l.length * 1 := by simp
    have hc : (l.map PV.str)[i]? = some (.str (l.getD i [])) := by simp [hlt]
    simp (disch := omega) only [T.ixl48, go_sem, hc, Nat.mul_one, beq_iff_eq]
    refine iteI (fun h1 => ?_) (fun h1 => ?_)
    · have : w ∈ l := by
        rw [← h1, List.getD_eq_getElem?_getD, List.getElem?_eq_getElem hlt]; exact List.getElem_mem hlt
      rw [decide_eq_true this] at hK
      exact retV_self hK
    · refine back (i + 1) rfl (by omega) ⟨rfl, hlt, ?_⟩
      rw [take_snocD (d := []) hlt, List.mem_append]
      intro h2
      rcases h2 with h2 | h2
      · exact hno h2
      · have : w = l.getD i [] := by simpa [-List.getD_eq_getElem?_getD] using h2
        exact h1 this.symm
  · rw [List.take_of_length_le (by omega)] at hno
    rw [decide_eq_false hno] at hK
    exact retV_self hK
def T_strs (l : List Bytes) : Tr := fun args σ K _ => args = [] ∧ K (.pv (.lst l.length (l.map .str))) σ
theorem T_rbarred_ok (h : T_strs wBarred args σ K X) : bodyD PS env an26 Try.f26 args σ K X := by
  obtain ⟨rfl, hK⟩ := h
  rw [← S26_eq env, S26]
  simp only [lock_eq]
  exact Eq.mpr (build_strs wBarred (K := fun t1 σ1 => retV t1 σ1 K) (by decide)) (retV_pv rfl hK)
theorem T_rwords_ok (h : T_strs wWords args σ K X) : bodyD PS env an27 Try.f27 args σ K X := by
  obtain ⟨rfl, hK⟩ := h
  rw [← S27_eq env, S27]
  simp only [lock_eq]
  exact Eq.mpr (build_strs wWords (K := fun t1 σ1 => retV t1 σ1 K) (by decide)) (retV_pv rfl hK)
theorem T_rbuilts_ok (h : T_strs wBuilts args σ K X) : bodyD PS env an28 Try.f28 args σ K X := by
  obtain ⟨rfl, hK⟩ := h
  rw [← S28_eq env, S28]
  simp only [lock_eq]
  exact Eq.mpr (build_strs wBuilts (K := fun t1 σ1 => retV t1 σ1 K) (by decide)) (retV_pv rfl hK)
theorem T_rops_ok (h : T_strs allOps args σ K X) : bodyD PS env an29 Try.f29 args σ K X := by
  obtain ⟨rfl, hK⟩ := h
  rw [← S29_eq env, S29]
  simp only [lock_eq]
  exact Eq.mpr (build_strs allOps (K := fun t1 σ1 => retV t1 σ1 K) (by decide)) (retV_pv rfl hK)
theorem among_call (h : env 25 = Tr.wk T_ramong) {w : Bytes} {l : List Bytes} {v : AV} (hv : toPV v = some (.lst l.length (l.map .str))) (hl : l.length ≤ 1000) (hK : K (.pv (.bool (decide (w ∈ l)))) σ) : env 25 [.pv (.str w), v] σ K X := by
  rw [h]
  exact Tr.wk_intro (wkS (wkP hv wkN)) ⟨w, l, rfl, hl, hK⟩
def T_roperand : Tr := fun args σ K _ => ∃ t : Tok, args = [.agg [.pv (.str t.1), .pv (.str t.2)]] ∧ (t.1 = kOp → ∀ c ∈ t.2, c ≠ 32) ∧ ∀ σ', σ.sub σ' → K (.pv (.bool (tokOperand t))) σ'
theorem T_roperand_ok (ha : env 25 = Tr.wk T_ramong) (h : T_roperand args σ K X) : bodyD PS env an21 Try.f21 args σ K X := by
  obtain ⟨t, rfl, hw, hK⟩ := h
  rw [← S21_eq env, S21]
  simp only [lock_eq]
  refine ⟨rfl, ?_⟩
  intro id hid
  have hg : (σ.set id (.cells [.pv (.str t.1), .pv (.str t.2)] none)) id = some (.cells [.pv (.str t.1), .pv (.str t.2)] none) := set_same _ _ _
  have hsub := sub_set (.cells [.pv (.str t.1), .pv (.str t.2)] none) hid
  have hK := hK _ hsub
  have hcs : AV.cells (.agg [.pv (.str t.1), .pv (.str t.2)]) = [.pv (.str t.1), .pv (.str t.2)] := rfl
  rw [hcs]
  generalize (σ.set id (.cells [.pv (.str t.1), .pv (.str t.2)] none)) = σ1 at hg hK
  unfold tokOperand at hK
  have j6 : ∀ b : Bool, (b = true ↔ (t.1 = kNum ∨ t.1 = kStr ∨ t.1 = kEre ∨ t.1 = kName)) → J21_6 env (.addr id 0) (.pv (.str t.1)) (.pv (.bool b)) σ1 K X := by
    intro b hb
    unfold J21_6
    simp only [go_sem]
    refine iteI (fun h1 => ?_) (fun h1 => ?_)
    · rw [if_pos (hb.1 h1)] at hK
      exact retV_self hK
    rw [if_neg (fun h => h1 (hb.2 h))] at hK
    simp (disch := omega) only [go_sem, hg, ldM_cells, Nat.reduceAdd, List.getElem?_cons_zero, List.getElem?_cons_succ, someEx, beq_iff_eq]
    refine iteI (fun h2 => ?_) (fun h2 => ?_)
    · rw [if_pos (show t.1 = kBuilt from h2)] at hK
      exact retV_self hK
    rw [if_neg (show ¬ t.1 = kBuilt from h2)] at hK
    refine iteI (fun h3 => ?_) (fun h3 => ?_)
    · rw [if_pos (show t.1 = kOp from h3), listed_after (hw h3)] at hK
      refine Eq.mpr (build_strs wAfter (by decide)) ?_
      exact among_call ha rfl (by decide) (retV_self hK)
    · rw [if_neg (show ¬ t.1 = kOp from h3)] at hK
      exact retV_self hK
  simp (disch := omega) only [go_sem, hg, ldM_cells, List.getElem?_cons_zero, List.getElem?_cons_succ, someEx, beq_iff_eq]
  refine iteI (fun h1 => j6 _ ?_) (fun h1 => ?_)
  · rw [beq_iff_eq]; exact ⟨.inl, fun _ => h1⟩
  refine iteI (fun h2 => j6 _ ?_) (fun h2 => ?_)
  · rw [beq_iff_eq]; exact ⟨fun h => .inr (.inl h), fun _ => h2⟩
  refine iteI (fun h3 => j6 _ ?_) (fun h3 => j6 _ ?_)
  · rw [beq_iff_eq]; exact ⟨fun h => .inr (.inr (.inl h)), fun _ => h3⟩
  · rw [beq_iff_eq]
    refine ⟨fun h => .inr (.inr (.inr h)), fun h => ?_⟩
    rcases h with h | h | h | h
    · exact absurd h h1
    · exact absurd h h2
    · exact absurd h h3
    · exact h
/-! ### numbers -/
theorem T_rnumber_ok (hd : env 24 = byteT digitB) (h : T_number args σ K X) : bodyD PS env an19 Try.f19 args σ K X := by
  obtain ⟨s, rfl, hl, hK⟩ := h
  rw [← S19_eq env, S19]
  have dg : ∀ {n : Nat} {K : AV → AS → Prop}, K (.pv (.bool (digitB (s.getD n 0)))) σ → env 24 [.pv (.int .u8 (s.getD n 0).toNat)] σ K (panV X) := fun h => byte_call hd h
  have j19 : ∀ n k : Nat, k ≤ s.length → ∀ b : Bool, (b = true ↔ (k < s.length ∧ digitB (s.getD k 0) = true)) → K (.pv (.int .i64 ((if 0 < spanL digitB (s.drop k) then k + spanL digitB (s.drop k) else n : Nat)))) σ → J19_19 env (.pv (.str s)) (.pv (.int .i64 n)) (.pv (.int .i64 k)) (.pv (.bool b)) σ K X := by
    intro n k hk b hb hK
    unfold J19_19
    simp only [go_sem]
    refine iteI (fun h1 => ?_) (fun h1 => ?_)
    · rw [if_pos (span_at.2 (hb.1 h1))] at hK
      refine lp19_19 (fun (j : Nat) _ => s.length - j) (fun j τ => τ = σ ∧ k ≤ j ∧ j ≤ s.length ∧ k + spanL digitB (s.drop k) = j + spanL digitB (s.drop j)) (fun j => .pv (.int .i64 j)) k ⟨rfl, Nat.le_refl _, hk, rfl⟩ ?_
      rintro j τ ⟨rfl, hj0, hj, he⟩
      unfold L19_19
      simp (disch := omega) only [go_sem]
      refine iteI (fun h2 => ?_) (fun h2 => ?_)
      · rw [span_drop h2] at he
        simp (disch := omega) only [T.is9]
        refine dg ?_
        simp (disch := omega) only [go_sem]
        refine iteI (fun h3 => ?_) (fun h3 => ?_)
        · rw [if_pos h3] at he
          exact back (j + 1) rfl (by omega) ⟨rfl, by omega, h2, by omega⟩
        · rw [if_neg h3] at he
          rw [he] at hK
          exact retV_self hK
      · have : j = s.length := by omega
        subst this
        rw [List.drop_length] at he
        rw [he] at hK
        exact retV_self hK
    · rw [if_neg (fun h => h1 (hb.2 (span_at.1 h)))] at hK
      exact retV_self hK
  have j18 : ∀ n k : Nat, k ≤ s.length → K (.pv (.int .i64 ((if 0 < spanL digitB (s.drop k) then k + spanL digitB (s.drop k) else n : Nat)))) σ → J19_18 env (.pv (.str s)) (.pv (.int .i64 n)) (.pv (.int .i64 k)) σ K X := by
    intro n k hk hK
    unfold J19_18
    simp (disch := omega) only [go_sem]
    refine iteI (fun h1 => ?_) (fun h1 => ?_)
    · simp (disch := omega) only [T.is9]
      refine dg ?_
      exact j19 n k hk _ ⟨fun h => ⟨h1, h⟩, fun h => h.2⟩ hK
    · exact j19 n k hk _ (fIff fun h => h1 h.1) hK
  have j15 : ∀ (n : Nat) (b : Bool), n ≤ s.length → b = (decide (n < s.length) && (s.getD n 0 ||| 32).toNat == 101) → K (.pv (.int .i64 (expL s n))) σ → J19_15 env (.pv (.str s)) (.pv (.int .i64 n)) (.pv (.int .i64 n)) (.pv (.bool b)) σ K X := by
    intro n b hn hb hK
    unfold J19_15
    simp only [go_sem]
    unfold expL at hK
    refine iteI (fun h1 => ?_) (fun h1 => ?_)
    · subst h1
      rw [← hb] at hK
      have hlt : n < s.length := by
        have := hb.symm
        rw [Bool.and_eq_true] at this
        exact of_decide_eq_true this.1
      simp only [if_true] at hK
      have hexp : ∀ a, expAt s n = a → J19_18 env (.pv (.str s)) (.pv (.int .i64 n)) (.pv (.int .i64 a)) σ K X := by
        intro a ha
        rw [ha] at hK
        exact j18 n a (by rw [← ha]; exact expAt_le hlt) hK
      simp (disch := omega) only [go_sem]
      refine iteI (fun h2 => ?_) (fun h2 => ?_)
      · simp (disch := omega) only [T.is9]
        simp (disch := omega) only [go_sem, beq_iff_eq]
        refine iteI (fun h3 => ?_) (fun h3 => ?_)
        · refine hexp _ ?_
          unfold expAt
          rw [isAt_eq h2, h3]; rfl
        · refine iteI (fun h4 => ?_) (fun h4 => ?_)
          · refine hexp _ ?_
            unfold expAt
            rw [isAt_eq h2, isAt_eq h2, h4]; rfl
          · refine hexp _ ?_
            unfold expAt
            rw [isAt_eq h2, isAt_eq h2, if_neg (by rw [Bool.or_eq_true, beq_iff_eq, beq_iff_eq]; omega)]
      · refine hexp _ ?_
        unfold expAt
        rw [isAt_ge h2, isAt_ge h2]; rfl
    · rw [← hb, if_neg h1] at hK
      exact retV_self hK
  have j11 : ∀ (n : Nat) (b : Bool), n ≤ s.length → K (.pv (.int .i64 ((if b = false then 0 else expL s n : Nat)))) σ → J19_11 env (.pv (.str s)) (.pv (.int .i64 n)) (.pv (.bool b)) σ K X := by
    intro n b hn hK
    unfold J19_11
    simp only [go_sem]
    cases b with
    | false => exact retV_self hK
    | true =>
      simp only [Bool.not_true, Bool.false_eq_true, if_false]
      simp only [Bool.true_eq_false, if_false] at hK
      refine iteI (fun h2 => ?_) (fun h2 => ?_)
      · have hb : ∀ b, b = ((s.getD n 0).toNat == 101 || (s.getD n 0).toNat == 69) → b = (decide (n < s.length) && (s.getD n 0 ||| 32).toNat == 101) := by
          intro b h; rw [h, decide_eq_true h2, Bool.true_and, exp_doc]
        simp (disch := omega) only [T.is9, go_sem, beq_iff_eq]
        refine iteI (fun h3 => ?_) (fun h3 => ?_)
        · exact j15 n _ hn (hb _ (by rw [h3]; rfl)) hK
        · refine j15 n _ hn (hb _ ?_) hK
          have : ((s.getD n 0).toNat == 101) = false := by simpa [-List.getD_eq_getElem?_getD] using h3
          rw [this, Bool.false_or]
      · exact j15 n _ hn (by rw [decide_eq_false h2, Bool.false_and]) hK
  have j7 : ∀ (n : Nat) (b : Bool), n ≤ s.length → (b = true ↔ (isAt s n 46 = true ∧ 0 < n + spanL digitB (s.drop (n + 1)))) → K (.pv (.int .i64 ((if (fracL s n).2 = 0 then 0 else expL s (fracL s n).1 : Nat)))) σ → J19_7 env (.pv (.str s)) (.pv (.int .i64 n)) (.pv (.bool (decide (0 < n)))) (.pv (.bool b)) σ K X := by
    intro n b hn hb hK
    unfold J19_7
    simp only [go_sem]
    unfold fracL at hK
    refine iteI (fun h1 => ?_) (fun h1 => ?_)
    · obtain ⟨h2, h3⟩ := hb.1 h1
      have hlt := isAt_lt h2
      rw [if_pos h2, if_pos h3, if_neg (by simp only; omega)] at hK
      simp (disch := omega) only [go_sem]
      refine lp19_8 (fun (a : Nat × Bool) _ => s.length - a.1) (fun a τ => τ = σ ∧ n + 1 ≤ a.1 ∧ a.1 ≤ s.length ∧ n + 1 + spanL digitB (s.drop (n + 1)) = a.1 + spanL digitB (s.drop a.1) ∧ a.2 = (decide (0 < n) || decide (n + 1 < a.1))) (fun a => .pv (.int .i64 a.1)) (fun a => .pv (.bool a.2)) (n + 1, decide (0 < n)) ⟨rfl, Nat.le_refl _, hlt, rfl, by simp⟩ ?_
      rintro ⟨j, b⟩ τ ⟨rfl, hj0, hj, he, hbb⟩
      simp only at hj0 hj he hbb
      have out : j = n + 1 + spanL digitB (s.drop (n + 1)) → J19_11 env (.pv (.str s)) (.pv (.int .i64 j)) (.pv (.bool b)) τ K X := by
        intro e
        have hbt : b = true := by
          rw [hbb, Bool.or_eq_true, decide_eq_true_eq, decide_eq_true_eq]; omega
        subst hbt
        rw [← e] at hK
        exact j11 j true hj hK
      unfold L19_8 J19_9
      simp (disch := omega) only [go_sem]
      refine iteI (fun h4 => ?_) (fun h4 => ?_)
      · rw [span_drop h4] at he
        simp (disch := omega) only [T.is9]
        refine dg ?_
        simp (disch := omega) only [go_sem]
        refine iteI (fun h5 => ?_) (fun h5 => ?_)
        · rw [if_pos h5] at he
          refine back (j + 1, true) rfl (by simp only; omega) ⟨rfl, by simp only; omega, h4, by simp only; omega, ?_⟩
          simp only
          rw [eq_comm, Bool.or_eq_true, decide_eq_true_eq, decide_eq_true_eq]; omega
        · rw [if_neg h5] at he
          exact out (by omega)
      · have : j = s.length := by omega
        subst this
        rw [List.drop_length] at he
        exact out (by simpa [spanL] using he.symm)
    · have hfr : (if isAt s n 46 = true then (if 0 < n + spanL digitB (s.drop (n + 1)) then (n + 1 + spanL digitB (s.drop (n + 1)), n + spanL digitB (s.drop (n + 1))) else (n, n)) else (n, n)) = (n, n) := by
        by_cases h2 : isAt s n 46 = true
        · rw [if_pos h2, if_neg (fun h3 => h1 (hb.2 ⟨h2, h3⟩))]
        · rw [if_neg h2]
      rw [hfr] at hK
      refine j11 n _ hn ?_
      by_cases h2 : n = 0
      · subst h2; exact hK
      · simp only at hK
        rw [if_neg h2] at hK
        rw [decide_eq_true (by omega)]
        exact hK
  have j6 : ∀ n : Nat, n ≤ s.length → K (.pv (.int .i64 ((if (fracL s n).2 = 0 then 0 else expL s (fracL s n).1 : Nat)))) σ → J19_6 env (.pv (.str s)) (.pv (.int .i64 n)) (.pv (.bool (decide (0 < n)))) σ K X := by
    intro n hn hK
    unfold J19_6
    simp (disch := omega) only [go_sem]
    refine iteI (fun h1 => ?_) (fun h1 => ?_)
    · simp (disch := omega) only [T.is9, go_sem]
      have hat : isAt s n 46 = ((s.getD n 0).toNat == 46) := isAt_eq h1 46
      refine iteI (fun h2 => ?_) (fun h2 => ?_)
      · rw [h2] at hat
        refine iteI (fun h3 => ?_) (fun h3 => ?_)
        · exact j7 n _ hn (tIff ⟨hat, by omega⟩) hK
        · refine iteI (fun h4 => ?_) (fun h4 => ?_)
          · try simp (disch := omega) only [T.is9]
            refine dg ?_
            refine j7 n _ hn ⟨fun h => ⟨hat, ?_⟩, fun h => ?_⟩ hK
            · have := span_at.2 ⟨h4, h⟩; omega
            · exact (span_at.1 (by omega : 0 < spanL digitB (s.drop (n + 1)))).2
          · refine j7 n _ hn (fIff fun h => ?_) hK
            have := (span_at.1 (by omega : 0 < spanL digitB (s.drop (n + 1)))).1
            omega
      · rw [Bool.eq_false_iff.2 h2] at hat
        exact j7 n _ hn (fIff fun h => by rw [hat] at h; exact absurd h.1 (by decide)) hK
    · exact j7 n _ hn (fIff fun h => h1 (isAt_lt h.1)) hK
  refine lp19_3 (fun (i : Nat) _ => s.length - i) (fun i τ => τ = σ ∧ i ≤ s.length ∧ spanL digitB s = i + spanL digitB (s.drop i)) (fun i => .pv (.int .i64 i)) (fun i => .pv (.bool (decide (0 < i)))) 0 ⟨rfl, Nat.zero_le _, by simp⟩ ?_
  rintro i τ ⟨rfl, hi, he⟩
  have out : i = spanL digitB s → J19_6 env (.pv (.str s)) (.pv (.int .i64 i)) (.pv (.bool (decide (0 < i)))) τ K X := by
    intro e
    unfold numberL at hK
    rw [← e] at hK
    exact j6 i hi hK
  unfold L19_3 J19_4
  simp (disch := omega) only [go_sem]
  refine iteI (fun h4 => ?_) (fun h4 => ?_)
  · rw [span_drop h4] at he
    simp (disch := omega) only [T.is9]
    refine dg ?_
    simp (disch := omega) only [go_sem]
    refine iteI (fun h5 => ?_) (fun h5 => ?_)
    · rw [if_pos h5] at he
      exact back (i + 1) (by simp) (by omega) ⟨rfl, h4, by omega⟩
    · rw [if_neg h5] at he
      exact out (by omega)
  · have : i = s.length := by omega
    subst this
    rw [List.drop_length] at he
    exact out (by simpa [spanL] using he.symm)
end
end Go.AD.Lx
