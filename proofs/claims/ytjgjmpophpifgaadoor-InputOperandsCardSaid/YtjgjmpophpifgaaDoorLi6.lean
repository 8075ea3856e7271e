/- input: operands, both ways. -/
import Derived.Test.YtjgjmpophpifgaaDoorLi5
set_option linter.unusedVariables false
set_option linter.unusedSimpArgs false
set_option maxRecDepth 100000
namespace Go.AD.Lx
open Go.Proofs
section
variable {env : Env} {args : List AV} {σ0 σ τ : AS} {K : AV → AS → Prop} {X : PV → AS → Prop}
theorem bb4 {τ : AS} (d1 d2 d3 : UInt8) {y1 y2 y3 : Int} (h1 : y1 = d1.toNat) (h2 : y2 = d2.toNat) (h3 : y3 = d3.toNat) {K : AV → AS → Prop} : buildSliceD PS false τ 30 4 4 [(0, .pv (.int .u8 92)), (1, .pv (.int .u8 y1)), (2, .pv (.int .u8 y2)), (3, .pv (.int .u8 y3))] K = K (.full 4 (pvBytes [92, d1, d2, d3])) τ := by
  subst h1 h2 h3
  simp [buildSliceD, go_sem, elemsFill, AV.cells, AV.cellOk, toPVs, toPV, pvBytes]
def T_asg : Tr := fun args σ K _ => ∃ s : Bytes, args = [.pv (.str s)] ∧ s.length ≤ 9000 ∧ ∀ σ', σ.sub σ' → K (asgV (asgS s)) σ'
theorem lex_call' {f : Nat} (h : env f = T_Lex) {s : Bytes} (hK : ∀ σ', σ.sub σ' → K (lexV (lexS s)) σ') : env f [.pv (.str s)] σ K X := by
  rw [h]; exact ⟨s, rfl, hK⟩
theorem text0 {t : Tok} {K : AV → Prop} : indexAddrD PS 47 (.pv (.lst 1 (flatT [t]))) (.pv (.int .i64 0)) K = K (.elemP (flatT [t]) 0) := by
  have := T.ixl47 (n := 1) (cs := flatT [t]) (k := .i64) (i := 0) (K := K) (by decide) rfl
  simpa using this
theorem text1 {t : Tok} : (flatT [t])[0 + 1]? = some (.str t.2) := rfl
theorem T_iOperand_ok (h1 : env 25 = T_Cut) (h2 : env 26 = T_named) (h3 : env 28 = T_quoted15) (h4 : env 27 = T_Lex) (h : T_asg args σ K X) : bodyD PS env an15 Tryd.f15 args σ K X := by
  obtain ⟨s, rfl, hlen, hK⟩ := h
  rw [← S15_eq env, S15, h1]
  refine ⟨s, [61], rfl, by omega, ?_⟩
  rw [cut_eq]
  unfold asgS at hK
  by_cases g1 : kS s < s.length
  · rw [if_pos g1]
    simp only [lock_eq, ext_tuple, List.getElem?_cons_zero, List.getElem?_cons_succ, someEx, go_sem, Bool.not_true, Bool.false_eq_true, if_false]
    rw [h2]
    refine ⟨_, rfl, by rw [List.length_take]; omega, fun σ1 hs1 => ?_⟩
    simp only [go_sem]
    cases hn : namedS (s.take (kS s)) with
    | false =>
      rw [if_neg (by rw [hn]; simp)] at hK
      exact retV_self (hK σ1 hs1)
    | true =>
      rw [if_pos ⟨g1, hn⟩] at hK
      simp only [Bool.not_true, Bool.false_eq_true, if_false]
      unfold J15_4
      rw [h3]
      refine ⟨_, rfl, by rw [List.length_drop]; omega, fun σ2 hs2 => ?_⟩
      refine lex_call' h4 fun σ3 hs3 => ?_
      have hK := hK σ3 (AS.sub_trans hs1 (AS.sub_trans hs2 hs3))
      cases hl : lexS (quoS (s.drop (kS s + 1))) with
      | none =>
        rw [hl] at hK
        simp only [lexV, lock_eq, ext_tuple, List.getElem?_cons_zero, List.getElem?_cons_succ, someEx, go_sem, Bool.not_false, if_true]
        exact retV_self hK
      | some l =>
        rw [hl] at hK
        simp only [lexV, lock_eq, ext_tuple, List.getElem?_cons_zero, List.getElem?_cons_succ, someEx, go_sem, Bool.not_true, Bool.false_eq_true, if_false, T.lnl47, bne, Bool.not_eq_true', beq_eq_false_iff_ne, ne_eq]
        match l, hK with
        | [], hK =>
          simp only [List.length_nil]
          rw [if_pos (by decide)]
          exact retV_self hK
        | [t], hK =>
          simp only [List.length_cons, List.length_nil]
          rw [if_neg (by decide)]
          unfold J15_7
          simp only [lock_eq, Nat.zero_add, text0, T.fe52_1, T.le9, text1, someEx]
          exact retV_self hK
        | t :: u :: l, hK =>
          simp only [List.length_cons]
          rw [if_pos (by omega)]
          exact retV_self hK
  · rw [if_neg g1]
    rw [if_neg (fun h => g1 h.1)] at hK
    simp only [lock_eq, ext_tuple, List.getElem?_cons_zero, List.getElem?_cons_succ, someEx, go_sem, Bool.not_false, if_true]
    exact retV_self (hK σ (sub_refl σ))
theorem T_xOperand_ok (h4 : env 29 = T_Lex) (h : T_asg args σ K X) : bodyD PS env an16 Tryd.f16 args σ K X := by
  obtain ⟨s, rfl, hlen, hK⟩ := h
  rw [← S16_eq env, S16]
  unfold asgS at hK
  have hkl := span_le eqB s
  refine lp16_2 (fun (k : Nat) _ => s.length - k) (fun k τ => τ = σ ∧ k ≤ s.length ∧ kS s = k + spanL eqB (s.drop k) ∧ okN true (s.take (kS s)) = okN (decide (k = 0)) ((s.drop k).take (kS s - k))) (fun k => .pv (.int .i64 ((k : Nat) : Int))) 0 ⟨rfl, Nat.zero_le _, by simp, by simp⟩ ?_
  rintro k τ ⟨rfl, hk, hsp, hok⟩
  have bad : (kS s < s.length ∧ namedS (s.take (kS s)) = true → False) → retV (.tuple [.pv (.str []), .pv (.str []), .pv (.bool false)]) τ K := by
    intro h
    rw [if_neg h] at hK
    exact retV_self (hK τ (sub_refl τ))
  have j8 : spanL eqB (s.drop k) = 0 → J16_8 env (.pv (.str s)) (.pv (.int .i64 (k : Nat))) τ K X := by
    intro hz
    have hke : kS s = k := by omega
    rw [hke] at hok hK bad
    rw [Nat.sub_self, List.take_zero, okN] at hok
    unfold J16_8
    simp (disch := omega) only [lock_eq, go_sem]
    refine iteI (fun g1 => bad ?_) (fun g1 => ?_)
    · have g1 : k = 0 := by simpa using g1
      rintro ⟨_, h⟩
      unfold namedS at h
      rw [g1] at h
      simp at h
    have g1 : ¬ k = 0 := by simpa using g1
    refine iteI (fun g2 => bad ?_) (fun g2 => ?_)
    · have g2 : k = s.length := by simpa using g2
      intro h
      have := h.1
      omega
    have g2 : ¬ k = s.length := by simpa using g2
    have g3 : k < s.length := by omega
    have hnm : namedS (s.take k) = true := by
      unfold namedS
      rw [hok, Bool.and_true, decide_eq_true_eq]
      intro e
      have := congrArg List.length e
      rw [List.length_take, List.length_nil] at this
      omega
    rw [if_pos ⟨g3, hnm⟩] at hK
    unfold J16_10
    have hb1 : ∀ (τ : AS) (K : AV → AS → Prop), buildSliceD PS false τ 30 1 1 [(0, .pv (.int .u8 34))] K = K (.full 1 (pvBytes [34])) τ := fun τ K => bb1 34 rfl
    simp (disch := omega) only [lock_eq, hb1, go_sem, T.ss9]
    have htl : (s.drop (k + 1)).length = s.length - (k + 1) := List.length_drop ..
    generalize s.drop (k + 1) = t at htl hK
    unfold quoS at hK
    generalize hQ : encQ (t.length + 1) t = Q at hK
    refine lp16_13 (fun (a : Nat × Bytes × AV) _ => t.length - a.1) (fun a τ' => a.1 ≤ t.length ∧ a.2.1.length ≤ a.1 * 4 ∧ (∃ L, RowF a.2.2 L ([34] ++ a.2.1) ∧ Sep τ τ' ([] ++ L)) ∧ ∃ n, t.length - a.1 < n ∧ Q = a.2.1 ++ encQ n (t.drop a.1)) (fun a => a.2.2) (fun a => .pv (.int .i64 ((a.1 : Nat) : Int))) (0, [], .full 1 (pvBytes [34])) ⟨Nat.zero_le _, Nat.le_refl _, ⟨[], .inr ⟨rfl, rfl⟩, Sep.start τ⟩, t.length + 1, by simp only; omega, hQ.symm⟩ ?_
    rintro ⟨i, l, v⟩ τ1 ⟨hi, hl, ⟨L, hR, hS⟩, n, hn, hq⟩
    simp only at hi hl hR hn hq
    obtain ⟨n, rfl⟩ : ∃ m, n = m + 1 := ⟨n - 1, by omega⟩
    have hll : ([34] ++ l : Bytes).length = l.length + 1 := by simp
    unfold L16_13
    simp (disch := omega) only [lock_eq, go_sem]
    refine iteI (fun g4 => ?_) (fun g4 => ?_)
    · rw [encQ_at g4] at hq
      simp (disch := omega) only [T.is9, go_sem, beq_iff_eq]
      generalize hc : t.getD i 0 = c at hq ⊢
      have j18 : ∀ bb : Bool, (bb = true ↔ (c.toNat = 92 ∧ i + 1 < t.length ∧ (t.getD (i + 1) 0).toNat ≠ 10)) → J16_18 env (Inv (fun a : Nat × Bytes × AV => [AV.pv (.str s), .pv (.int .i64 (k : Nat)), a.2.2, .pv (.str t), .pv (.int .i64 ((a.1 : Nat) : Int))]) (fun a _ => t.length - a.1) (fun a τ' => a.1 ≤ t.length ∧ a.2.1.length ≤ a.1 * 4 ∧ (∃ L, RowF a.2.2 L ([34] ++ a.2.1) ∧ Sep τ τ' ([] ++ L)) ∧ ∃ n, t.length - a.1 < n ∧ Q = a.2.1 ++ encQ n (t.drop a.1))) (t.length - i) (.pv (.str s)) (.pv (.int .i64 (k : Nat))) v (.pv (.str t)) (.pv (.int .i64 (i : Nat))) (.pv (.int .u8 c.toNat)) (.pv (.bool bb)) τ1 K X := by
        intro bb hbb
        unfold J16_18
        simp (disch := omega) only [lock_eq, go_sem]
        refine iteI (fun g5 => ?_) (fun g5 => ?_)
        · have g6 := hbb.1 g5
          rw [if_pos g6] at hq
          simp (disch := omega) only [T.is9, go_sem]
          refine add2 hR hS c (t.getD (i + 1) 0) rfl rfl (by omega) ?_
          intro v' L' σ' hR' hS'
          have e3 : i + 1 + 1 = i + 2 := by omega
          rw [e3]
          refine back (i + 2, l ++ [c, t.getD (i + 1) 0], v') rfl (by simp only; omega) ⟨by simp only; omega, by simp only [List.length_append, List.length_cons, List.length_nil]; omega, ⟨L', by simpa using hR', hS'⟩, n, by simp only; omega, ?_⟩
          simp only
          rw [hq, List.append_assoc]
        · rw [if_neg (fun h => g5 (hbb.2 h))] at hq
          have j21 : ∀ bb : Bool, (bb = true ↔ (c.toNat = 34 ∨ c.toNat = 10 ∨ c.toNat = 92)) → J16_21 env (Inv (fun a : Nat × Bytes × AV => [AV.pv (.str s), .pv (.int .i64 (k : Nat)), a.2.2, .pv (.str t), .pv (.int .i64 ((a.1 : Nat) : Int))]) (fun a _ => t.length - a.1) (fun a τ' => a.1 ≤ t.length ∧ a.2.1.length ≤ a.1 * 4 ∧ (∃ L, RowF a.2.2 L ([34] ++ a.2.1) ∧ Sep τ τ' ([] ++ L)) ∧ ∃ n, t.length - a.1 < n ∧ Q = a.2.1 ++ encQ n (t.drop a.1))) (t.length - i) (.pv (.str s)) (.pv (.int .i64 (k : Nat))) v (.pv (.str t)) (.pv (.int .i64 (i : Nat))) (.pv (.int .u8 c.toNat)) (.pv (.bool bb)) τ1 K X := by
            intro bb hbb
            unfold J16_21
            have hcl := u8lt c
            simp (disch := omega) only [lock_eq, go_sem]
            refine iteI (fun g6 => ?_) (fun g6 => ?_)
            · have app4 : ∀ (y1 y2 y3 : Int) (d1 d2 d3 : UInt8), y1 = d1.toNat → y2 = d2.toNat → y3 = d3.toNat → Q = l ++ ([92, d1, d2, d3] ++ encQ n (t.drop (i + 1))) → buildSliceD PS false τ1 30 4 4 [(0, .pv (.int .u8 92)), (1, .pv (.int .u8 y1)), (2, .pv (.int .u8 y2)), (3, .pv (.int .u8 y3))] fun t137 σ6 => appendD PS false σ6 30 v t137 fun t138 σ7 => ∃ m', m' < t.length - i ∧ Inv (fun a : Nat × Bytes × AV => [AV.pv (.str s), .pv (.int .i64 (k : Nat)), a.2.2, .pv (.str t), .pv (.int .i64 ((a.1 : Nat) : Int))]) (fun a _ => t.length - a.1) (fun a τ' => a.1 ≤ t.length ∧ a.2.1.length ≤ a.1 * 4 ∧ (∃ L, RowF a.2.2 L ([34] ++ a.2.1) ∧ Sep τ τ' ([] ++ L)) ∧ ∃ n, t.length - a.1 < n ∧ Q = a.2.1 ++ encQ n (t.drop a.1)) m' [.pv (.str s), .pv (.int .i64 (k : Nat)), t138, .pv (.str t), .pv (.int .i64 ((i + 1 : Nat) : Int))] σ7 := by
                intro y1 y2 y3 d1 d2 d3 e1 e2 e3 hq'
                rw [bb4 d1 d2 d3 e1 e2 e3]
                refine hR.append hS (r := [92, d1, d2, d3]) (fun σ => rfl) (by simp) (by simp; omega) ?_
                intro v' L' σ' hR' hS'
                refine back (i + 1, l ++ [92, d1, d2, d3], v') rfl (by simp only; omega) ⟨g4, by simp only [List.length_append, List.length_cons, List.length_nil]; omega, ⟨L', by simpa using hR', hS'⟩, n, by simp only; omega, ?_⟩
                simp only
                rw [hq', List.append_assoc]
              refine ⟨by decide, by decide, by decide, by decide, ?_⟩
              rcases hbb.1 g6 with h | h | h
              · rw [if_neg (by omega), if_pos h] at hq
                rw [h]
                exact app4 _ _ _ 48 52 50 rfl rfl rfl hq
              · rw [if_neg (by omega), if_neg (by omega), if_pos h] at hq
                rw [h]
                exact app4 _ _ _ 48 49 50 rfl rfl rfl hq
              · rw [if_pos h] at hq
                rw [h]
                exact app4 _ _ _ 49 51 52 rfl rfl rfl hq
            · have h3 : ¬ (c.toNat = 34 ∨ c.toNat = 10 ∨ c.toNat = 92) := fun h => g6 (hbb.2 h)
              rw [if_neg (by omega), if_neg (by omega), if_neg (by omega)] at hq
              refine add1 hR hS c rfl (by omega) ?_
              intro v' L' σ' hR' hS'
              refine back (i + 1, l ++ [c], v') rfl (by simp only; omega) ⟨g4, by simp only [List.length_append, List.length_singleton]; omega, ⟨L', by simpa using hR', hS'⟩, n, by simp only; omega, ?_⟩
              simp only
              rw [hq, List.append_assoc]
          refine iteI (fun g6 => j21 _ (tIff (.inl (by simpa using g6)))) (fun g6 => ?_)
          have g6 : ¬ c.toNat = 34 := by simpa using g6
          refine iteI (fun g7 => j21 _ (tIff (.inr (.inl (by simpa using g7))))) (fun g7 => j21 _ ?_)
          have g7 : ¬ c.toNat = 10 := by simpa using g7
          rw [beq_iff_eq]
          omega
      refine iteI (fun g5 => ?_) (fun g5 => j18 _ (fIff (fun h => g5 h.1)))
      refine iteI (fun g6 => ?_) (fun g6 => j18 _ (fIff (fun h => g6 h.2.1)))
      refine j18 _ ?_
      rw [bne, Bool.not_eq_true', beq_eq_false_iff_ne]
      exact ⟨fun h => ⟨g5, g6, by omega⟩, fun h => by have := h.2.2; omega⟩
    · rw [encQ_end g4, List.append_nil] at hq
      refine add1 hR hS 34 rfl (by omega) ?_
      intro v' L' σ' hR' hS'
      rw [conv_bytes (l := [34] ++ l ++ [34]) (isSlice T.el30) Tryd.underlying9 Tryd.underlying5 T.sz5 hR'.toPV]
      refine lex_call' h4 fun σ3 hs3 => ?_
      have hK := hK σ3 (AS.sub_trans hS'.sub hs3)
      rw [hq] at hK
      cases hl : lexS ([34] ++ l ++ [34]) with
      | none =>
        rw [hl] at hK
        simp only [lexV, lock_eq, ext_tuple, List.getElem?_cons_zero, List.getElem?_cons_succ, someEx, go_sem, Bool.not_false, if_true]
        exact retV_self hK
      | some ll =>
        rw [hl] at hK
        simp only [lexV, lock_eq, ext_tuple, List.getElem?_cons_zero, List.getElem?_cons_succ, someEx, go_sem, Bool.not_true, Bool.false_eq_true, if_false, T.lnl47, bne, Bool.not_eq_true', beq_eq_false_iff_ne, ne_eq]
        match ll, hK with
        | [], hK =>
          simp only [List.length_nil]
          rw [if_pos (by decide)]
          exact retV_self hK
        | [t], hK =>
          simp only [List.length_cons, List.length_nil]
          rw [if_neg (by decide)]
          unfold J16_25
          simp (disch := omega) only [lock_eq, T.st9, Nat.zero_add, text0, T.fe52_1, T.le9, text1, someEx]
          exact retV_self hK
        | t :: u :: l, hK =>
          simp only [List.length_cons]
          rw [if_pos (by omega)]
          exact retV_self hK
  unfold L16_2
  simp (disch := omega) only [lock_eq, go_sem]
  refine iteI (fun g1 => ?_) (fun g1 => ?_)
  · have hsd := span_drop (p := eqB) g1
    simp (disch := omega) only [T.is9, go_sem, bne, Bool.not_eq_true', beq_eq_false_iff_ne, ne_eq]
    refine iteI (fun g2 => ?_) (fun g2 => ?_)
    · have hE : eqB (s.getD k 0) = true := by unfold eqB; rw [Bool.not_eq_true', beq_eq_false_iff_ne]; exact g2
      rw [if_pos hE] at hsd
      have hd2 : (s.drop k).take (kS s - k) = s.getD k 0 :: (s.drop (k + 1)).take (kS s - (k + 1)) := by
        rw [drop_consD (d := 0) g1]
        have : kS s - k = (kS s - (k + 1)) + 1 := by omega
        rw [this, List.take_succ_cons]
      rw [hd2, okN] at hok
      generalize hc : s.getD k 0 = c at hok
      unfold J16_3
      have next : (letterB c || (!decide (k = 0) && digitB c)) = true → ∃ m', m' < s.length - k ∧ Inv (fun i : Nat => [AV.pv (.str s), .pv (.int .i64 ((i : Nat) : Int))]) (fun k _ => s.length - k) (fun k τ' => τ' = τ ∧ k ≤ s.length ∧ kS s = k + spanL eqB (s.drop k) ∧ okN true (s.take (kS s)) = okN (decide (k = 0)) ((s.drop k).take (kS s - k))) m' [.pv (.str s), .pv (.int .i64 ((k + 1 : Nat) : Int))] τ := by
        intro h
        refine back (k + 1) rfl (by omega) ⟨rfl, g1, by omega, ?_⟩
        rw [hok, h, Bool.true_and]
        simp
      have bad2 : (letterB c || (!decide (k = 0) && digitB c)) = false → retV (.tuple [.pv (.str []), .pv (.str []), .pv (.bool false)]) τ K := by
        intro h
        rw [h, Bool.false_and] at hok
        refine bad ?_
        rintro ⟨_, h2⟩
        unfold namedS at h2
        rw [hok, Bool.and_false] at h2
        cases h2
      have j5 : ∀ b : Bool, b = letterB c → J16_5 env (Inv (fun i : Nat => [AV.pv (.str s), .pv (.int .i64 ((i : Nat) : Int))]) (fun k _ => s.length - k) (fun k τ' => τ' = τ ∧ k ≤ s.length ∧ kS s = k + spanL eqB (s.drop k) ∧ okN true (s.take (kS s)) = okN (decide (k = 0)) ((s.drop k).take (kS s - k)))) (s.length - k) (.pv (.str s)) (.pv (.int .i64 (k : Nat))) (.pv (.int .u8 c.toNat)) (.pv (.bool b)) τ K X := by
        intro b hb
        rw [← hb] at next bad2
        unfold digitB at next bad2
        unfold J16_5
        simp (disch := omega) only [lock_eq, go_sem, Bool.not_eq_true']
        refine iteI (fun g3 => ?_) (fun g3 => ?_)
        · rw [g3] at next bad2
          refine iteI (fun g4 => ?_) (fun g4 => bad2 (by rw [decide_eq_true (p := k = 0) (by omega)]; rfl))
          refine iteI (fun g5 => ?_) (fun g5 => bad2 (by rw [decide_eq_false (p := 48 ≤ c.toNat) (by omega)]; simp))
          refine iteI (fun g6 => bad2 ?_) (fun g6 => next ?_)
          · have g6 : ¬ c.toNat ≤ 57 := by simpa using g6
            rw [decide_eq_false g6]; simp
          · have g6 : c.toNat ≤ 57 := by simpa using g6
            rw [decide_eq_false (p := k = 0) (by omega), decide_eq_true (p := 48 ≤ c.toNat) (by omega), decide_eq_true g6]; rfl
        · have g3 : b = true := by simpa using g3
          exact next (by rw [g3]; rfl)
      have hld := letter_doc c
      simp (disch := omega) only [lock_eq, T.is9, hc, go_sem]
      by_cases h1 : 97 ≤ c.toNat <;> by_cases h2 : c.toNat ≤ 122 <;> by_cases h3 : 65 ≤ c.toNat <;> by_cases h4 : c.toNat ≤ 90 <;>
        simp only [h1, h2, h3, h4, if_true, if_false] <;> exact j5 _ (by rw [hld]; simp only [h1, h2, h3, h4, decide_true, decide_false, Bool.true_and, Bool.false_and, Bool.and_true, Bool.and_false, Bool.true_or, Bool.or_true, Bool.false_or, Bool.or_false])
    · have hE : ¬ eqB (s.getD k 0) = true := by unfold eqB; rw [Bool.not_eq_true', beq_eq_false_iff_ne]; exact g2
      rw [if_neg hE] at hsd
      exact j8 hsd
  · exact j8 (by rw [List.drop_eq_nil_of_le (by omega)]; rfl)
end
end Go.AD.Lx
