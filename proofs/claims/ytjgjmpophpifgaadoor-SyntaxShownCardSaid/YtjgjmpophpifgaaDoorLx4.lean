/- lex: quoted texts, a token, Lex. -/
import Derived.Test.YtjgjmpophpifgaaDoorLx3
set_option linter.unusedVariables false
set_option linter.unusedSimpArgs false
set_option maxRecDepth 100000
namespace Go.AD.Lx
open Go.Proofs
def escOf (f : Nat) : Option (Bytes → Bytes × Bytes) := if f = 90 then some inTextS else if f = 92 then some inEreS else none
theorem esc_at {env : Env} (h1 : env 90 = T_esc inTextS) (h2 : env 92 = T_esc inEreS) {f : Nat} {e : Bytes → Bytes × Bytes} (h : escOf f = some e) : env f = T_esc e := by
  unfold escOf at h
  split at h
  · rename_i g; cases h; rw [g]; exact h1
  split at h
  · rename_i g; cases h; rw [g]; exact h2
  cases h
theorem inText_sum (r : Bytes) (h : r ≠ []) : (inTextS r).1.length + (inTextS r).2.length ≤ r.length + 1 := by
  have : 0 < r.length := List.length_pos_iff.2 h
  unfold inTextS
  split
  · simp only [List.length_drop, List.length_singleton]; omega
  · simp only [List.length_drop]
    split
    · simp only [List.length_nil]; omega
    split
    · simp only [List.length_singleton]; omega
    split
    · simp only [List.length_singleton]; omega
    · simp only [List.length_cons, List.length_nil]; omega
theorem inEre_sum (r : Bytes) (h : r ≠ []) : (inEreS r).1.length + (inEreS r).2.length ≤ r.length + 1 := by
  have : 0 < r.length := List.length_pos_iff.2 h
  unfold inEreS
  split
  · simp
  · simp only [List.length_drop]
    split
    · simp only [List.length_singleton]; omega
    · simp only [List.length_cons, List.length_nil]; omega
theorem esc_facts {f : Nat} {e : Bytes → Bytes × Bytes} (h : escOf f = some e) : ∀ r : Bytes, r ≠ [] → (e r).2.length ≤ r.length ∧ (e r).1.length + (e r).2.length ≤ r.length + 1 := by
  intro r hr
  unfold escOf at h
  split at h
  · cases h; exact ⟨Nat.le_of_lt (inText_le r hr), inText_sum r hr⟩
  split at h
  · cases h; exact ⟨inEre_le r, inEre_sum r hr⟩
  cases h
section
variable {env : Env} {args : List AV} {σ0 σ : AS} {K : AV → AS → Prop} {X : PV → AS → Prop} {l b : Nat} {s acc : Bytes} {ts : List Tok} {Y B : Objs}
def quK (σ0 : AS) (l : Nat) (ts : List Tok) (Y : Objs) (K : AV → AS → Prop) : Option (Bytes × Bytes) → Prop
  | none => ∀ σ' s', LexAt σ0 σ' l s' ts Y → K (.tuple [.pv (.str []), .pv (.bool false)]) σ'
  | some (t, r) => ∀ σ', LexAt σ0 σ' l r ts Y → K (.tuple [.pv (.str t), .pv (.bool true)]) σ'
def T_quoted : Tr := fun args σ K _ => ∃ (σ0 : AS) (l f : Nat) (q : UInt8) (e : Bytes → Bytes × Bytes) (s : Bytes) (ts : List Tok) (Y : Objs), args = [.addr l 0, .pv (.int .u8 q.toNat), .clo f [.addr l 0] []] ∧ escOf f = some e ∧ LexAt σ0 σ l s ts Y ∧ s.length ≤ 90000 ∧ ∀ n, s.length < n → quK σ0 l ts Y K (quotedS q e n s [])
theorem u8_beq (a b : UInt8) : (((a.toNat : Nat) : Int) == ((b.toNat : Nat) : Int)) = decide (a = b) := by
  rw [nBeq, Bool.eq_iff_iff, beq_iff_eq, decide_eq_true_eq]
  exact ⟨fun h => UInt8.toNat_inj.1 h, fun h => by rw [h]⟩
theorem T_quoted_ok (h2 : env 84 = T_take) (hb : env 47 = T_WriteByte) (hs' : env 48 = T_Str) (he1 : env 90 = T_esc inTextS) (he2 : env 92 = T_esc inEreS) (h : T_quoted args σ K X) : bodyD PS env an89 Tryd.f89 args σ K X := by
  obtain ⟨σ0, l, f, q, e, s0, ts, Y, rfl, hf, hL, hlen, hK⟩ := h
  rw [← S89_eq env, S89]
  simp only [lock_eq]
  refine alloc_of T.zo75 rfl ?_
  intro b hb0
  have hI : LexAt σ0 (σ.set b (.cells [.pv .nilPtr, .nilS] (some 75))) l s0 ts ([(b, .cells [.pv .nilPtr, .nilS] (some 75))] ++ Y) := by
    obtain ⟨ov, ol, hR, hS⟩ := hL
    refine ⟨ov, ol, hR, (hS.alloc hb0 _).perm ?_⟩
    have : ((b, AObj.cells [AV.pv .nilPtr, .nilS] (some 75)) :: (((l, AObj.cells [.pv (.str s0), ov] none) :: ol) ++ Y)).Perm (((l, AObj.cells [.pv (.str s0), ov] none) :: ol) ++ ((b, AObj.cells [AV.pv .nilPtr, .nilS] (some 75)) :: Y)) := List.perm_middle.symm
    simpa using this
  have hK := hK (s0.length + 1) (Nat.lt_succ_self _)
  generalize hQ : quotedS q e (s0.length + 1) s0 [] = Q at hK
  refine lp89_2 (fun (a : Bytes × Bytes) _ => a.1.length) (fun a τ => ∃ B n, LexAt σ0 τ l a.1 ts (B ++ Y) ∧ BAt b a.2 B ∧ a.1.length < n ∧ Q = quotedS q e n a.1 a.2 ∧ a.2.length + a.1.length ≤ 90000) (s0, []) ⟨_, _, hI, BAt.new b, Nat.lt_succ_self _, hQ.symm, by simp; omega⟩ ?_
  rintro ⟨s, acc⟩ τ ⟨B, n, hL, hB, hn, hq, hsum⟩
  simp only at hL hB hn hq hsum
  obtain ⟨n, rfl⟩ : ∃ m, n = m + 1 := ⟨n - 1, by omega⟩
  rw [quotedS] at hq
  obtain ⟨ov, hl⟩ := hL.str
  have i0 : ∀ (x : Bytes) (K : AV → Prop), 0 < x.length → indexD PS 9 (.pv (.str x)) (.pv (.int .i64 0)) K = K (.pv (.int .u8 (x.getD 0 0).toNat)) := fun x K hx => T.is9 (i := 0) hx
  have none' : Q = none → retV (.tuple [.pv (.str []), .pv (.bool false)]) τ K := by
    intro h
    rw [h] at hK
    obtain ⟨ov, ol, hR, hS⟩ := hL
    exact retV_self (hK τ s ⟨ov, ol, hR, hS.sublist (List.Sublist.cons_cons _ ((List.Sublist.refl ol).append (List.sublist_append_right B Y)))⟩)
  unfold L89_2
  simp (disch := omega) only [go_sem, hl, ldM_cells, List.getElem?_cons_zero]
  refine iteI (fun g1 => ?_) (fun g1 => ?_)
  · have g1 : s ≠ [] := by simpa using g1
    have hp : 0 < s.length := List.length_pos_iff.2 g1
    rw [if_neg g1] at hq
    simp (disch := omega) only [i0 s _ hp, go_sem, bne, Bool.not_eq_true', beq_eq_false_iff_ne, ne_eq]
    refine iteI (fun g2 => ?_) (fun g2 => ?_)
    · rw [if_neg g2] at hq
      unfold J89_3
      refine take_call h2 hL (n := 1) hp ?_
      intro σ1 hL1
      have ht : (s.take 1).getD 0 0 = s.getD 0 0 := by cases s <;> simp
      have htl : 0 < (s.take 1).length := by rw [List.length_take]; omega
      have hdl : (s.drop 1).length = s.length - 1 := by rw [List.length_drop]
      simp (disch := omega) only [go_sem, i0 _ _ htl, ht, nBeq, bne, Bool.not_eq_true', beq_eq_false_iff_ne, ne_eq, beq_iff_eq]
      refine iteI (fun g3 => ?_) (fun g3 => ?_)
      · have g3 : s.getD 0 0 = q := UInt8.toNat_inj.1 g3
        rw [if_pos g3] at hq
        rw [hq] at hK
        rw [hs']
        obtain ⟨ov1, ol1, hR1, hS1⟩ := hL1
        have p1 : ∀ C : Objs, ((l, AObj.cells [.pv (.str (s.drop 1)), ov1] none) :: (ol1 ++ (C ++ Y))).Perm (C ++ ((l, AObj.cells [.pv (.str (s.drop 1)), ov1] none) :: (ol1 ++ Y))) := by
          intro C
          have : (((l, AObj.cells [.pv (.str (s.drop 1)), ov1] none) :: ol1) ++ (C ++ Y)).Perm (C ++ (((l, AObj.cells [.pv (.str (s.drop 1)), ov1] none) :: ol1) ++ Y)) := by
            rw [← List.append_assoc, ← List.append_assoc]
            exact List.Perm.append_right Y List.perm_append_comm
          simpa using this
        refine ⟨b, σ0, acc, B, _, rfl, hB, hS1.perm (p1 B), ?_⟩
        intro σ2 hS2
        exact retV_self (hK σ2 ⟨ov1, ol1, hR1, hS2⟩)
      · have g3 : ¬ s.getD 0 0 = q := fun h => g3 (by rw [h])
        rw [if_neg g3] at hq
        refine iteI (fun g4 => ?_) (fun g4 => ?_)
        · rw [if_pos g4] at hq
          refine wb_call hb hL1 hB (by omega) (c := s.getD 0 0) rfl ?_
          intro σ2 B2 hB2 hL2
          exact back (s.drop 1, acc ++ [s.getD 0 0]) rfl (by simp only; omega) ⟨B2, n, hL2, hB2, by simp only; omega, hq, by simp only [List.length_append, List.length_singleton]; omega⟩
        · rw [if_neg g4] at hq
          obtain ⟨ov1, hl1⟩ := hL1.str
          simp (disch := omega) only [go_sem, hl1, ldM_cells, List.getElem?_cons_zero, beq_iff_eq]
          refine iteI (fun g5 => ?_) (fun g5 => ?_)
          · rw [if_pos g5] at hq
            rw [hq] at hK
            obtain ⟨ov1, ol1, hR1, hS1⟩ := hL1
            exact retV_self (hK _ _ ⟨ov1, ol1, hR1, hS1.sublist (List.Sublist.cons_cons _ ((List.Sublist.refl ol1).append (List.sublist_append_right B Y)))⟩)
          · rw [if_neg g5] at hq
            obtain ⟨f1, f2⟩ := esc_facts hf (s.drop 1) g5
            simp only [callD, List.cons_append, List.nil_append, List.append_nil]
            rw [esc_at he1 he2 hf]
            refine ⟨σ0, l, b, s.drop 1, acc, ts, B, Y, rfl, hL1, hB, g5, by omega, by omega, ?_⟩
            intro σ2 B2 hB2 hL2
            exact back ((e (s.drop 1)).2, acc ++ (e (s.drop 1)).1) rfl (by simp only; omega) ⟨B2, n, hL2, hB2, by simp only; omega, hq, by simp only [List.length_append]; omega⟩
    · have g2 : (s.getD 0 0).toNat = 10 := by simpa [-List.getD_eq_getElem?_getD] using g2
      rw [if_pos g2] at hq
      exact none' hq
  · have g1 : s = [] := by simpa using g1
    rw [if_pos g1] at hq
    exact none' hq
theorem quote_call (hq : env 89 = T_quoted) (hp : env 88 = T_put) (hL : LexAt σ0 σ l (s.drop 1) ts Y) {f : Nat} {q : UInt8} {z : Int} (hz : z = q.toNat) {e : Bytes → Bytes × Bytes} (hf : escOf f = some e) {k : Bytes} (hs : s.length ≤ 90000) (ht : ts.length ≤ 100000) {K : AV → AS → Prop} (hK : okK σ0 l Y K (quoteTok q e k s ts)) :
    env 89 [.addr l 0, .pv (.int .u8 z), .clo f [.addr l 0] []] σ (fun t91 σ16 => extractD t91 0 fun t92 => extractD t91 1 fun t93 => env 88 [.addr l 0, .pv (.str k), t92] σ16 (fun t96 σ17 => retV t93 σ17 K) (panV X)) (panV X) := by
  subst hz
  rw [hq]
  have hdl : (s.drop 1).length ≤ s.length := by rw [List.length_drop]; omega
  refine ⟨σ0, l, f, q, e, s.drop 1, ts, Y, rfl, hf, hL, by omega, ?_⟩
  intro n hn
  have hfu : quotedS q e n (s.drop 1) [] = quotedS q e (s.length + 1) (s.drop 1) [] := quoted_fuel (fun r hr => (esc_facts hf r hr).1) n (s.length + 1) (s.drop 1) [] hn (by omega)
  rw [hfu]
  unfold quoteTok at hK
  cases hqs : quotedS q e (s.length + 1) (s.drop 1) [] with
  | none =>
    rw [hqs] at hK
    intro σ' s' hL'
    simp only [go_sem, List.getElem?_cons_zero, List.getElem?_cons_succ]
    exact put_call hp hL' (by omega) fun σ2 hL2 => retV_self (hK _ hL2.sep)
  | some x =>
    obtain ⟨t, r⟩ := x
    rw [hqs] at hK
    intro σ' hL'
    simp only [go_sem, List.getElem?_cons_zero, List.getElem?_cons_succ]
    exact put_call hp hL' (by omega) fun σ2 hL2 => retV_self (hK _ hL2)
def T_token : Tr := fun args σ K _ => ∃ (σ0 : AS) (l : Nat) (s : Bytes) (ts : List Tok) (Y : Objs), args = [.addr l 0] ∧ LexAt σ0 σ l s ts Y ∧ s ≠ [] ∧ s.length ≤ 80000 ∧ ts.length ≤ 100000 ∧ (∀ t ∈ ts, t.2.length ≤ 100000) ∧ okK σ0 l Y K (tokenS s ts)
theorem byte_call {f : Nat} {p : UInt8 → Bool} (h : env f = byteT p) {c : UInt8} (hK : K (.pv (.bool (p c))) σ) : env f [.pv (.int .u8 c.toNat)] σ K X := by
  rw [h]; exact ⟨c, rfl, hK⟩
structure LexEnv (env : Env) : Prop where
  take : env 84 = T_take
  put : env 88 = T_put
  number : env 83 = T_number
  span : env 86 = T_span
  letter : env 93 = byteT letterB
  listed : env 95 = T_listed
  operand : env 91 = T_operand
  name : env 94 = T_name
  quoted : env 89 = T_quoted
  pre : env 85 = strT2 fun s t => .pv (.bool (Lib.hasPrefix s t))
  ixb : env 24 = T_IndexByte
theorem T_token_ok (E : LexEnv env) (h : T_token args σ K X) : bodyD PS env an45 Tryd.f45 args σ K X := by
  obtain ⟨σ0, l, s, ts, Y, rfl, hL, hne, hs, ht, hlen, hK⟩ := h
  have hp : 0 < s.length := List.length_pos_iff.2 hne
  obtain ⟨ov, hl⟩ := hL.str
  have i0 : ∀ (x : Bytes) (K : AV → Prop), 0 < x.length → indexD PS 9 (.pv (.str x)) (.pv (.int .i64 0)) K = K (.pv (.int .u8 (x.getD 0 0).toNat)) := fun x K hx => T.is9 (i := 0) hx
  have hnb := number_le s
  rw [← S45_eq env, S45]
  simp (disch := omega) only [go_sem, hl, ldM_cells, List.getElem?_cons_zero, i0 s _ hp, beq_iff_eq]
  rw [E.number]
  refine ⟨s, rfl, by omega, ?_⟩
  unfold tokenS at hK
  generalize hc : s.getD 0 0 = c at hK
  have j28 : ∀ (σ1 : AS) (bb : Bool), LexAt σ0 σ1 l s ts Y → bb = (decide (1 < s.length) && listedS lTwos (s.take 2)) → okK σ0 l Y K (opTok s ts) → J45_28 env (.addr l 0) (.pv (.int .u8 c.toNat)) (.pv (.bool bb)) σ1 K X := by
    intro σ1 bb hL1 hbb hK
    unfold J45_28
    simp only [go_sem]
    unfold opTok at hK
    refine iteI (fun g1 => ?_) (fun g1 => ?_)
    · subst g1
      rw [← hbb] at hK
      have hlt : 1 < s.length := by
        have := hbb.symm
        rw [Bool.and_eq_true] at this
        exact of_decide_eq_true this.1
      simp only [if_true] at hK
      refine take_call E.take hL1 (n := 2) hlt ?_
      intro σ2 hL2
      exact put_call E.put hL2 (by omega) fun σ3 hL3 => retV_self (hK _ hL3)
    · rw [if_neg (by rw [← hbb]; exact g1), hc] at hK
      rw [E.ixb]
      refine ⟨lOnes, c, rfl, ?_⟩
      simp only [go_sem]
      refine iteI (fun g2 => ?_) (fun g2 => ?_)
      · rw [if_pos g2] at hK
        refine take_call E.take hL1 (n := 1) hp ?_
        intro σ2 hL2
        exact put_call E.put hL2 (by omega) fun σ3 hL3 => retV_self (hK _ hL3)
      · rw [if_neg g2] at hK
        exact retV_self (hK _ hL1.sep)
  have j21 : ∀ (σ1 : AS) (bb : Bool), LexAt σ0 σ1 l s ts Y → bb = (decide (c.toNat = 47) && !operandS ts) → okK σ0 l Y K (if c.toNat = 47 ∧ operandS ts = false then quoteTok 47 inEreS kEre s ts else if letterB c = true then nameS s ts else opTok s ts) → J45_21 env (.addr l 0) (.pv (.int .u8 c.toNat)) (.pv (.bool bb)) σ1 K X := by
    intro σ1 bb hL1 hbb hK
    unfold J45_21
    simp only [go_sem]
    refine iteI (fun g1 => ?_) (fun g1 => ?_)
    · rw [hbb, Bool.and_eq_true, decide_eq_true_eq, Bool.not_eq_true'] at g1
      rw [if_pos g1] at hK
      refine take_call E.take hL1 (n := 1) hp ?_
      intro σ2 hL2
      have := quote_call (env := env) (X := X) E.quoted E.put hL2 (f := 92) (q := 47) (z := 47) rfl (e := inEreS) rfl (k := kEre) (s := s) (by omega) ht hK
      exact this
    · have g1' : ¬ (c.toNat = 47 ∧ operandS ts = false) := by
        intro h
        apply g1
        rw [hbb, h.2, decide_eq_true h.1]; rfl
      rw [if_neg g1'] at hK
      refine byte_call E.letter ?_
      simp only [go_sem]
      refine iteI (fun g2 => ?_) (fun g2 => ?_)
      · rw [if_pos g2] at hK
        rw [E.name]
        refine ⟨σ0, l, s, ts, Y, rfl, hL1, by omega, ht, ?_⟩
        cases hn : nameS s ts with
        | none => rw [hn] at hK; exact fun σ' h => retV_self (hK σ' h)
        | some x => obtain ⟨r, ts'⟩ := x; rw [hn] at hK; exact fun σ' h => retV_self (hK σ' h)
      · rw [if_neg g2] at hK
        obtain ⟨ov1, hl1⟩ := hL1.str
        simp (disch := omega) only [go_sem, hl1, ldM_cells, List.getElem?_cons_zero]
        refine iteI (fun g3 => ?_) (fun g3 => ?_)
        · have hsl : ∀ K : AV → Prop, sliceD PS 9 (.pv (.str s)) none (some (.pv (.int .i64 2))) K = K (.pv (.str (s.take 2))) := fun K => T.st9 (i := 2) (by omega)
          rw [hsl]
          refine listed_call E.listed (a := lTwos) (by decide) (by rw [List.length_take]; omega) ?_
          exact j28 _ _ hL1 (by rw [decide_eq_true g3, Bool.true_and]) hK
        · exact j28 _ _ hL1 (by rw [decide_eq_false g3, Bool.false_and]) hK
  have j5 : ∀ bb : Bool, (bb = true ↔ (c.toNat = 32 ∨ c.toNat = 9)) → J45_5 env (.addr l 0) (.pv (.int .u8 c.toNat)) (.pv (.int .i64 (numberL s))) (.pv (.bool bb)) σ K X := by
    intro bb hbb
    unfold J45_5
    simp only [go_sem]
    refine iteI (fun g1 => ?_) (fun g1 => ?_)
    · rw [if_pos (hbb.1 g1)] at hK
      exact take_call E.take hL (n := 1) hp fun σ2 hL2 => retV_self (hK _ hL2)
    rw [if_neg (fun h => g1 (hbb.2 h))] at hK
    simp (disch := omega) only [go_sem, hl, ldM_cells, List.getElem?_cons_zero]
    refine prefix_call E.pre (by omega) ?_
    simp only [go_sem, beq_iff_eq]
    refine iteI (fun g2 => ?_) (fun g2 => ?_)
    · rw [if_pos g2] at hK
      have h2 : 2 ≤ s.length := by
        unfold Lib.hasPrefix at g2
        have := (List.isPrefixOf_iff_prefix.1 g2).length_le
        simpa using this
      exact take_call E.take hL (n := 2) h2 fun σ2 hL2 => retV_self (hK _ hL2)
    rw [if_neg g2] at hK
    refine iteI (fun g3 => ?_) (fun g3 => ?_)
    · rw [if_pos g3] at hK
      simp (disch := omega) only [go_sem, hl, ldM_cells, List.getElem?_cons_zero]
      refine span_call E.span (p := lineB) rfl (by omega) ?_
      exact take_call E.take hL (span_le _ _) fun σ2 hL2 => retV_self (hK _ hL2)
    rw [if_neg g3] at hK
    refine iteI (fun g4 => ?_) (fun g4 => ?_)
    · rw [if_pos g4] at hK
      refine take_call E.take hL (n := 1) hp ?_
      intro σ2 hL2
      exact put_call E.put hL2 (by omega) fun σ3 hL3 => retV_self (hK _ hL3)
    rw [if_neg g4] at hK
    refine iteI (fun g5 => ?_) (fun g5 => ?_)
    · rw [if_pos g5] at hK
      refine take_call E.take hL hnb ?_
      intro σ2 hL2
      exact put_call E.put hL2 (by omega) fun σ3 hL3 => retV_self (hK _ hL3)
    rw [if_neg g5] at hK
    refine iteI (fun g6 => ?_) (fun g6 => ?_)
    · rw [if_pos g6] at hK
      refine take_call E.take hL (n := 1) hp ?_
      intro σ2 hL2
      have := quote_call (env := env) (X := X) E.quoted E.put hL2 (f := 90) (q := 34) (z := 34) rfl (e := inTextS) rfl (k := kStr) (s := s) (by omega) ht hK
      exact this
    rw [if_neg g6] at hK
    refine iteI (fun g7 => ?_) (fun g7 => ?_)
    · rw [E.operand]
      refine ⟨σ0, l, s, ts, Y, rfl, hL, by omega, hlen, ?_⟩
      intro σ2 hL2
      simp only [go_sem]
      exact j21 _ _ hL2 (by rw [decide_eq_true g7, Bool.true_and]) hK
    · exact j21 _ _ hL (by rw [decide_eq_false g7, Bool.false_and]) hK
  refine iteI (fun g1 => j5 _ (by simp [g1])) (fun g1 => j5 _ ?_)
  simp [g1]
def lexV : Option (List Tok) → AV
  | none => .tuple [.pv (.lst 0 []), .pv (.bool false)]
  | some ts => .tuple [.pv (.lst ts.length (flatT ts)), .pv (.bool true)]
def T_Lex : Tr := fun args σ K _ => ∃ s : Bytes, args = [.pv (.str s)] ∧ ∀ σ', σ.sub σ' → K (lexV (lexS s)) σ'
theorem quoted_len {q : UInt8} {e : Bytes → Bytes × Bytes} (he : ∀ r, r ≠ [] → (e r).1.length + (e r).2.length ≤ r.length + 1) : ∀ (f : Nat) (s acc : Bytes) (t r : Bytes), quotedS q e f s acc = some (t, r) → t.length + r.length ≤ acc.length + s.length
  | 0, s, acc, t, r, h => by cases h
  | f + 1, s, acc, t, r, h => by
    rw [quotedS] at h
    split at h
    · cases h
    rename_i hne
    have hp : 0 < s.length := List.length_pos_iff.2 hne
    have hd : (s.drop 1).length = s.length - 1 := by rw [List.length_drop]
    split at h
    · cases h
    split at h
    · simp only [Option.some.injEq, Prod.mk.injEq] at h
      rw [← h.1, ← h.2]; omega
    split at h
    · have := quoted_len he f _ _ _ _ h
      simp only [List.length_append, List.length_singleton] at this
      omega
    split at h
    · cases h
    · rename_i hr
      have := quoted_len he f _ _ _ _ h
      have h2 := he (s.drop 1) hr
      simp only [List.length_append] at this
      omega
theorem token_texts {s : Bytes} {ts : List Tok} {r : Bytes} {ts' : List Tok} (h : tokenS s ts = some (r, ts')) : ∀ t ∈ ts', t ∈ ts ∨ t.2.length ≤ s.length := by
  have one : ∀ (k x : Bytes), x.length ≤ s.length → ∀ t ∈ ts ++ [(k, x)], t ∈ ts ∨ t.2.length ≤ s.length := by
    intro k x hx t ht
    rcases List.mem_append.1 ht with ht | ht
    · exact .inl ht
    · have : t = (k, x) := by simpa using ht
      rw [this]; exact .inr hx
  have tk : ∀ n, (s.take n).length ≤ s.length := fun n => by rw [List.length_take]; omega
  have qt : ∀ q e k, (∀ r, r ≠ [] → (e r).1.length + (e r).2.length ≤ r.length + 1) → quoteTok q e k s ts = some (r, ts') → ∀ t ∈ ts', t ∈ ts ∨ t.2.length ≤ s.length := by
    intro q e k he h
    unfold quoteTok at h
    split at h
    · cases h
    · rename_i t r' hq
      have := quoted_len he _ _ _ _ _ hq
      rw [List.length_drop] at this
      simp only [Option.some.injEq, Prod.mk.injEq] at h
      rw [← h.2]
      exact one _ _ (by simp only [List.length_nil] at this; omega)
  unfold tokenS at h
  split at h
  · simp only [Option.some.injEq, Prod.mk.injEq] at h
    rw [← h.2]; exact fun t ht => .inl ht
  split at h
  · simp only [Option.some.injEq, Prod.mk.injEq] at h
    rw [← h.2]; exact fun t ht => .inl ht
  split at h
  · simp only [Option.some.injEq, Prod.mk.injEq] at h
    rw [← h.2]; exact fun t ht => .inl ht
  split at h
  · simp only [Option.some.injEq, Prod.mk.injEq] at h
    rw [← h.2]; exact one _ _ (Nat.zero_le _)
  split at h
  · simp only [Option.some.injEq, Prod.mk.injEq] at h
    rw [← h.2]; exact one _ _ (tk _)
  split at h
  · exact qt _ _ _ inText_sum h
  split at h
  · exact qt _ _ _ inEre_sum h
  split at h
  · unfold nameS at h
    split at h
    · cases h
    · simp only [Option.some.injEq, Prod.mk.injEq] at h
      rw [← h.2]; exact one _ _ (tk _)
  · unfold opTok at h
    split at h
    · simp only [Option.some.injEq, Prod.mk.injEq] at h
      rw [← h.2]; exact one _ _ (tk _)
    · split at h
      · simp only [Option.some.injEq, Prod.mk.injEq] at h
        rw [← h.2]; exact one _ _ (tk _)
      · cases h
def lexI (σ0 : AS) (l : Nat) (Q : Option (List Tok)) : Option (Bytes × List Tok) → AS → Prop
  | none, τ => Q = none ∧ ∃ L, Sep σ0 τ L
  | some (s, ts), τ => LexAt σ0 τ l s ts [] ∧ s.length ≤ 65536 ∧ ts.length ≤ 20000 ∧ (∀ t ∈ ts, t.2.length ≤ 65536) ∧ ∃ n, s.length < n ∧ Q = lexL n s ts
def lexM : Option (Bytes × List Tok) → Nat
  | none => 0
  | some (s, _) => s.length + 1
theorem T_Lex_ok (h1 : env 45 = T_token) (h : T_Lex args σ K X) : bodyD PS env an27 Tryd.f27 args σ K X := by
  obtain ⟨s0, rfl, hK⟩ := h
  rw [← S27_eq env, S27]
  have bd : ∀ (K : AV → Prop), buildD PS 72 [(0, .pv (.str s0))] K = K (.agg [.pv (.str s0), .nilS]) := by
    intro K
    simp [buildD, buildFill, go_sem, AV.cells, AV.cellOk, setAll]
  simp only [lock_eq, bd]
  refine ⟨rfl, ?_⟩
  intro l hl0
  have hL0 : LexAt σ (σ.set l (.cells [.pv (.str s0), .nilS] none)) l s0 [] [] := ⟨.nilS, [], RowV.nil PS 52, by simpa using (Sep.start σ).alloc hl0 (.cells [.pv (.str s0), .nilS] none)⟩
  simp (disch := omega) only [go_sem, AV.cells]
  generalize hQ : lexS s0 = Q at hK
  have fin : ∀ (τ : AS) (a : Option (Bytes × List Tok)), (a = none → Q = none) → (∀ s ts, a = some (s, ts) → LexAt σ τ l s ts [] ∧ Q = some ts) → (∃ L, Sep σ τ L) → J27_5 env (.addr l 0) (.pv (.bool a.isSome)) τ K X := by
    intro τ a ha1 ha2 hsep
    obtain ⟨L, hL⟩ := hsep
    unfold J27_5
    cases a with
    | none =>
      simp only [go_sem, Option.isSome_none, Bool.not_false, if_true]
      have := hK τ hL.sub
      rw [ha1 rfl] at this
      exact ⟨lexV none, τ, .inr ⟨.inr ⟨_, rfl, rfl⟩, .inl rfl, trivial⟩, sub_refl _, this⟩
    | some x =>
      obtain ⟨s, ts⟩ := x
      obtain ⟨hLx, hq⟩ := ha2 s ts rfl
      obtain ⟨ov, ol, hR, hS⟩ := hLx
      have hl : τ l = some (.cells [.pv (.str s), ov] none) := hS.get (by simp)
      simp (disch := omega) only [go_sem, Option.isSome_some, Bool.not_true, Bool.false_eq_true, if_false, hl, ldM_cells, List.getElem?_cons_zero, List.getElem?_cons_succ]
      have := hK τ hL.sub
      rw [hq] at this
      exact ⟨lexV (some ts), τ, .inr ⟨.inr ⟨_, hR.toPV, rfl⟩, .inl rfl, trivial⟩, sub_refl _, this⟩
  have start : ∃ a, lexI σ l Q a (σ.set l (.cells [.pv (.str s0), .nilS] none)) ∧ (decide (s0.length ≤ 65536)) = a.isSome := by
    by_cases h : s0.length ≤ 65536
    · exact ⟨some (s0, []), ⟨hL0, h, by simp, by simp, s0.length + 1, Nat.lt_succ_self _, by rw [← hQ, lexS, if_pos h]⟩, by simp [h]⟩
    · refine ⟨none, ⟨by rw [← hQ, lexS, if_neg h], ?_⟩, by simp [h]⟩
      obtain ⟨L, hS⟩ := hL0.sep
      exact ⟨_, hS⟩
  obtain ⟨a0, hI0, ha0⟩ := start
  rw [ha0]
  refine lp27_3 (fun (a : Option (Bytes × List Tok)) _ => lexM a) (fun a τ => lexI σ l Q a τ) (fun a => .pv (.bool a.isSome)) a0 hI0 ?_
  rintro a τ hI
  unfold L27_3
  cases a with
  | none =>
    simp only [go_sem, Option.isSome_none, Bool.false_eq_true, if_false]
    exact fin τ none (fun _ => hI.1) (fun s ts h => by cases h) hI.2
  | some x =>
    obtain ⟨s, ts⟩ := x
    obtain ⟨hLx, hsl, htl, htt, n, hn, hq⟩ := hI
    obtain ⟨ov, hl⟩ := hLx.str
    obtain ⟨n, rfl⟩ : ∃ m, n = m + 1 := ⟨n - 1, by omega⟩
    rw [lexL] at hq
    simp (disch := omega) only [go_sem, Option.isSome_some, if_true, hl, ldM_cells, List.getElem?_cons_zero, bne, Bool.not_eq_true', beq_eq_false_iff_ne, ne_eq]
    refine iteI (fun g1 => ?_) (fun g1 => ?_)
    · rw [if_neg g1] at hq
      unfold J27_4
      rw [h1]
      refine ⟨σ, l, s, ts, [], rfl, hLx, g1, by omega, by omega, fun t ht => Nat.le_trans (htt t ht) (by decide), ?_⟩
      cases ht : tokenS s ts with
      | none =>
        rw [ht] at hq
        intro σ' hsep
        simp only [go_sem, Bool.false_eq_true, if_false]
        obtain ⟨L, hS⟩ := hsep
        exact back none rfl (by show 0 < s.length + 1; omega) ⟨hq, _, hS⟩
      | some x =>
        obtain ⟨r, ts'⟩ := x
        rw [ht] at hq
        simp only at hq
        intro σ' hL'
        obtain ⟨t1, t2⟩ := token_le g1 ht
        have t3 := token_texts ht
        obtain ⟨ov', ol', hR', hS'⟩ := id hL'
        have hl' : σ' l = some (.cells [.pv (.str r), ov'] none) := hS'.get (by simp)
        simp (disch := omega) only [go_sem, if_true, hl', ldM_cells, List.getElem?_cons_zero, List.getElem?_cons_succ, T.lnv47 hR'.toPV]
        by_cases h2 : ts'.length ≤ 20000
        · rw [if_pos h2] at hq
          refine back (some (r, ts')) (by simp [h2]) (by show r.length + 1 < s.length + 1; omega) ⟨hL', by omega, h2, ?_, n, by omega, hq⟩
          intro t ht'
          rcases t3 t ht' with h | h
          · exact htt t h
          · omega
        · rw [if_neg h2] at hq
          obtain ⟨L, hS⟩ := hL'.sep
          exact back none (by simp [h2]) (by show 0 < s.length + 1; omega) ⟨hq, _, hS⟩
    · have g1 : s = [] := by simpa using g1
      rw [if_pos g1] at hq
      obtain ⟨L, hS⟩ := hLx.sep
      exact fin τ (some (s, ts)) (fun h => by cases h) (fun s' ts' h => by cases h; exact ⟨hLx, hq⟩) ⟨_, hS⟩
end
end Go.AD.Lx
