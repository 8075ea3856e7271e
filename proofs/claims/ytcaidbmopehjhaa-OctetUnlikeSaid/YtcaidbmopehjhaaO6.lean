/- octet: Show, and the document's. -/
import Derived.Test.YtcaidbmopehjhaaO5
set_option linter.unusedVariables false
set_option maxRecDepth 100000
namespace Go.AD
open Go.Proofs
/-! ### the document's -/
def T21 : Tr := fun args σ K _ => ∃ s : List UInt8, args = [.pv (.str s)] ∧ s.length ≤ 5000 ∧ K (.pv (.str (showS s))) σ
theorem T21_ok {env : Env} (h41 : env 41 = T41) (h42 : env 42 = T42) (h43 : env 43 = T43) (args : List AV) (σ : AS) (K : AV → AS → Prop) (X : PV → AS → Prop) (h : T21 args σ K X) : bodyD PA env an21 Try.f21 args σ K X := by
  obtain ⟨s, rfl, hs, h⟩ := h
  rw [← S21_eq env, S21]
  refine lp21_3 (fun (a : Nat × List UInt8) _ => s.length - a.1) (fun a τ => τ = σ ∧ a.1 ≤ s.length ∧ a.2.length ≤ 2000000 * a.1 ∧ showS s = a.2 ++ showS (s.drop a.1)) (fun a => .pv (.str a.2)) (fun a => .pv (.int .i64 a.1)) (0, []) ⟨rfl, by simp, by simp, by simp⟩ ?_
  rintro ⟨i, out⟩ τ ⟨rfl, hi, hl, he⟩
  simp only at hi hl he
  unfold L21_3
  simp only [go_sem]
  split
  · rename_i hlt
    have hu : 0 < (s.drop i).length := by rw [List.length_drop]; omega
    have hc : s.getD i 0 = (s.drop i).getD 0 0 := by simp
    have hst := showS_step hu
    rw [ix9 hlt, sl9 (by omega), h41]
    refine ⟨_, rfl, hu, ?_⟩
    simp only [go_sem, List.getElem?_cons_zero, List.getElem?_cons_succ]
    rw [hc]
    generalize hgu : s.drop i = u at *
    have hul : u.length = s.length - i := by rw [← hgu, List.length_drop]
    have hbd := firstS_bd u
    have nxt : ∀ (r : List UInt8) (n : Nat), stepS u = (r, n) → n ≤ u.length → 1 ≤ n → r.length ≤ 2000000 → ∃ m', m' < s.length - i ∧ Inv (fun a : Nat × List UInt8 => [.pv (.str s), .pv (.str a.2), .pv (.int .i64 a.1)]) (fun a _ => s.length - a.1) (fun a σ => σ = τ ∧ a.1 ≤ s.length ∧ a.2.length ≤ 2000000 * a.1 ∧ showS s = a.2 ++ showS (s.drop a.1)) m' [.pv (.str s), .pv (.str (out ++ r)), .pv (.int .i64 ((i + n : Nat)))] τ := by
      intro r n e h1 h2 h3
      refine back (i + n, out ++ r) rfl (by simp only; omega) ⟨rfl, by simp only; omega, by simp only [List.length_append]; omega, ?_⟩
      simp only
      rw [he, hst, e, List.append_assoc, ← List.drop_drop, hgu]
    have j15 : ∀ b : Bool, (b = true ↔ 1 < (firstS u).2 ∧ 160 ≤ (firstS u).1) → ¬ (at0 u 0 = 34 ∨ at0 u 0 = 92) → ¬ (32 ≤ at0 u 0 ∧ at0 u 0 ≤ 126) →
        J21_15 env (Inv (fun a : Nat × List UInt8 => [.pv (.str s), .pv (.str a.2), .pv (.int .i64 a.1)]) (fun a _ => s.length - a.1) (fun a σ => σ = τ ∧ a.1 ≤ s.length ∧ a.2.length ≤ 2000000 * a.1 ∧ showS s = a.2 ++ showS (s.drop a.1))) (s.length - i) (.pv (.str s)) (.pv (.str out)) (.pv (.int .i64 i)) (.pv (.int .u8 (u.getD 0 0).toNat)) (.pv (.int .i64 (firstS u).1)) (.pv (.int .i64 (firstS u).2)) (.pv (.bool b)) τ K X := by
      intro b hb h1 h2
      unfold J21_15
      simp only [go_sem]
      split
      · rename_i e
        have e' := hb.1 e
        have hxl := hexL_len (firstS u).1 []
        simp only [List.length_nil] at hxl
        rw [h42]
        refine ⟨by simp; omega, _, rfl, by omega, ?_⟩
        simp (disch := omega) only [go_sem]
        refine ⟨by simp; omega, by simp; omega, ?_⟩
        rw [List.append_assoc, List.append_assoc]
        exact nxt _ _ (by unfold stepS; rw [if_neg h1, if_neg h2, if_pos e']; simp [uPlus]) (by omega) (by omega) (by simp; omega)
      · rename_i e
        have e' : ¬ (1 < (firstS u).2 ∧ 160 ≤ (firstS u).1) := fun h => e (hb.2 h)
        rw [h43]
        refine ⟨_, rfl, ?_⟩
        simp (disch := omega) only [go_sem, octB_len]
        refine ⟨by omega, ?_⟩
        exact nxt _ _ (by unfold stepS; rw [if_neg h1, if_neg h2, if_neg e']) (by omega) (by omega) (by rw [octB_len]; omega)
    have j12 : ∀ b : Bool, (b = true ↔ 32 ≤ at0 u 0 ∧ at0 u 0 ≤ 126) → ¬ (at0 u 0 = 34 ∨ at0 u 0 = 92) →
        J21_12 env (Inv (fun a : Nat × List UInt8 => [.pv (.str s), .pv (.str a.2), .pv (.int .i64 a.1)]) (fun a _ => s.length - a.1) (fun a σ => σ = τ ∧ a.1 ≤ s.length ∧ a.2.length ≤ 2000000 * a.1 ∧ showS s = a.2 ++ showS (s.drop a.1))) (s.length - i) (.pv (.str s)) (.pv (.str out)) (.pv (.int .i64 i)) (.pv (.int .u8 (u.getD 0 0).toNat)) (.pv (.int .i64 (firstS u).1)) (.pv (.int .i64 (firstS u).2)) (.pv (.bool b)) τ K X := by
      intro b hb h1
      unfold J21_12
      simp only [go_sem]
      split
      · rename_i e
        have e' := hb.1 e
        simp (disch := omega) only [go_sem, sl9b]
        have hone : (s.take (i + 1)).drop i = [u.getD 0 0] := by
          rw [take_snocD hlt, List.drop_append_of_le_length (by rw [List.length_take]; omega), List.drop_eq_nil_of_le (by rw [List.length_take]; omega), hc]; rfl
        rw [hone]
        refine ⟨by simp; omega, ?_⟩
        exact nxt _ _ (by unfold stepS; rw [if_neg h1, if_pos e']) (by omega) (by omega) (by simp)
      · rename_i e
        have e' : ¬ (32 ≤ at0 u 0 ∧ at0 u 0 ≤ 126) := fun h => e (hb.2 h)
        split
        · exact j15 _ (dIff (by omega)) h1 e'
        · exact j15 false (fIff (by omega)) h1 e'
    have j9 : ∀ b : Bool, (b = true ↔ at0 u 0 = 34 ∨ at0 u 0 = 92) →
        J21_9 env (Inv (fun a : Nat × List UInt8 => [.pv (.str s), .pv (.str a.2), .pv (.int .i64 a.1)]) (fun a _ => s.length - a.1) (fun a σ => σ = τ ∧ a.1 ≤ s.length ∧ a.2.length ≤ 2000000 * a.1 ∧ showS s = a.2 ++ showS (s.drop a.1))) (s.length - i) (.pv (.str s)) (.pv (.str out)) (.pv (.int .i64 i)) (.pv (.int .u8 (u.getD 0 0).toNat)) (.pv (.int .i64 (firstS u).1)) (.pv (.int .i64 (firstS u).2)) (.pv (.bool b)) τ K X := by
      intro b hb
      unfold J21_9
      simp only [go_sem]
      split
      · rename_i e
        have e' := hb.1 e
        have e92 : (.pv (.int .u8 92) : AV) = .pv (.int .u8 ((92 : UInt8).toNat : Int)) := rfl
        rw [e92, two45, convF45 (n := 2) (l := [92, u.getD 0 0]) rfl]
        simp (disch := omega) only [go_sem]
        refine ⟨by simp; omega, ?_⟩
        exact nxt _ _ (by unfold stepS; rw [if_pos e']) (by omega) (by omega) (by simp)
      · rename_i e
        have e' : ¬ (at0 u 0 = 34 ∨ at0 u 0 = 92) := fun h => e (hb.2 h)
        split
        · exact j12 _ (dIff (by unfold at0; omega)) e'
        · exact j12 false (fIff (by unfold at0; omega)) e'
    split
    · exact j9 true (by simp; unfold at0 at *; simp_all)
    · exact j9 _ (by simp; unfold at0 at *; simp_all)
  · refine retV_self ?_
    rw [he, show i = s.length by omega, List.drop_length, showS_nil, List.append_nil] at h
    exact h
/-! ### the program's -/
theorem BS.frame {σ0 σ : AS} {id j : Nat} {l : List UInt8} (h : BS σ0 id l σ) {o o' : AObj} (hj : σ0 j = some o) : BS (σ0.set j o') id l (σ.set j o') := by
  obtain ⟨p, buf, h1, h2, h3⟩ := h.here
  have hji : id ≠ j := by intro e; subst e; rw [h.new] at hj; cases hj
  refine ⟨?_, by rw [set_ne _ _ hji]; exact h.new, p, buf, by rw [set_ne _ _ hji]; exact h1, h2, ?_⟩
  · intro i x hi
    by_cases e : i = j
    · subst e; rw [set_same] at hi ⊢; exact hi
    · rw [set_ne _ _ e] at hi ⊢; exact h.sub _ _ hi
  · rcases h3 with h3 | ⟨g, q1, q2, q3, q4, q5⟩
    · exact .inl h3
    · have hgj : g ≠ j := by intro e; subst e; rw [q4] at hj; cases hj
      exact .inr ⟨g, q1, q2, by rw [set_ne _ _ hgj]; exact q3, by rw [set_ne _ _ hgj]; exact q4, q5⟩
theorem BS.start {σ : AS} {id : Nat} (h : σ id = none) : BS σ id [] (σ.set id (.cells [.pv .nilPtr, .nilS] (some 49))) :=
  ⟨sub_set _ h, h, _, _, set_same _ _ _, .inl rfl, .inl ⟨rfl, rfl⟩⟩
/-- A builder's text. -/
theorem call40 {σ0 σ : AS} {id : Nat} {l : List UInt8} (h : BS σ0 id l σ) {K : AV → AS → Prop} {X : PV → AS → Prop} (hK : ∀ σ', σ0.sub σ' → K (.pv (.str l)) σ') : T40 [.addr id 0] σ K X := by
  obtain ⟨p, buf, h1, h2, h3⟩ := h.here
  refine ⟨id, p, buf, rfl, h1, ?_⟩
  rcases h3 with ⟨rfl, rfl⟩ | ⟨g, rfl, q2, q3, q4, q5⟩
  · exact .inl ⟨rfl, hK _ h.sub⟩
  · refine .inr ⟨g, l, rfl, q2, q3, hK _ ?_⟩
    intro j o hj
    have : j ≠ g := by intro e; subst e; rw [q4] at hj; cases hj
    rw [del_ne _ this]
    exact h.sub _ _ hj
theorem cv21 {σ : AS} {r : Nat} (h : r < 256) {K : AV → Prop} : convD PA σ 21 5 (.pv (.int .i32 r)) K = K (.pv (.int .u8 (UInt8.ofNat r).toNat)) := by
  rw [cvI (by rw [Try.underlying21]; rfl) Try.underlying5, wrapU8 (by omega) (by omega)]
  congr 3
  simp [Nat.mod_eq_of_lt h]
def T20 : Tr := fun args σ K _ => ∃ s : List UInt8, args = [.pv (.str s)] ∧ s.length ≤ 5000 ∧ ∀ σ', σ.sub σ' → K (.pv (.str (showS s))) σ'
theorem T20_ok {env : Env} (h34 : env 34 = T52) (h35 : env 35 = T35) (h36 : env 36 = T36) (h37 : env 37 = T37) (h38 : env 38 = T38) (h39 : env 39 = T39) (h40 : env 40 = T40) (args : List AV) (σ : AS) (K : AV → AS → Prop) (X : PV → AS → Prop) (h : T20 args σ K X) : bodyD PA env an20 Try.f20 args σ K X := by
  obtain ⟨s, rfl, hs, h⟩ := h
  rw [← S20_eq env, S20]
  refine alloc_of T.zo49 rfl ?_
  intro b hb
  simp only [rangeD, Try.underlying9, true_and]
  intro it hit
  have hbi : b ≠ it := by intro e; subst e; rw [set_same] at hit; cases hit
  rw [set_ne _ _ (Ne.symm hbi)] at hit
  have hB0 : BS (σ.set it (.strIter s 0)) b [] ((σ.set b (.cells [.pv .nilPtr, .nilS] (some 49))).set it (.strIter s 0)) := by
    have h1 := BS.start (σ := σ.set it (.strIter s 0)) (id := b) (by rw [set_ne _ _ hbi]; exact hb)
    have e : (σ.set b (.cells [.pv .nilPtr, .nilS] (some 49))).set it (.strIter s 0) = (σ.set it (.strIter s 0)).set b (.cells [.pv .nilPtr, .nilS] (some 49)) := by
      funext j
      simp only [AS.set]
      by_cases e1 : j = it
      · subst e1; simp [Ne.symm hbi]
      · simp [e1]
    rw [e]
    exact h1
  refine lp20_3 (fun (a : Nat × List UInt8) _ => s.length - a.1) (fun a τ => a.1 ≤ s.length ∧ a.2.length ≤ 2000000 * a.1 ∧ showS s = a.2 ++ showS (s.drop a.1) ∧ BS (σ.set it (.strIter s a.1)) b a.2 τ) (0, []) ⟨by simp, by simp, by simp, hB0⟩ ?_
  rintro ⟨i, out⟩ τ ⟨hi, hl, he, hB⟩
  simp only at hi hl he hB
  have hti : τ it = some (.strIter s i) := hB.sub _ _ (set_same _ _ _)
  unfold L20_3
  simp only [nextD, hti]
  split
  · rename_i hlt
    have hu : 0 < (s.drop i).length := by rw [List.length_drop]; omega
    have hc : s.getD i 0 = (s.drop i).getD 0 0 := by simp
    have hc1 : s.getD (i + 1) 0 = (s.drop i).getD 1 0 := by simp
    simp only [go_sem, List.getElem?_cons_zero, List.getElem?_cons_succ, if_true, decAt]
    generalize hgu : s.drop i = u at *
    have hul : u.length = s.length - i := by rw [← hgu, List.length_drop]
    have hbd := decS_bd u
    have hB' : BS (σ.set it (.strIter s (i + (decS u).2))) b out (τ.set it (.strIter s (i + (decS u).2))) := by
      have := hB.frame (j := it) (o := .strIter s i) (o' := .strIter s (i + (decS u).2)) (set_same _ _ _)
      rwa [set_set] at this
    generalize hgt : τ.set it (.strIter s (i + (decS u).2)) = τ2 at *
    generalize hgσ : σ.set it (.strIter s (i + (decS u).2)) = σ2 at *
    have nxt : ∀ (r : List UInt8) τ3, showS u = r ++ showS (u.drop (decS u).2) → BS σ2 b (out ++ r) τ3 → r.length ≤ 2000000 → ∃ m', m' < s.length - i ∧ Inv (fun a : Nat × List UInt8 => [.pv (.str s), .addr b 0, .iter it]) (fun a _ => s.length - a.1) (fun a τ => a.1 ≤ s.length ∧ a.2.length ≤ 2000000 * a.1 ∧ showS s = a.2 ++ showS (s.drop a.1) ∧ BS (σ.set it (.strIter s a.1)) b a.2 τ) m' [.pv (.str s), .addr b 0, .iter it] τ3 := by
      intro r τ3 h1 h2 h3
      refine back (i + (decS u).2, out ++ r) rfl (by simp only; omega) ⟨by simp only; omega, by simp only [List.length_append]; omega, ?_, ?_⟩
      · simp only
        rw [he, h1, List.append_assoc, ← List.drop_drop, hgu]
      · simp only
        rw [hgσ]; exact h2
    have hlen : out.length ≤ 10000000000 := by omega
    have wr : ∀ (c : UInt8) (Q : AV → AS → Prop) (X' : PV → AS → Prop) (out : List UInt8) τ3, BS σ2 b out τ3 → out.length ≤ 10000000001 → (∀ τ4, BS σ2 b (out ++ [c]) τ4 → Q (.pv .nilIface) τ4) → env 36 [.addr b 0, .pv (.int .u8 c.toNat)] τ3 Q X' := by
      intro c Q X' out τ3 h1 h2 h3
      rw [h36]
      exact ⟨b, c, rfl, σ2, out, h1, by simp; omega, h3⟩
    have wo : ∀ (c : UInt8) (Q : AV → AS → Prop) (X' : PV → AS → Prop) (out : List UInt8) τ3, BS σ2 b out τ3 → out.length ≤ 10000000009 → (∀ τ4, BS σ2 b (out ++ octB c) τ4 → Q (.tuple []) τ4) → env 35 [.addr b 0, .pv (.int .u8 c.toNat)] τ3 Q X' := by
      intro c Q X' out τ3 h1 h2 h3
      rw [h35]
      exact ⟨b, c, rfl, σ2, out, h1, by rw [octB_len]; omega, h3⟩
    have j17 : ∀ t : Bool, (t = true ↔ 32 ≤ (decS u).1 ∧ (decS u).1 ≤ 126) → ¬ ((decS u).1 = 34 ∨ (decS u).1 = 92) → ¬ ((decS u).1 = 65533 ∧ ¬ hasPre u fffd = true) →
        J20_17 env (Inv (fun a : Nat × List UInt8 => [.pv (.str s), .addr b 0, .iter it]) (fun a _ => s.length - a.1) (fun a τ => a.1 ≤ s.length ∧ a.2.length ≤ 2000000 * a.1 ∧ showS s = a.2 ++ showS (s.drop a.1) ∧ BS (σ.set it (.strIter s a.1)) b a.2 τ)) (s.length - i) (.pv (.str s)) (.addr b 0) (.pv (.int .i64 i)) (.pv (.int .i32 (decS u).1)) (.iter it) (.pv (.bool t)) τ2 K X := by
      intro t ht h1 h2
      unfold J20_17
      simp only [go_sem]
      split
      · rename_i e
        have e' := ht.1 e
        rw [cv21 (by omega)]
        refine wr _ _ _ out _ hB' (by omega) ?_
        intro τ4 hB4
        exact nxt _ _ (show_plain hu e'.1 e'.2 h1) hB4 (by simp)
      · rename_i e
        have e' : ¬ (32 ≤ (decS u).1 ∧ (decS u).1 ≤ 126) := fun h => e (ht.2 h)
        split
        · rename_i e2
          have hxl := hexL_len (decS u).1 []
          simp only [List.length_nil] at hxl
          rw [h38]
          refine ⟨_, rfl, by omega, ?_⟩
          simp only [go_sem]
          refine ⟨by simp; omega, by simp; omega, ?_⟩
          rw [h37]
          refine ⟨b, _, rfl, σ2, out, hB', by simp; omega, ?_⟩
          intro τ4 hB4
          exact nxt _ _ (show_num hu e2 h2) hB4 (by have := uPlus_len (decS u).1; omega)
        · rename_i e2
          have e2 : (decS u).1 < 160 := by omega
          rw [h39]
          refine ⟨_, rfl, e2, ?_⟩
          have hso := show_oct hu e2 h1 e'
          generalize hn : (if (decS u).1 < 128 then 1 else 2 : Nat) = n
          have hnw : n = (decS u).2 := by rcases hso with h | h <;> (rw [← hn]; split <;> omega)
          subst hnw
          refine lp20_7 (fun (k : Nat) _ => (decS u).2 - k) (fun k τ => k ≤ (decS u).2 ∧ BS σ2 b (out ++ (if k = 0 then [] else if k = 1 then octB (u.getD 0 0) else octB (u.getD 0 0) ++ octB (u.getD 1 0))) τ) (fun k => .pv (.int .i64 k)) 0 ⟨by omega, by simpa using hB'⟩ ?_
          rintro k τ3 ⟨hk, hB3⟩
          unfold L20_7
          simp (disch := omega) only [go_sem]
          split
          · rename_i hkn
            rw [ix9 (by omega)]
            have hk1 : k = 0 ∨ k = 1 := by omega
            rcases hk1 with rfl | rfl
            · simp only [Nat.add_zero, if_true, List.append_nil] at hB3 ⊢
              rw [hc]
              refine wo _ _ _ out _ hB3 (by omega) ?_
              intro τ4 hB4
              exact back 1 rfl (by omega) ⟨by omega, by simpa using hB4⟩
            · simp only [Nat.one_ne_zero, if_false, if_true] at hB3
              rw [hc1]
              refine wo _ _ _ _ _ hB3 (by simp [octB_len]; omega) ?_
              intro τ4 hB4
              exact back 2 rfl (by omega) ⟨by omega, by simpa using hB4⟩
          · have hk2 : k = (decS u).2 := by omega
            subst hk2
            refine nxt _ _ ?_ hB3 ?_
            · rcases hso with ⟨_, h3, h4⟩ | ⟨_, h3, _, h4⟩
              · rw [h3] at h4 ⊢; simpa using h4
              · rw [h3] at h4 ⊢; simpa using h4
            · repeat' split
              all_goals simp [octB_len]
    have j14 : ∀ t : Bool, (t = true ↔ (decS u).1 = 34 ∨ (decS u).1 = 92) → ¬ ((decS u).1 = 65533 ∧ ¬ hasPre u fffd = true) →
        J20_14 env (Inv (fun a : Nat × List UInt8 => [.pv (.str s), .addr b 0, .iter it]) (fun a _ => s.length - a.1) (fun a τ => a.1 ≤ s.length ∧ a.2.length ≤ 2000000 * a.1 ∧ showS s = a.2 ++ showS (s.drop a.1) ∧ BS (σ.set it (.strIter s a.1)) b a.2 τ)) (s.length - i) (.pv (.str s)) (.addr b 0) (.pv (.int .i64 i)) (.pv (.int .i32 (decS u).1)) (.iter it) (.pv (.bool t)) τ2 K X := by
      intro t ht h2
      unfold J20_14
      simp only [go_sem]
      split
      · rename_i e
        have e' := ht.1 e
        rw [show (.pv (.int .u8 92) : AV) = .pv (.int .u8 ((92 : UInt8).toNat : Int)) from rfl]
        refine wr _ _ _ out _ hB' (by omega) ?_
        intro τ4 hB4
        rw [cv21 (by omega)]
        refine wr _ _ _ _ _ hB4 (by simp; omega) ?_
        intro τ5 hB5
        rw [List.append_assoc] at hB5
        exact nxt _ _ (show_quote hu e') hB5 (by simp)
      · rename_i e
        have e' : ¬ ((decS u).1 = 34 ∨ (decS u).1 = 92) := fun h => e (ht.2 h)
        split
        · exact j17 _ (dIff (by omega)) e' h2
        · exact j17 false (fIff (by omega)) e' h2
    have j11 : ∀ t : Bool, (t = true ↔ (decS u).1 = 65533 ∧ ¬ hasPre u fffd = true) →
        J20_11 env (Inv (fun a : Nat × List UInt8 => [.pv (.str s), .addr b 0, .iter it]) (fun a _ => s.length - a.1) (fun a τ => a.1 ≤ s.length ∧ a.2.length ≤ 2000000 * a.1 ∧ showS s = a.2 ++ showS (s.drop a.1) ∧ BS (σ.set it (.strIter s a.1)) b a.2 τ)) (s.length - i) (.pv (.str s)) (.addr b 0) (.pv (.int .i64 i)) (.pv (.int .i32 (decS u).1)) (.pv (.bool t)) (.iter it) τ2 K X := by
      intro t ht
      unfold J20_11
      simp only [go_sem]
      split
      · rename_i e
        have e' := ht.1 e
        rw [ix9 hlt, hc]
        refine wo _ _ _ out _ hB' (by omega) ?_
        intro τ4 hB4
        exact nxt _ _ (show_wrong hu e'.1 e'.2) hB4 (by simp [octB_len])
      · rename_i e
        have e' : ¬ ((decS u).1 = 65533 ∧ ¬ hasPre u fffd = true) := fun h => e (ht.2 h)
        split
        · rename_i e3
          exact j14 true (tIff (.inl (by simpa using e3))) e'
        · rename_i e3
          exact j14 _ (eIff ⟨fun h => .inr h, fun h => h.resolve_left (by simpa using e3)⟩) e'
    split
    · rename_i e
      have e : (decS u).1 = 65533 := by simpa using e
      rw [sl9 (by omega), h34, hgu]
      refine ⟨_, _, rfl, ?_⟩
      simp only [go_sem]
      show J20_11 _ _ _ _ _ _ _ (.pv (.bool !hasPre u fffd)) _ _ _ _
      exact j11 _ ⟨fun h => ⟨e, by simpa using h⟩, fun h => by simpa using h.2⟩
    · rename_i e
      have e : ¬ (decS u).1 = 65533 := by simpa using e
      exact j11 false (fIff (fun h => e h.1))
  · rw [show i = s.length by omega, List.drop_length, showS_nil, List.append_nil] at he
    simp only [go_sem, List.getElem?_cons_zero, h40]
    rw [if_neg (by simp)]
    refine call40 hB ?_
    intro σ' hs'
    rw [he] at h
    refine retV_self (h _ ?_)
    exact AS.sub.trans (sub_set _ hit) hs'
end Go.AD
