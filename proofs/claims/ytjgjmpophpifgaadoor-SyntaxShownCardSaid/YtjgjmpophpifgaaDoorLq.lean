/- lex, plain laws: a quoted text; blanks and comments. -/
import Derived.Test.YtjgjmpophpifgaaDoorLj
set_option linter.unusedVariables false
set_option linter.unusedSimpArgs false
namespace Go.AD.Lx
def encB (c : UInt8) : Bytes := [92, 48 + c / 64, 48 + c / 8 % 8, 48 + c % 8]
def encS : Bytes → Bytes
  | [] => []
  | c :: s => encB c ++ encS s
def quoteS (s : Bytes) : Bytes := 34 :: (encS s ++ [34])
theorem encS_len (s : Bytes) : (encS s).length = 4 * s.length := by
  induction s with
  | nil => rfl
  | cons c s ih => simp [encS, encB, ih]; omega
theorem oct_enc (c : UInt8) : octalB (48 + c / 64) = true ∧ octalB (48 + c / 8 % 8) = true ∧ octalB (48 + c % 8) = true ∧ UInt8.ofNat (octVal [48 + c / 64, 48 + c / 8 % 8, 48 + c % 8] 0) = c :=
  allU8 (p := fun c => octalB (48 + c / 64) = true ∧ octalB (48 + c / 8 % 8) = true ∧ octalB (48 + c % 8) = true ∧ UInt8.ofNat (octVal [48 + c / 64, 48 + c / 8 % 8, 48 + c % 8] 0) = c) (by decide +kernel) c
theorem inText_enc (c : UInt8) (r : Bytes) : inTextS ([48 + c / 64, 48 + c / 8 % 8, 48 + c % 8] ++ r) = ([c], r) := by
  obtain ⟨h1, h2, h3, h4⟩ := oct_enc c
  have hs : min (spanL octalB ([48 + c / 64, 48 + c / 8 % 8, 48 + c % 8] ++ r)) 3 = 3 := by
    simp only [List.cons_append, List.nil_append, spanL, h1, h2, h3, if_true]
    omega
  unfold inTextS
  rw [hs, if_pos (by decide)]
  have e1 : ([48 + c / 64, 48 + c / 8 % 8, 48 + c % 8] ++ r).take 3 = [48 + c / 64, 48 + c / 8 % 8, 48 + c % 8] := by simp
  have e2 : ([48 + c / 64, 48 + c / 8 % 8, 48 + c % 8] ++ r).drop 3 = r := by simp
  rw [e1, e2, h4]
theorem quoted_enc : ∀ (s acc : Bytes) (f : Nat), (encS s).length + 1 < f → quotedS 34 inTextS f (encS s ++ [34]) acc = some (acc ++ s, [])
  | _, _, 0, h => absurd h (Nat.not_lt_zero _)
  | [], acc, f + 1, h => by
    rw [quotedS, if_neg (by simp [encS]), if_neg (by decide), if_pos (by decide)]
    simp [encS]
  | c :: s, acc, f + 1, h => by
    have e : encS (c :: s) ++ [34] = 92 :: ([48 + c / 64, 48 + c / 8 % 8, 48 + c % 8] ++ (encS s ++ [34])) := by simp [encS, encB]
    have hl : (encS (c :: s)).length = 4 + (encS s).length := by simp [encS, encB]; omega
    rw [e, quotedS, if_neg (by simp)]
    have e0 : (92 :: ([48 + c / 64, 48 + c / 8 % 8, 48 + c % 8] ++ (encS s ++ [34]))).getD 0 0 = 92 := rfl
    have e1 : (92 :: ([48 + c / 64, 48 + c / 8 % 8, 48 + c % 8] ++ (encS s ++ [34]))).drop 1 = [48 + c / 64, 48 + c / 8 % 8, 48 + c % 8] ++ (encS s ++ [34]) := rfl
    rw [e0, e1, if_neg (by decide), if_neg (by decide), if_neg (by decide), if_neg (by simp), inText_enc, quoted_enc s _ f (by omega)]
    simp
theorem number_zero {c : UInt8} {s : Bytes} (h1 : digitB c = false) (h2 : c.toNat ≠ 46) : numberL (c :: s) = 0 := by
  have e : spanL digitB (c :: s) = 0 := by rw [spanL, h1]; rfl
  unfold numberL
  rw [e]
  have : isAt (c :: s) 0 46 = false := by
    unfold isAt
    have : (c :: s).getD 0 0 = c := rfl
    rw [this, Bool.and_eq_false_iff]
    exact .inr (by simpa using h2)
  unfold fracL
  rw [this]
  rfl
theorem token_q1 {s : Bytes} {ts : List Tok} (h : (s.getD 0 0).toNat = 34) : tokenS s ts = quoteTok 34 inTextS kStr s ts := by
  cases s with
  | nil => simp at h
  | cons c s =>
    have h : c.toNat = 34 := h
    have e : (c :: s).getD 0 0 = c := rfl
    have hd : digitB c = false := by unfold digitB; rw [h]; rfl
    have hp : ¬ Lib.hasPrefix (c :: s) [92, 10] = true := by
      have : ((92 : UInt8) == c) = false := by
        simp only [beq_eq_false_iff_ne, ne_eq]
        intro e; rw [← e] at h; revert h; decide
      simp [Lib.hasPrefix, List.isPrefixOf, this]
    unfold tokenS
    rw [e, if_neg (by rw [h]; decide), if_neg hp, if_neg (by rw [h]; decide), if_neg (by rw [h]; decide), if_neg (by rw [number_zero hd (by rw [h]; decide)]; decide), if_pos h]
theorem token_q2 {s : Bytes} {ts : List Tok} (h : (s.getD 0 0).toNat = 47) (ho : operandS ts = false) : tokenS s ts = quoteTok 47 inEreS kEre s ts := by
  cases s with
  | nil => simp at h
  | cons c s =>
    have h : c.toNat = 47 := h
    have e : (c :: s).getD 0 0 = c := rfl
    have hd : digitB c = false := by unfold digitB; rw [h]; rfl
    have hp : ¬ Lib.hasPrefix (c :: s) [92, 10] = true := by
      have : ((92 : UInt8) == c) = false := by
        simp only [beq_eq_false_iff_ne, ne_eq]
        intro e; rw [← e] at h; revert h; decide
      simp [Lib.hasPrefix, List.isPrefixOf, this]
    unfold tokenS
    rw [e, if_neg (by rw [h]; decide), if_neg hp, if_neg (by rw [h]; decide), if_neg (by rw [h]; decide), if_neg (by rw [number_zero hd (by rw [h]; decide)]; decide), if_neg (by rw [h]; decide), if_pos ⟨h, ho⟩]
theorem lex_quote {s : Bytes} (h : s.length ≤ 3000) : lexS (quoteS s) = some [(kStr, s)] := by
  have hl : (quoteS s).length = 4 * s.length + 2 := by simp [quoteS, encS_len]
  have ht : tokenS (quoteS s) [] = some ([], [(kStr, s)]) := by
    rw [token_q1 (by rfl)]
    have e1 : (quoteS s).drop 1 = encS s ++ [34] := rfl
    unfold quoteTok
    rw [e1, quoted_enc s [] _ (by rw [encS_len]; omega)]
    rfl
  rw [lexS_U (f := (4 * s.length + 2) + 1 + 1) (by omega) (by omega), lexU, if_neg (by simp [quoteS]), ht]
  simp only
  rw [lexU, if_pos rfl]
/-! ### blanks, comments -/
theorem span_lt_app {p : UInt8 → Bool} {u : Bytes} : ∀ {s : Bytes}, spanL p s < s.length → spanL p (s ++ u) = spanL p s
  | [], h => by simp at h
  | c :: s, h => by
    rw [List.cons_append, spanL, spanL]
    by_cases hc : p c = true
    · rw [if_pos hc, if_pos hc]
      rw [spanL, if_pos hc, List.length_cons] at h
      rw [span_lt_app (s := s) (by omega)]
    · rw [if_neg hc, if_neg hc]
theorem span_all {p : UInt8 → Bool} : ∀ {s : Bytes}, (∀ c ∈ s, p c = true) → spanL p s = s.length
  | [], _ => rfl
  | c :: s, h => by rw [spanL, if_pos (h c (by simp)), span_all (fun d hd => h d (by simp [hd]))]; rfl
theorem span_full {p : UInt8 → Bool} : ∀ {s : Bytes}, spanL p s = s.length → ∀ c ∈ s, p c = true
  | [], _, c, hc => by cases hc
  | d :: s, h, c, hc => by
    rw [spanL] at h
    by_cases hd : p d = true
    · rw [if_pos hd, List.length_cons] at h
      rcases List.mem_cons.1 hc with rfl | hc
      · exact hd
      · exact span_full (by omega) c hc
    · rw [if_neg hd] at h; simp at h
theorem token_com {s : Bytes} {ts : List Tok} (h : (s.getD 0 0).toNat = 35) : tokenS s ts = some (s.drop (spanL lineB s), ts) := by
  cases s with
  | nil => simp at h
  | cons c s =>
    have h : c.toNat = 35 := h
    have e : (c :: s).getD 0 0 = c := rfl
    have hp : ¬ Lib.hasPrefix (c :: s) [92, 10] = true := by
      have : ((92 : UInt8) == c) = false := by
        simp only [beq_eq_false_iff_ne, ne_eq]
        intro e; rw [← e] at h; revert h; decide
      simp [Lib.hasPrefix, List.isPrefixOf, this]
    unfold tokenS
    rw [e, if_neg (by rw [h]; decide), if_neg hp, if_pos h]
theorem token_blank {c : UInt8} {s : Bytes} {ts : List Tok} (h : c.toNat = 32 ∨ c.toNat = 9) : tokenS (c :: s) ts = some (s, ts) := by
  have e : (c :: s).getD 0 0 = c := rfl
  unfold tokenS
  rw [e, if_pos h]; rfl
theorem token_cont {s : Bytes} {ts : List Tok} : tokenS (92 :: 10 :: s) ts = some (s, ts) := by
  have e : (92 :: 10 :: s).getD 0 0 = 92 := rfl
  unfold tokenS
  rw [e, if_neg (by decide), if_pos (by simp [Lib.hasPrefix, List.isPrefixOf])]; rfl
theorem lexU_nil {f : Nat} {ts : List Tok} (h : 0 < f) : lexU f [] ts = some ts := by
  obtain ⟨f, rfl⟩ : ∃ m, f = m + 1 := ⟨f - 1, by omega⟩
  rw [lexU, if_pos rfl]
theorem lexU_tail {c : Bytes} (hc : ∀ x ∈ c, lineB x = true) : ∀ (f g : Nat) (s : Bytes) (ts a : List Tok), NoTail s → lexU f s ts = some a → s.length + c.length + 4 < g → lexU g (s ++ 32 :: 35 :: c) ts = some a
  | 0, _, s, ts, a, _, h, _ => by cases h
  | _ + 1, 0, s, ts, a, _, _, h => absurd h (Nat.not_lt_zero _)
  | f + 1, g + 1, s, ts, a, hn, h, hg => by
    by_cases hs : s = []
    · subst hs
      rw [lexU, if_pos rfl] at h
      simp only [List.length_nil, Nat.zero_add] at hg
      obtain ⟨g, rfl⟩ : ∃ m, g = m + 1 := ⟨g - 1, by omega⟩
      have e35 : spanL lineB (35 :: c) = (35 :: c).length := span_all (fun x hx => by
        rcases List.mem_cons.1 hx with rfl | hx
        · rfl
        · exact hc x hx)
      rw [List.nil_append, lexU, if_neg (by simp), token_blank (.inl rfl)]
      simp only
      rw [lexU, if_neg (by simp), token_com (by rfl), e35, List.drop_length]
      simp only
      rw [lexU_nil (by omega)]
      exact h
    · rw [lexU, if_neg hs] at h
      rw [lexU, if_neg (by simp [hs])]
      by_cases hfull : (s.getD 0 0).toNat = 35 ∧ spanL lineB s = s.length
      · obtain ⟨h35, hf⟩ := hfull
        rw [token_com h35, hf, List.drop_length] at h
        have hall : spanL lineB (s ++ 32 :: 35 :: c) = (s ++ 32 :: 35 :: c).length := span_all (fun x hx => by
          rcases List.mem_append.1 hx with hx | hx
          · exact span_full hf x hx
          · rcases List.mem_cons.1 hx with rfl | hx
            · rfl
            · rcases List.mem_cons.1 hx with rfl | hx
              · rfl
              · exact hc x hx)
        rw [token_com (by rw [head_app hs]; exact h35), hall, List.drop_length]
        simp only at h ⊢
        cases f with
        | zero => cases h
        | succ f =>
          rw [lexU_nil (by omega)] at h ⊢
          exact h
      · cases ht : tokenS s ts with
        | none => rw [ht] at h; cases h
        | some v =>
          obtain ⟨s', ts'⟩ := v
          have := token_app (t := 35 :: c) stop32 hs hn (ts := ts) (fun h35 => span_lt_app (by
              have := span_le lineB s
              rcases Nat.lt_or_ge (spanL lineB s) s.length with h | h
              · exact h
              · exact absurd ⟨h35, by omega⟩ hfull))
            (fun h34 => quoteTok_some (fun r hr => inText_app stop32 hr) inText_len hs (by rw [← token_q1 h34]; exact ht))
            (fun h47 ho => quoteTok_some (fun r hr => inEre_app hr) (fun r _ => inEre_le r) hs (by rw [← token_q2 h47 ho]; exact ht))
          rw [this, ht]
          rw [ht] at h
          simp only [Option.map_some] at h ⊢
          have h1 := token_le hs ht
          exact lexU_tail hc f g s' ts' a (hn.suffix (token_suffix ht)) h (by omega)
theorem lex_blanks {s c : Bytes} {a : List Tok} (hn : NoTail s) (hs : s.length ≤ 2000) (hcl : c.length ≤ 200) (hc : ∀ x ∈ c, lineB x = true) (h : lexS s = some a) : lexS ([9, 32, 92, 10] ++ s ++ [32, 35] ++ c) = some a := by
  have e : [9, 32, 92, 10] ++ s ++ [32, 35] ++ c = 9 :: 32 :: 92 :: 10 :: (s ++ 32 :: 35 :: c) := by simp
  have hl : (s ++ 32 :: 35 :: c).length = s.length + (c.length + 2) := by simp
  rw [lexS_U (f := s.length + 1) (by omega) (by omega)] at h
  rw [e, lexS_U (f := (s.length + c.length + 10) + 1 + 1 + 1) (by simp only [List.length_cons]; omega) (by simp only [List.length_cons]; omega)]
  rw [lexU, if_neg (by simp), token_blank (.inr rfl)]
  simp only
  rw [lexU, if_neg (by simp), token_blank (.inl rfl)]
  simp only
  rw [lexU, if_neg (by simp), token_cont]
  exact lexU_tail hc _ _ _ _ _ hn h (by omega)
end Go.AD.Lx
