/- lex, plain laws: a program that goes on behind a byte that ends all things. -/
import Derived.Test.YtjgjmpophpifgaaDoorLp
set_option linter.unusedVariables false
set_option linter.unusedSimpArgs false
namespace Go.AD.Lx
/-- A byte at which all tokens end. -/
structure Stop (x : UInt8) : Prop where
  dig : digitB x = false
  oct : octalB x = false
  inn : innerB x = false
  dot : x.toNat ≠ 46
  plus : x.toNat ≠ 43
  minus : x.toNat ≠ 45
  exp : (x ||| 32).toNat ≠ 101
  par : x.toNat ≠ 40
  twos : ∀ c, listedS lTwos [c, x] = false
theorem stop10 : Stop 10 := ⟨by decide, by decide, by decide, by decide, by decide, by decide, by decide, by decide, allU8 (by decide +kernel)⟩
theorem stop32 : Stop 32 := ⟨by decide, by decide, by decide, by decide, by decide, by decide, by decide, by decide, allU8 (by decide +kernel)⟩
variable {x : UInt8} {s t : Bytes}
theorem span_app {p : UInt8 → Bool} (h : p x = false) : ∀ s : Bytes, spanL p (s ++ x :: t) = spanL p s
  | [] => by simp [spanL, h]
  | c :: s => by rw [List.cons_append, spanL, spanL, span_app h s]
theorem getD_app {u : Bytes} {n : Nat} (h : n < s.length) : (s ++ u).getD n 0 = s.getD n 0 := by
  simp [List.getD_eq_getElem?_getD, List.getElem?_append_left h]
theorem getD_at (s t : Bytes) (x : UInt8) : (s ++ x :: t).getD s.length 0 = x := by simp [List.getD_eq_getElem?_getD]
theorem drop_app {u : Bytes} {n : Nat} (h : n ≤ s.length) : (s ++ u).drop n = s.drop n ++ u := List.drop_append_of_le_length h
theorem take_app {u : Bytes} {n : Nat} (h : n ≤ s.length) : (s ++ u).take n = s.take n := List.take_append_of_le_length h
theorem isAt_app {n k : Nat} (hn : n ≤ s.length) (hk : x.toNat ≠ k) : isAt (s ++ x :: t) n k = isAt s n k := by
  rcases Nat.lt_or_ge n s.length with h | h
  · unfold isAt
    rw [getD_app h, decide_eq_true h, decide_eq_true (by rw [List.length_append]; omega)]
  · have : n = s.length := by omega
    subst this
    unfold isAt
    rw [getD_at, decide_eq_false (Nat.lt_irrefl _), Bool.false_and, Bool.and_eq_false_iff]
    exact .inr (by simpa using hk)
theorem expAt_app (hx : Stop x) {n : Nat} (h : n < s.length) : expAt (s ++ x :: t) n = expAt s n := by
  unfold expAt
  rw [isAt_app h hx.plus, isAt_app h hx.minus]
theorem expL_app (hx : Stop x) {n : Nat} (h : n ≤ s.length) : expL (s ++ x :: t) n = expL s n := by
  rcases Nat.lt_or_ge n s.length with h1 | h1
  · unfold expL
    rw [getD_app h1, decide_eq_true h1, decide_eq_true (by rw [List.length_append]; omega), expAt_app hx h1, drop_app (expAt_le h1), span_app hx.dig]
  · have : n = s.length := by omega
    subst this
    unfold expL
    rw [getD_at, decide_eq_false (Nat.lt_irrefl _), Bool.false_and, if_neg (by
      rw [Bool.and_eq_true, beq_iff_eq]
      exact fun h => hx.exp h.2)]
    rfl
theorem fracL_app (hx : Stop x) {n : Nat} (h : n ≤ s.length) : fracL (s ++ x :: t) n = fracL s n := by
  unfold fracL
  rw [isAt_app h hx.dot]
  by_cases h1 : isAt s n 46 = true
  · have := isAt_lt h1
    rw [if_pos h1, if_pos h1, drop_app this, span_app hx.dig]
  · rw [if_neg h1, if_neg h1]
theorem number_app (hx : Stop x) : numberL (s ++ x :: t) = numberL s := by
  have h1 := span_le digitB s
  unfold numberL
  rw [span_app hx.dig, fracL_app hx h1, expL_app hx (fracL_le h1)]
theorem head_app {u : Bytes} (hs : s ≠ []) : (s ++ u).getD 0 0 = s.getD 0 0 := getD_app (List.length_pos_iff.2 hs)
theorem drop1_app {u : Bytes} (hs : s ≠ []) : (s ++ u).drop 1 = s.drop 1 ++ u := drop_app (List.length_pos_iff.2 hs)
theorem inText_app (hx : Stop x) {r : Bytes} (hr : r ≠ []) : inTextS (r ++ x :: t) = ((inTextS r).1, (inTextS r).2 ++ x :: t) := by
  have h1 := span_le octalB r
  unfold inTextS
  rw [span_app hx.oct, head_app hr]
  by_cases h : 0 < min (spanL octalB r) 3
  · rw [if_pos h, if_pos h, take_app (by omega), drop_app (by omega)]
  · rw [if_neg h, if_neg h, drop1_app hr]
theorem inEre_app {u r : Bytes} (hr : r ≠ []) : inEreS (r ++ u) = ((inEreS r).1, (inEreS r).2 ++ u) := by
  unfold inEreS
  rw [head_app hr]
  by_cases h : (r.getD 0 0).toNat = 10
  · rw [if_pos h, if_pos h]
  · rw [if_neg h, if_neg h, drop1_app hr]
theorem quoted_some {q : UInt8} {e : Bytes → Bytes × Bytes} {u : Bytes} (he : ∀ r, r ≠ [] → e (r ++ u) = ((e r).1, (e r).2 ++ u)) (hl : ∀ r, r ≠ [] → (e r).2.length ≤ r.length) : ∀ (f g : Nat) (s acc : Bytes) (tx r : Bytes), quotedS q e f s acc = some (tx, r) → (s ++ u).length < g → quotedS q e g (s ++ u) acc = some (tx, r ++ u)
  | 0, _, s, acc, tx, r, h, _ => by cases h
  | _ + 1, 0, s, acc, tx, r, _, h => absurd h (Nat.not_lt_zero _)
  | f + 1, g + 1, s, acc, tx, r, h, hg => by
    rw [quotedS] at h
    split at h
    · cases h
    rename_i hs
    have hp : 0 < s.length := List.length_pos_iff.2 hs
    rw [List.length_append] at hg
    rw [quotedS, if_neg (by simp [hs]), head_app hs]
    split at h
    · cases h
    rename_i h1
    rw [if_neg h1]
    split at h
    · rename_i h2
      rw [if_pos h2, drop1_app hs]
      simp only [Option.some.injEq, Prod.mk.injEq] at h
      rw [h.1, h.2]
    rename_i h2
    rw [if_neg h2, drop1_app hs]
    have hd : (s.drop 1).length = s.length - 1 := by rw [List.length_drop]
    split at h
    · rename_i h3
      rw [if_pos h3]
      exact quoted_some he hl f g _ _ _ _ h (by rw [List.length_append]; omega)
    rename_i h3
    rw [if_neg h3]
    split at h
    · cases h
    rename_i h4
    have := hl _ h4
    rw [if_neg (fun e => h4 (List.append_eq_nil_iff.1 e).1), he _ h4]
    exact quoted_some he hl f g _ _ _ _ h (by rw [List.length_append]; omega)
def NoTail (s : Bytes) : Prop := s.getLast? ≠ some 92
theorem NoTail.suffix {r : Bytes} (h : NoTail s) (hr : r <:+ s) : NoTail r := by
  obtain ⟨p, rfl⟩ := hr
  unfold NoTail at *
  rw [List.getLast?_append] at h
  intro e
  rw [e] at h
  exact h rfl
theorem quoted_none {q : UInt8} (hq : q ≠ 10) {e : Bytes → Bytes × Bytes} (he : ∀ r, r ≠ [] → e (r ++ 10 :: t) = ((e r).1, (e r).2 ++ 10 :: t)) (hl : ∀ r, r ≠ [] → (e r).2.length ≤ r.length) (hsx : ∀ r, r ≠ [] → (e r).2 <:+ r) : ∀ (f g : Nat) (s acc : Bytes), quotedS q e f s acc = none → s.length < f → NoTail s → (s ++ 10 :: t).length < g → quotedS q e g (s ++ 10 :: t) acc = none
  | 0, _, s, acc, _, hf, _, _ => absurd hf (Nat.not_lt_zero _)
  | _ + 1, 0, s, acc, _, _, _, h => absurd h (Nat.not_lt_zero _)
  | f + 1, g + 1, s, acc, h, hf, hn, hg => by
    rw [List.length_append] at hg
    by_cases hs : s = []
    · subst hs
      rw [quotedS, if_neg (by simp), if_pos (by rfl)]
    have hp : 0 < s.length := List.length_pos_iff.2 hs
    have hd : (s.drop 1).length = s.length - 1 := by rw [List.length_drop]
    have hn1 : NoTail (s.drop 1) := hn.suffix (List.drop_suffix 1 s)
    rw [quotedS, if_neg hs] at h
    rw [quotedS, if_neg (by simp [hs]), head_app hs, drop1_app hs]
    by_cases h1 : (s.getD 0 0).toNat = 10
    · rw [if_pos h1]
    rw [if_neg h1] at h ⊢
    by_cases h2 : s.getD 0 0 = q
    · rw [if_pos h2] at h; cases h
    rw [if_neg h2] at h ⊢
    by_cases h3 : (s.getD 0 0).toNat ≠ 92
    · rw [if_pos h3] at h ⊢
      exact quoted_none hq he hl hsx f g _ _ h (by omega) hn1 (by rw [List.length_append]; omega)
    rw [if_neg h3] at h ⊢
    by_cases h4 : s.drop 1 = []
    · exfalso
      cases s with
      | nil => exact hs rfl
      | cons c s =>
        simp only [List.drop_succ_cons, List.drop_zero] at h4
        subst h4
        apply hn
        have : c.toNat = 92 := by simpa using h3
        have : c = 92 := UInt8.toNat_inj.1 this
        rw [this]; rfl
    rw [if_neg h4] at h
    have := hl _ h4
    rw [if_neg (fun e => h4 (List.append_eq_nil_iff.1 e).1), he _ h4]
    exact quoted_none hq he hl hsx f g _ _ h (by omega) (hn1.suffix (hsx _ h4)) (by rw [List.length_append]; omega)
theorem inText_suffix (r : Bytes) : (inTextS r).2 <:+ r := by
  unfold inTextS
  split
  · exact List.drop_suffix _ _
  · exact List.drop_suffix _ _
theorem inEre_suffix (r : Bytes) : (inEreS r).2 <:+ r := by
  unfold inEreS
  split
  · exact List.suffix_refl _
  · exact List.drop_suffix _ _
theorem prefix_app (hn : NoTail s) (hs : s ≠ []) (u : Bytes) : Lib.hasPrefix (s ++ u) [92, 10] = Lib.hasPrefix s [92, 10] := by
  cases s with
  | nil => exact absurd rfl hs
  | cons c s =>
    cases s with
    | nil =>
      have hc : c ≠ 92 := fun e => hn (by rw [e]; rfl)
      have hb : ((92 : UInt8) == c) = false := by simpa using Ne.symm hc
      simp [Lib.hasPrefix, List.isPrefixOf, hb]
    | cons d s => simp [Lib.hasPrefix, List.isPrefixOf]
/-- What stands behind a stop is what is left. -/
abbrev More (u : Bytes) : Option (Bytes × List Tok) → Option (Bytes × List Tok) := Option.map fun p => (p.1 ++ u, p.2)
theorem name_app (hx : Stop x) {ts : List Tok} : nameS (s ++ x :: t) ts = More (x :: t) (nameS s ts) := by
  have h1 := span_le innerB s
  unfold nameS
  rw [span_app hx.inn, take_app h1, drop_app h1]
  by_cases hb : listedS lBarred (s.take (spanL innerB s)) = true
  · rw [if_pos hb, if_pos hb]; rfl
  · rw [if_neg hb, if_neg hb]
    have hp : Lib.hasPrefix (s.drop (spanL innerB s) ++ x :: t) [40] = Lib.hasPrefix (s.drop (spanL innerB s)) [40] := by
      cases s.drop (spanL innerB s) with
      | nil =>
        have : ((40 : UInt8) == x) = false := by
          have := hx.par
          simp only [beq_eq_false_iff_ne, ne_eq]
          intro e; apply this; rw [← e]; rfl
        simp [Lib.hasPrefix, List.isPrefixOf, this]
      | cons c r => simp [Lib.hasPrefix, List.isPrefixOf]
    rw [hp]; rfl
theorem op_app (hx : Stop x) (hs : s ≠ []) {ts : List Tok} : opTok (s ++ x :: t) ts = More (x :: t) (opTok s ts) := by
  have hp : 0 < s.length := List.length_pos_iff.2 hs
  have h2 : (decide (1 < (s ++ x :: t).length) && listedS lTwos ((s ++ x :: t).take 2)) = (decide (1 < s.length) && listedS lTwos (s.take 2)) := by
    rcases Nat.lt_or_ge 1 s.length with h | h
    · rw [take_app h, decide_eq_true h, decide_eq_true (by rw [List.length_append]; omega)]
    · have hl : s.length = 1 := by omega
      match s, hl with
      | [c], _ =>
        have : ([c] ++ x :: t).take 2 = [c, x] := by simp
        rw [this, hx.twos c, Bool.and_false]
        rfl
  unfold opTok
  rw [h2, head_app hs, drop1_app hs, take_app hp]
  split
  · rename_i h
    rw [Bool.and_eq_true] at h
    have hl : 2 ≤ s.length := of_decide_eq_true h.1
    rw [drop_app hl, take_app hl]; rfl
  · split <;> rfl
theorem token_app (hx : Stop x) (hs : s ≠ []) (hn : NoTail s) {ts : List Tok}
    (hcom : (s.getD 0 0).toNat = 35 → spanL lineB (s ++ x :: t) = spanL lineB s)
    (hq1 : (s.getD 0 0).toNat = 34 → quoteTok 34 inTextS kStr (s ++ x :: t) ts = More (x :: t) (quoteTok 34 inTextS kStr s ts))
    (hq2 : (s.getD 0 0).toNat = 47 → operandS ts = false → quoteTok 47 inEreS kEre (s ++ x :: t) ts = More (x :: t) (quoteTok 47 inEreS kEre s ts)) :
    tokenS (s ++ x :: t) ts = More (x :: t) (tokenS s ts) := by
  have hnb := number_le s
  unfold tokenS
  rw [head_app hs, prefix_app hn hs, number_app hx, drop1_app hs, name_app hx, op_app hx hs]
  generalize hc : (s.getD 0 0) = c at *
  by_cases h1 : c.toNat = 32 ∨ c.toNat = 9
  · rw [if_pos h1, if_pos h1]; rfl
  rw [if_neg h1, if_neg h1]
  by_cases h2 : Lib.hasPrefix s [92, 10] = true
  · rw [if_pos h2, if_pos h2]
    have hl : 2 ≤ s.length := by
      unfold Lib.hasPrefix at h2
      simpa using (List.isPrefixOf_iff_prefix.1 h2).length_le
    rw [drop_app hl]; rfl
  rw [if_neg h2, if_neg h2]
  by_cases h3 : c.toNat = 35
  · rw [if_pos h3, if_pos h3, hcom h3, drop_app (span_le _ _)]; rfl
  rw [if_neg h3, if_neg h3]
  by_cases h4 : c.toNat = 10
  · rw [if_pos h4, if_pos h4]; rfl
  rw [if_neg h4, if_neg h4]
  by_cases h5 : 0 < numberL s
  · rw [if_pos h5, if_pos h5, drop_app hnb, take_app hnb]; rfl
  rw [if_neg h5, if_neg h5]
  by_cases h6 : c.toNat = 34
  · rw [if_pos h6, if_pos h6, hq1 h6]
  rw [if_neg h6, if_neg h6]
  by_cases h7 : c.toNat = 47 ∧ operandS ts = false
  · rw [if_pos h7, if_pos h7, hq2 h7.1 h7.2]
  rw [if_neg h7, if_neg h7]
  by_cases h8 : letterB c = true
  · rw [if_pos h8, if_pos h8]
  · rw [if_neg h8, if_neg h8]
theorem quoteTok_some {q : UInt8} {e : Bytes → Bytes × Bytes} {u : Bytes} (he : ∀ r, r ≠ [] → e (r ++ u) = ((e r).1, (e r).2 ++ u)) (hl : ∀ r, r ≠ [] → (e r).2.length ≤ r.length) (hs : s ≠ []) {k : Bytes} {ts : List Tok} {v : Bytes × List Tok} (h : quoteTok q e k s ts = some v) : quoteTok q e k (s ++ u) ts = More u (quoteTok q e k s ts) := by
  unfold quoteTok at h ⊢
  have hd : (s.drop 1).length = s.length - 1 := by rw [List.length_drop]
  have hp : 0 < s.length := List.length_pos_iff.2 hs
  cases hq : quotedS q e (s.length + 1) (s.drop 1) [] with
  | none => rw [hq] at h; cases h
  | some z =>
    obtain ⟨tx, r⟩ := z
    rw [drop1_app hs, quoted_some he hl _ ((s ++ u).length + 1) _ _ _ _ hq (by rw [List.length_append, List.length_append]; omega)]
    rfl
theorem quoteTok_ten {q : UInt8} (hq0 : q ≠ 10) {e : Bytes → Bytes × Bytes} (he : ∀ r, r ≠ [] → e (r ++ 10 :: t) = ((e r).1, (e r).2 ++ 10 :: t)) (hl : ∀ r, r ≠ [] → (e r).2.length ≤ r.length) (hsx : ∀ r, r ≠ [] → (e r).2 <:+ r) (hs : s ≠ []) (hn : NoTail s) {k : Bytes} {ts : List Tok} : quoteTok q e k (s ++ 10 :: t) ts = More (10 :: t) (quoteTok q e k s ts) := by
  cases h : quoteTok q e k s ts with
  | some v => rw [← h]; exact quoteTok_some he hl hs h
  | none =>
    have hd : (s.drop 1).length = s.length - 1 := by rw [List.length_drop]
    have hp : 0 < s.length := List.length_pos_iff.2 hs
    unfold quoteTok at h ⊢
    cases hq : quotedS q e (s.length + 1) (s.drop 1) [] with
    | some z => rw [hq] at h; cases h
    | none =>
      rw [drop1_app hs, quoted_none hq0 he hl hsx _ ((s ++ 10 :: t).length + 1) _ _ hq (by omega) (hn.suffix (List.drop_suffix 1 s)) (by rw [List.length_append, List.length_append]; omega)]
      rfl
theorem inText_len (r : Bytes) (hr : r ≠ []) : (inTextS r).2.length ≤ r.length := Nat.le_of_lt (inText_le r hr)
theorem token_ten (hs : s ≠ []) (hn : NoTail s) (ts : List Tok) : tokenS (s ++ 10 :: t) ts = More (10 :: t) (tokenS s ts) :=
  token_app stop10 hs hn (fun _ => span_app (by decide) s) (fun _ => quoteTok_ten (by decide) (fun r hr => inText_app stop10 hr) inText_len (fun r _ => inText_suffix r) hs hn)
    (fun _ _ => quoteTok_ten (by decide) (fun r hr => inEre_app hr) (fun r _ => inEre_le r) (fun r _ => inEre_suffix r) hs hn)
/-! ### the whole, without a bound -/
def lexU : Nat → Bytes → List Tok → Option (List Tok)
  | 0, _, _ => none
  | f + 1, s, ts => if s = [] then some ts else match tokenS s ts with
    | none => none
    | some (s', ts') => lexU f s' ts'
theorem lexL_U : ∀ (f : Nat) (s : Bytes) (ts : List Tok), ts.length + s.length ≤ 20000 → lexL f s ts = lexU f s ts
  | 0, _, _, _ => rfl
  | f + 1, s, ts, h => by
    rw [lexL, lexU]
    by_cases hs : s = []
    · rw [if_pos hs, if_pos hs]
    rw [if_neg hs, if_neg hs]
    cases ht : tokenS s ts with
    | none => rfl
    | some v =>
      obtain ⟨s', ts'⟩ := v
      obtain ⟨h1, h2⟩ := token_le hs ht
      simp only
      rw [if_pos (by omega), lexL_U f s' ts' (by omega)]
theorem lexU_fuel : ∀ (f g : Nat) (s : Bytes) (ts : List Tok), s.length < f → s.length < g → lexU f s ts = lexU g s ts
  | 0, _, s, _, h, _ => absurd h (Nat.not_lt_zero _)
  | _ + 1, 0, s, _, _, h => absurd h (Nat.not_lt_zero _)
  | f + 1, g + 1, s, ts, h1, h2 => by
    rw [lexU, lexU]
    by_cases hs : s = []
    · rw [if_pos hs, if_pos hs]
    rw [if_neg hs, if_neg hs]
    cases ht : tokenS s ts with
    | none => rfl
    | some v =>
      obtain ⟨s', ts'⟩ := v
      obtain ⟨h3, h4⟩ := token_le hs ht
      exact lexU_fuel f g s' ts' (by omega) (by omega)
theorem lexS_U {s : Bytes} (h : s.length ≤ 20000) {f : Nat} (hf : s.length < f) : lexS s = lexU f s [] := by
  rw [lexS, if_pos (by omega), lexL_U _ _ _ (by simpa using h)]
  exact lexU_fuel _ _ _ _ (Nat.lt_succ_self _) hf
/-- What was left is a part of what was there. -/
theorem quoted_suffix {q : UInt8} {e : Bytes → Bytes × Bytes} (hsx : ∀ r, (e r).2 <:+ r) : ∀ (f : Nat) (s acc tx r : Bytes), quotedS q e f s acc = some (tx, r) → r <:+ s
  | 0, _, _, _, _, h => by cases h
  | f + 1, s, acc, tx, r, h => by
    rw [quotedS] at h
    split at h
    · cases h
    split at h
    · cases h
    split at h
    · simp only [Option.some.injEq, Prod.mk.injEq] at h
      rw [← h.2]; exact List.drop_suffix _ _
    split at h
    · exact (quoted_suffix hsx f _ _ _ _ h).trans (List.drop_suffix _ _)
    split at h
    · cases h
    · exact ((quoted_suffix hsx f _ _ _ _ h).trans (hsx _)).trans (List.drop_suffix _ _)
theorem token_suffix {ts : List Tok} {r : Bytes} {ts' : List Tok} (h : tokenS s ts = some (r, ts')) : r <:+ s := by
  have qt : ∀ q e k, (∀ r, (e r).2 <:+ r) → quoteTok q e k s ts = some (r, ts') → r <:+ s := by
    intro q e k he h
    unfold quoteTok at h
    split at h
    · cases h
    · rename_i tx r' hq
      simp only [Option.some.injEq, Prod.mk.injEq] at h
      rw [← h.1]
      exact (quoted_suffix he _ _ _ _ _ hq).trans (List.drop_suffix _ _)
  have ds : ∀ {n : Nat} {z : List Tok}, some (s.drop n, z) = some (r, ts') → r <:+ s := by
    intro n z h
    simp only [Option.some.injEq, Prod.mk.injEq] at h
    rw [← h.1]; exact List.drop_suffix _ _
  unfold tokenS at h
  split at h
  · exact ds h
  split at h
  · exact ds h
  split at h
  · exact ds h
  split at h
  · exact ds h
  split at h
  · exact ds h
  split at h
  · exact qt _ _ _ inText_suffix h
  split at h
  · exact qt _ _ _ inEre_suffix h
  split at h
  · unfold nameS at h
    split at h
    · cases h
    · exact ds h
  · unfold opTok at h
    split at h
    · exact ds h
    · split at h
      · exact ds h
      · cases h
/-- Tokens ahead play a part by the last one alone. -/
theorem token_ahead (ps ts : List Tok) (h : operandS (ps ++ ts) = operandS ts) : tokenS s (ps ++ ts) = (tokenS s ts).map fun p => (p.1, ps ++ p.2) := by
  have q : ∀ q e k, quoteTok q e k s (ps ++ ts) = (quoteTok q e k s ts).map fun p => (p.1, ps ++ p.2) := by
    intro q e k
    unfold quoteTok
    cases quotedS q e (s.length + 1) (s.drop 1) [] with
    | none => rfl
    | some v => simp
  unfold tokenS
  rw [h, q, q]
  split
  · rfl
  split
  · rfl
  split
  · rfl
  split
  · simp
  split
  · simp
  split
  · rfl
  split
  · rfl
  split
  · unfold nameS; split <;> simp
  · unfold opTok
    split
    · simp
    · split <;> simp
theorem token_grow {ts : List Tok} {r : Bytes} {ts' : List Tok} (h : tokenS s ts = some (r, ts')) : ts' = ts ∨ ∃ k, ts' = ts ++ [k] := by
  have fin : ∀ {a : Bytes} {z : List Tok}, some (a, z) = some (r, ts') → (z = ts ∨ ∃ k, z = ts ++ [k]) → ts' = ts ∨ ∃ k, ts' = ts ++ [k] := by
    intro a z h h2
    simp only [Option.some.injEq, Prod.mk.injEq] at h
    rw [← h.2]; exact h2
  have q : ∀ q e k, quoteTok q e k s ts = some (r, ts') → ts' = ts ∨ ∃ k, ts' = ts ++ [k] := by
    intro q e k h
    unfold quoteTok at h
    split at h
    · cases h
    · exact fin h (.inr ⟨_, rfl⟩)
  unfold tokenS at h
  split at h
  · exact fin h (.inl rfl)
  split at h
  · exact fin h (.inl rfl)
  split at h
  · exact fin h (.inl rfl)
  split at h
  · exact fin h (.inr ⟨_, rfl⟩)
  split at h
  · exact fin h (.inr ⟨_, rfl⟩)
  split at h
  · exact q _ _ _ h
  split at h
  · exact q _ _ _ h
  split at h
  · unfold nameS at h
    split at h
    · cases h
    · exact fin h (.inr ⟨_, rfl⟩)
  · unfold opTok at h
    split at h
    · exact fin h (.inr ⟨_, rfl⟩)
    · split at h
      · exact fin h (.inr ⟨_, rfl⟩)
      · cases h
theorem operand_last (ps ts : List Tok) (k : Tok) : operandS (ps ++ (ts ++ [k])) = operandS (ts ++ [k]) := by
  unfold operandS
  rw [← List.append_assoc, List.getLast?_concat, List.getLast?_concat]
theorem lexU_ahead : ∀ (f : Nat) (s : Bytes) (ps ts : List Tok), operandS (ps ++ ts) = operandS ts → lexU f s (ps ++ ts) = (lexU f s ts).map (ps ++ ·)
  | 0, _, _, _, _ => rfl
  | f + 1, s, ps, ts, h => by
    rw [lexU, lexU, token_ahead ps ts h]
    by_cases hs : s = []
    · rw [if_pos hs, if_pos hs]; rfl
    rw [if_neg hs, if_neg hs]
    cases ht : tokenS s ts with
    | none => rfl
    | some v =>
      obtain ⟨s', ts'⟩ := v
      simp only [Option.map_some]
      refine lexU_ahead f s' ps ts' ?_
      rcases token_grow ht with rfl | ⟨k, rfl⟩
      · exact h
      · exact operand_last ps ts k
/-! ### joins -/
theorem lexU_join : ∀ (f : Nat) (s : Bytes) (ts : List Tok), NoTail s → s.length + t.length + 1 < f → lexU f (s ++ 10 :: t) ts = match lexU f s ts with
    | none => none
    | some a => (lexU f t []).map ((a ++ [(kNl, [])]) ++ ·)
  | 0, s, ts, _, h => absurd h (Nat.not_lt_zero _)
  | f + 1, s, ts, hn, h => by
    by_cases hs : s = []
    · subst hs
      have e1 : lexU (f + 1) [] ts = some ts := by rw [lexU, if_pos rfl]
      have e2 : tokenS (10 :: t) ts = some (t, ts ++ [(kNl, [])]) := by
        unfold tokenS
        have e0 : (10 :: t).getD 0 0 = 10 := rfl
        rw [e0, if_neg (by decide), if_neg (by simp [Lib.hasPrefix, List.isPrefixOf]), if_neg (by decide), if_pos (by decide)]
        rfl
      rw [e1, List.nil_append, lexU, if_neg (by simp), e2]
      simp only [List.length_nil] at h
      have := lexU_ahead f t (ts ++ [(kNl, [])]) [] (by
        rw [List.append_nil]
        unfold operandS
        rw [List.getLast?_concat]
        rfl)
      rw [List.append_nil] at this
      simp only
      rw [this, lexU_fuel f (f + 1) t [] (by omega) (by omega)]
    · rw [lexU, if_neg (by simp [hs]), token_ten hs hn, lexU, if_neg hs]
      cases ht : tokenS s ts with
      | none => rfl
      | some v =>
        obtain ⟨s', ts'⟩ := v
        have h1 := token_le hs ht
        simp only [Option.map_some]
        rw [lexU_join f s' ts' (hn.suffix (token_suffix ht)) (by omega)]
        rw [lexU_fuel f (f + 1) t [] (by omega) (by omega)]
theorem lex_join (hn : NoTail s) (hs : s.length ≤ 2000) (ht : t.length ≤ 2000) : lexS (s ++ 10 :: t) = match lexS s with
    | none => none
    | some a => (lexS t).map ((a ++ [(kNl, [])]) ++ ·) := by
  have hl : (s ++ 10 :: t).length = s.length + (t.length + 1) := by simp
  rw [lexS_U (f := s.length + t.length + 2) (by omega) (by omega), lexU_join _ _ _ hn (by omega), lexS_U (s := s) (f := s.length + t.length + 2) (by omega) (by omega), lexS_U (s := t) (f := s.length + t.length + 2) (by omega) (by omega)]
end Go.AD.Lx
