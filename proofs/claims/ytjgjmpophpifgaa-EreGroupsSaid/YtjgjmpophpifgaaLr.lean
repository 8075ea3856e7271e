/- lex, plain laws: lists of words; the document's way of telling numbers, words and signs is the program's. -/
import Derived.Test.YtjgjmpophpifgaaLq
set_option linter.unusedVariables false
set_option linter.unusedSimpArgs false
namespace Go.AD.Lx
/-! ### words in a text with blanks about them -/
theorem contains_cons (b : UInt8) (l sub : Bytes) : Lib.contains (b :: l) sub = (sub.isPrefixOf (b :: l) || Lib.contains l sub) := by
  unfold Lib.contains
  rw [Lib.index]
  by_cases h : sub.isPrefixOf (b :: l) = true
  · rw [if_pos h, h]; rfl
  · rw [if_neg h, Bool.eq_false_iff.2 h, Bool.false_or]
    have := Lib.index_ge l sub
    by_cases h2 : (Lib.index l sub == -1) = true
    · rw [if_pos h2]
      have : Lib.index l sub = -1 := by simpa using h2
      rw [this]
    · rw [if_neg h2]
      have h3 : Lib.index l sub ≠ -1 := by simpa using h2
      rw [decide_eq_decide]; omega
theorem contains_skip {p v : Bytes} : ∀ {u : Bytes}, (∀ c ∈ u, c ≠ 32) → Lib.contains (u ++ v) (32 :: p) = Lib.contains v (32 :: p)
  | [], _ => rfl
  | c :: u, h => by
    have hc : ((32 : UInt8) == c) = false := by simpa using Ne.symm (h c (by simp))
    rw [List.cons_append, contains_cons, List.isPrefixOf, hc, Bool.false_and, Bool.false_or, contains_skip (fun d hd => h d (by simp [hd]))]
def joinW : List Bytes → Bytes
  | [] => []
  | w :: ws => w ++ 32 :: joinW ws
theorem prefix_word : ∀ {w u t : Bytes}, (∀ c ∈ w, c ≠ 32) → (∀ c ∈ u, c ≠ 32) → (w ++ [32]).isPrefixOf (u ++ 32 :: t) = decide (w = u)
  | [], [], t, _, _ => by simp [List.isPrefixOf]
  | [], c :: u, t, _, h => by
    have hc : ((32 : UInt8) == c) = false := by simpa using Ne.symm (h c (by simp))
    simp [List.isPrefixOf, hc]
  | c :: w, [], t, h, _ => by
    have hc : (c == (32 : UInt8)) = false := by simpa using h c (by simp)
    simp [List.isPrefixOf, hc]
  | c :: w, d :: u, t, h1, h2 => by
    have ih := prefix_word (w := w) (u := u) (t := t) (fun x hx => h1 x (by simp [hx])) (fun x hx => h2 x (by simp [hx]))
    simp only [List.cons_append, List.isPrefixOf, ih]
    rw [Bool.eq_iff_iff]
    simp
theorem contains_words {w : Bytes} (hw : ∀ c ∈ w, c ≠ 32) : ∀ {ws : List Bytes}, (∀ u ∈ ws, ∀ c ∈ u, c ≠ 32) → Lib.contains (32 :: joinW ws) ([32] ++ w ++ [32]) = decide (w ∈ ws)
  | [], _ => by
    have e : ([32] ++ w ++ [32] : Bytes) = 32 :: (w ++ [32]) := by simp
    rw [e, contains_cons]
    cases w with
    | nil => simp [joinW, List.isPrefixOf, Lib.contains, Lib.index]
    | cons c w => simp [joinW, List.isPrefixOf, Lib.contains, Lib.index]
  | u :: ws, h => by
    have hu := h u (by simp)
    have ih := contains_words hw (ws := ws) (fun x hx => h x (by simp [hx]))
    have e : ([32] ++ w ++ [32] : Bytes) = 32 :: (w ++ [32]) := by simp
    rw [e] at ih ⊢
    have hp := prefix_word (t := joinW ws) hw hu
    rw [joinW, contains_cons, List.isPrefixOf, hp, contains_skip hu, ih, Bool.eq_iff_iff]
    simp
def wBarred : List Bytes := [[103, 101, 116, 108, 105, 110, 101], [115, 121, 115, 116, 101, 109], [99, 108, 111, 115, 101], [102, 102, 108, 117, 115, 104], [110, 101, 120, 116, 102, 105, 108, 101], [114, 97, 110, 100], [115, 114, 97, 110, 100], [115, 105, 110], [99, 111, 115], [97, 116, 97, 110, 50], [101, 120, 112], [108, 111, 103], [115, 113, 114, 116], [102, 117, 110, 99], [69, 78, 86, 73, 82, 79, 78], [65, 82, 71, 86], [65, 82, 71, 67]]
def wWords : List Bytes := [[66, 69, 71, 73, 78], [69, 78, 68], [102, 117, 110, 99, 116, 105, 111, 110], [100, 101, 108, 101, 116, 101], [105, 110], [105, 102], [101, 108, 115, 101], [119, 104, 105, 108, 101], [100, 111], [102, 111, 114], [98, 114, 101, 97, 107], [99, 111, 110, 116, 105, 110, 117, 101], [110, 101, 120, 116], [101, 120, 105, 116], [114, 101, 116, 117, 114, 110], [112, 114, 105, 110, 116], [112, 114, 105, 110, 116, 102]]
def wBuilts : List Bytes := [[108, 101, 110, 103, 116, 104], [115, 117, 98, 115, 116, 114], [105, 110, 100, 101, 120], [115, 112, 108, 105, 116], [115, 117, 98], [103, 115, 117, 98], [109, 97, 116, 99, 104], [115, 112, 114, 105, 110, 116, 102], [116, 111, 108, 111, 119, 101, 114], [116, 111, 117, 112, 112, 101, 114], [105, 110, 116]]
def wTwos : List Bytes := [[62, 62], [33, 126], [43, 61], [45, 61], [42, 61], [47, 61], [37, 61], [94, 61], [61, 61], [60, 61], [62, 61], [33, 61], [43, 43], [45, 45], [38, 38], [124, 124]]
def wOnes : List Bytes := [[123], [125], [40], [41], [91], [93], [59], [44], [43], [45], [42], [47], [37], [94], [33], [62], [60], [63], [58], [126], [36], [61]]
def wAfter : List Bytes := [[41], [93], [36], [43, 43], [45, 45]]
theorem listed_barred {w : Bytes} (hw : ∀ c ∈ w, c ≠ 32) : listedS lBarred w = decide (w ∈ wBarred) := by
  have e : lBarred = 32 :: joinW wBarred := by decide
  unfold listedS
  rw [e, contains_words hw (by decide)]
theorem listed_words {w : Bytes} (hw : ∀ c ∈ w, c ≠ 32) : listedS lWords w = decide (w ∈ wWords) := by
  have e : lWords = 32 :: joinW wWords := by decide
  unfold listedS
  rw [e, contains_words hw (by decide)]
theorem listed_builts {w : Bytes} (hw : ∀ c ∈ w, c ≠ 32) : listedS lBuilts w = decide (w ∈ wBuilts) := by
  have e : lBuilts = 32 :: joinW wBuilts := by decide
  unfold listedS
  rw [e, contains_words hw (by decide)]
theorem listed_after {w : Bytes} (hw : ∀ c ∈ w, c ≠ 32) : listedS lAfter w = decide (w ∈ wAfter) := by
  have e : lAfter = 32 :: joinW wAfter := by decide
  unfold listedS
  rw [e, contains_words hw (by decide)]
theorem listed_twos {w : Bytes} (hw : ∀ c ∈ w, c ≠ 32) : listedS lTwos w = decide (w ∈ wTwos) := by
  have e : lTwos = 32 :: joinW wTwos := by decide
  unfold listedS
  rw [e, contains_words hw (by decide)]
theorem inner_32 {c : UInt8} (h : innerB c = true) : c ≠ 32 := by
  intro e; subst e; revert h; decide
theorem word_32 (s : Bytes) : ∀ c ∈ s.take (spanL innerB s), c ≠ 32 := by
  induction s with
  | nil => simp
  | cons d s ih =>
    intro c hc
    rw [spanL] at hc
    by_cases hd : innerB d = true
    · rw [if_pos hd, List.take_succ_cons] at hc
      rcases List.mem_cons.1 hc with rfl | hc
      · exact inner_32 hd
      · exact ih c hc
    · rw [if_neg hd] at hc; simp at hc
/-! ### the document's numbers and letters -/
theorem letter_doc (c : UInt8) : letterB c = ((decide (97 ≤ c.toNat) && decide (c.toNat ≤ 122)) || (decide (65 ≤ c.toNat) && decide (c.toNat ≤ 90)) || c.toNat == 95) :=
  allU8 (p := fun c => letterB c = ((decide (97 ≤ c.toNat) && decide (c.toNat ≤ 122)) || (decide (65 ≤ c.toNat) && decide (c.toNat ≤ 90)) || c.toNat == 95)) (by decide +kernel) c
theorem exp_doc (c : UInt8) : ((c ||| 32).toNat == 101) = (c.toNat == 101 || c.toNat == 69) :=
  allU8 (p := fun c => ((c ||| 32).toNat == 101) = (c.toNat == 101 || c.toNat == 69)) (by decide +kernel) c
theorem span_zero {p : UInt8 → Bool} {s : Bytes} : 0 < spanL p s ↔ 0 < s.length ∧ p (s.getD 0 0) = true := by
  cases s with
  | nil => simp [spanL]
  | cons c s =>
    rw [spanL]
    by_cases h : p c = true
    · simp [h]
    · simp [h]
theorem getD_drop {s : Bytes} {n m : Nat} : (s.drop n).getD m 0 = s.getD (n + m) 0 := by
  simp [List.getD_eq_getElem?_getD, List.getElem?_drop]
theorem span_at {p : UInt8 → Bool} {s : Bytes} {n : Nat} : 0 < spanL p (s.drop n) ↔ n < s.length ∧ p (s.getD n 0) = true := by
  rw [span_zero, getD_drop, List.length_drop, Nat.add_zero]
  exact ⟨fun h => ⟨by omega, h.2⟩, fun h => ⟨by omega, h.2⟩⟩
/-! ### what a backslash means -/
def escB (d : UInt8) : Bytes := if d.toNat = 10 then [] else if d.toNat = 34 ∨ d.toNat = 92 ∨ d.toNat = 47 then [d] else if 0 ≤ Lib.indexByte lPlain d then [UInt8.ofNat (7 + (Lib.indexByte lPlain d).toNat)] else [92, d]
theorem inText_esc {r : Bytes} (h : ¬ (0 < r.length ∧ octalB (r.getD 0 0) = true)) : inTextS r = (escB (r.getD 0 0), r.drop 1) := by
  have : spanL octalB r = 0 := by
    have := span_zero (p := octalB) (s := r)
    rcases Nat.eq_zero_or_pos (spanL octalB r) with h1 | h1
    · exact h1
    · exact absurd (this.1 h1) h
  unfold inTextS
  rw [this, if_neg (by decide)]
  rfl
theorem inText_oct {r : Bytes} (h : 0 < r.length ∧ octalB (r.getD 0 0) = true) : inTextS r = ([UInt8.ofNat (octVal (r.take (min (spanL octalB r) 3)) 0)], r.drop (min (spanL octalB r) 3)) := by
  have := (span_zero (p := octalB) (s := r)).2 h
  unfold inTextS
  rw [if_pos (by omega)]
theorem esc_table (d : UInt8) : escB d = if d.toNat = 34 ∨ d.toNat = 92 ∨ d.toNat = 47 then [d] else if d.toNat = 97 then [7] else if d.toNat = 98 then [8] else if d.toNat = 102 then [12] else if d.toNat = 110 then [10] else if d.toNat = 114 then [13] else if d.toNat = 116 then [9] else if d.toNat = 118 then [11] else if d.toNat = 10 then [] else [92, d] :=
  allU8 (p := fun d => escB d = if d.toNat = 34 ∨ d.toNat = 92 ∨ d.toNat = 47 then [d] else if d.toNat = 97 then [7] else if d.toNat = 98 then [8] else if d.toNat = 102 then [12] else if d.toNat = 110 then [10] else if d.toNat = 114 then [13] else if d.toNat = 116 then [9] else if d.toNat = 118 then [11] else if d.toNat = 10 then [] else [92, d]) (by decide +kernel) d
/-! ### signs -/
def foundS (r : Bytes) : List Bytes → Bytes
  | [] => []
  | o :: os => if o.isPrefixOf r = true ∧ (foundS r os).length < o.length then o else foundS r os
theorem found_ones {c : UInt8} {r : Bytes} : ∀ {os : List Bytes}, (∀ o ∈ os, o.length = 1) → foundS (c :: r) os = if [c] ∈ os then [c] else []
  | [], _ => rfl
  | o :: os, h => by
    have h1 := h o (by simp)
    match o, h1 with
    | [d], _ =>
      rw [foundS, found_ones (fun x hx => h x (by simp [hx]))]
      by_cases hd : d = c
      · subst hd
        by_cases hm : [d] ∈ os <;> simp [hm, List.isPrefixOf]
      · have : (d == c) = false := by simpa using hd
        have h3 : ¬ c = d := fun e => hd e.symm
        simp [List.isPrefixOf, this, h3]
theorem found_twos {r : Bytes} {tl : List Bytes} (ht : (foundS r tl).length ≤ 1) : ∀ {os : List Bytes}, (∀ o ∈ os, o.length = 2) → foundS r (os ++ tl) = if 1 < r.length ∧ r.take 2 ∈ os then r.take 2 else foundS r tl
  | [], _ => by simp
  | o :: os, h => by
    have h2 := h o (by simp)
    have ih := found_twos ht (os := os) (fun x hx => h x (by simp [hx]))
    rw [List.cons_append, foundS, ih]
    have hp : o.isPrefixOf r = true ↔ 1 < r.length ∧ r.take 2 = o := by
      rw [List.isPrefixOf_iff_prefix]
      constructor
      · intro hpre
        have := hpre.length_le
        exact ⟨by omega, by rw [← h2]; exact (List.prefix_iff_eq_take.1 hpre).symm⟩
      · intro ⟨h3, h4⟩
        rw [← h4]; exact List.take_prefix 2 r
    by_cases hlen : 1 < r.length
    · have hl2 : (r.take 2).length = 2 := by rw [List.length_take]; omega
      by_cases hm : r.take 2 ∈ os
      · have e : (if 1 < r.length ∧ r.take 2 ∈ os then r.take 2 else foundS r tl) = r.take 2 := if_pos ⟨hlen, hm⟩
        rw [e, if_neg (fun h3 => by omega), if_pos ⟨hlen, by simp [hm]⟩]
      · have e : (if 1 < r.length ∧ r.take 2 ∈ os then r.take 2 else foundS r tl) = foundS r tl := if_neg (fun h3 => hm h3.2)
        rw [e]
        by_cases ho : r.take 2 = o
        · rw [if_pos ⟨hp.2 ⟨hlen, ho⟩, by omega⟩, if_pos ⟨hlen, by simp [ho]⟩, ho]
        · rw [if_neg (fun h3 => ho (hp.1 h3.1).2), if_neg (fun h3 => by
            rcases List.mem_cons.1 h3.2 with h4 | h4
            · exact ho h4
            · exact hm h4)]
    · have e : (if 1 < r.length ∧ r.take 2 ∈ os then r.take 2 else foundS r tl) = foundS r tl := if_neg (fun h3 => hlen h3.1)
      rw [e, if_neg (fun h3 => hlen (hp.1 h3.1).1), if_neg (fun h3 => hlen h3.1)]
def allOps : List Bytes := wTwos ++ wOnes
theorem found_all {s : Bytes} (hs : s ≠ []) : foundS s allOps = if 1 < s.length ∧ s.take 2 ∈ wTwos then s.take 2 else if s.take 1 ∈ wOnes then s.take 1 else [] := by
  cases s with
  | nil => exact absurd rfl hs
  | cons c r =>
    have h1 : foundS (c :: r) wOnes = if [c] ∈ wOnes then [c] else [] := found_ones (by decide)
    have h2 : (foundS (c :: r) wOnes).length ≤ 1 := by rw [h1]; split <;> simp
    rw [allOps, found_twos h2 (by decide), h1]
    rfl
theorem ones_ix (c : UInt8) : (decide (0 ≤ Lib.indexByte lOnes c)) = decide ([c] ∈ wOnes) :=
  allU8 (p := fun c => (decide (0 ≤ Lib.indexByte lOnes c)) = decide ([c] ∈ wOnes)) (by decide +kernel) c
theorem op_doc {s : Bytes} (hs : s ≠ []) (h32 : s.getD 0 0 ≠ 32) (ts : List Tok) : opTok s ts = if foundS s allOps = [] then none else some (s.drop (foundS s allOps).length, ts ++ [(kOp, foundS s allOps)]) := by
  rw [found_all hs]
  unfold opTok
  have h2 : (decide (1 < s.length) && listedS lTwos (s.take 2)) = decide (1 < s.length ∧ s.take 2 ∈ wTwos) := by
    by_cases h : 1 < s.length
    · rw [decide_eq_true h, Bool.true_and]
      match s, hs, h with
      | c :: d :: r, _, _ =>
        have e : (c :: d :: r).take 2 = [c, d] := rfl
        have hc : c ≠ 32 := h32
        rw [e]
        by_cases hd : d = 32
        · subst hd
          rw [stop32.twos c]
          have : [c, 32] ∉ wTwos := by
            intro hm
            have : ∀ x ∈ wTwos, x.getD 1 0 ≠ 32 := by decide
            exact this _ hm rfl
          simp [this]
        · rw [listed_twos (by
            intro x hx
            simp only [List.mem_cons, List.not_mem_nil, or_false] at hx
            rcases hx with rfl | rfl
            · exact hc
            · exact hd)]
          simp
    · rw [decide_eq_false h, Bool.false_and]
      rw [eq_comm, decide_eq_false_iff_not]
      exact fun h3 => h h3.1
  rw [h2]
  by_cases h3 : 1 < s.length ∧ s.take 2 ∈ wTwos
  · have hl : (s.take 2).length = 2 := by rw [List.length_take]; omega
    have hne : s.take 2 ≠ [] := by intro e; rw [e] at hl; cases hl
    rw [if_pos (decide_eq_true h3), if_pos h3, if_neg hne, hl]
  · rw [if_neg (by simpa using h3), if_neg h3]
    match s, hs with
    | c :: r, _ =>
      have e : (c :: r).take 1 = [c] := rfl
      have e2 : (c :: r).getD 0 0 = c := rfl
      rw [e, e2]
      have := ones_ix c
      by_cases h4 : [c] ∈ wOnes
      · rw [decide_eq_true h4] at this
        rw [if_pos (of_decide_eq_true this), if_pos h4, if_neg (by simp)]; rfl
      · rw [decide_eq_false h4] at this
        rw [if_neg (of_decide_eq_false this), if_neg h4, if_pos rfl]
end Go.AD.Lx
