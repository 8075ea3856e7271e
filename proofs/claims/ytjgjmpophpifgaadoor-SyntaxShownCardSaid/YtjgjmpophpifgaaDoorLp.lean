/- lex, the plain law: what the program's lexer computes. No program in sight. -/
import Derived.Test.YtjgjmpophpifgaaDoorAd17
import Derived.Lib.IndexMore
import Derived.Lib.Strings
import Derived.Lib.Bytealg
set_option linter.unusedVariables false
namespace Go.AD.Lx
abbrev Bytes := List UInt8
abbrev Tok := Bytes × Bytes
def digitB (c : UInt8) : Bool := decide (48 ≤ c.toNat) && decide (c.toNat ≤ 57)
def octalB (c : UInt8) : Bool := decide (48 ≤ c.toNat) && decide (c.toNat ≤ 55)
def letterB (c : UInt8) : Bool := decide (97 ≤ (c ||| 32).toNat) && decide ((c ||| 32).toNat ≤ 122) || c.toNat == 95
def innerB (c : UInt8) : Bool := letterB c || digitB c
def lineB (c : UInt8) : Bool := !(c.toNat == 10)
def spanL (p : UInt8 → Bool) : Bytes → Nat
  | [] => 0
  | c :: s => if p c = true then spanL p s + 1 else 0
theorem span_le (p : UInt8 → Bool) (s : Bytes) : spanL p s ≤ s.length := by
  induction s with
  | nil => exact Nat.le_refl _
  | cons c s ih => unfold spanL; split <;> simp <;> omega
def isAt (s : Bytes) (n k : Nat) : Bool := decide (n < s.length) && (s.getD n 0).toNat == k
def expAt (s : Bytes) (n : Nat) : Nat := if isAt s (n + 1) 43 || isAt s (n + 1) 45 then n + 2 else n + 1
def expL (s : Bytes) (n : Nat) : Nat := if decide (n < s.length) && (s.getD n 0 ||| 32).toNat == 101 then (if 0 < spanL digitB (s.drop (expAt s n)) then expAt s n + spanL digitB (s.drop (expAt s n)) else n) else n
def fracL (s : Bytes) (n : Nat) : Nat × Nat := if isAt s n 46 then (if 0 < n + spanL digitB (s.drop (n + 1)) then (n + 1 + spanL digitB (s.drop (n + 1)), n + spanL digitB (s.drop (n + 1))) else (n, n)) else (n, n)
def numberL (s : Bytes) : Nat := if (fracL s (spanL digitB s)).2 = 0 then 0 else expL s (fracL s (spanL digitB s)).1
def listedS (l w : Bytes) : Bool := Lib.contains l ([32] ++ w ++ [32])
def kNum : Bytes := [110, 117, 109]
def kStr : Bytes := [115, 116, 114]
def kEre : Bytes := [101, 114, 101]
def kName : Bytes := [110, 97, 109, 101]
def kFunc : Bytes := [102, 117, 110, 99]
def kBuilt : Bytes := [98, 117, 105, 108, 116]
def kWord : Bytes := [119, 111, 114, 100]
def kOp : Bytes := [111, 112]
def kNl : Bytes := [110, 108]
def sLength : Bytes := [108, 101, 110, 103, 116, 104]
def lAfter : Bytes := [32, 41, 32, 93, 32, 36, 32, 43, 43, 32, 45, 45, 32]
def lBarred : Bytes := [32, 103, 101, 116, 108, 105, 110, 101, 32, 115, 121, 115, 116, 101, 109, 32, 99, 108, 111, 115, 101, 32, 102, 102, 108, 117, 115, 104, 32, 110, 101, 120, 116, 102, 105, 108, 101, 32, 114, 97, 110, 100, 32, 115, 114, 97, 110, 100, 32, 115, 105, 110, 32, 99, 111, 115, 32, 97, 116, 97, 110, 50, 32, 101, 120, 112, 32, 108, 111, 103, 32, 115, 113, 114, 116, 32, 102, 117, 110, 99, 32, 69, 78, 86, 73, 82, 79, 78, 32, 65, 82, 71, 86, 32, 65, 82, 71, 67, 32]
def lWords : Bytes := [32, 66, 69, 71, 73, 78, 32, 69, 78, 68, 32, 102, 117, 110, 99, 116, 105, 111, 110, 32, 100, 101, 108, 101, 116, 101, 32, 105, 110, 32, 105, 102, 32, 101, 108, 115, 101, 32, 119, 104, 105, 108, 101, 32, 100, 111, 32, 102, 111, 114, 32, 98, 114, 101, 97, 107, 32, 99, 111, 110, 116, 105, 110, 117, 101, 32, 110, 101, 120, 116, 32, 101, 120, 105, 116, 32, 114, 101, 116, 117, 114, 110, 32, 112, 114, 105, 110, 116, 32, 112, 114, 105, 110, 116, 102, 32]
def lBuilts : Bytes := [32, 108, 101, 110, 103, 116, 104, 32, 115, 117, 98, 115, 116, 114, 32, 105, 110, 100, 101, 120, 32, 115, 112, 108, 105, 116, 32, 115, 117, 98, 32, 103, 115, 117, 98, 32, 109, 97, 116, 99, 104, 32, 115, 112, 114, 105, 110, 116, 102, 32, 116, 111, 108, 111, 119, 101, 114, 32, 116, 111, 117, 112, 112, 101, 114, 32, 105, 110, 116, 32]
def lTwos : Bytes := [32, 62, 62, 32, 33, 126, 32, 43, 61, 32, 45, 61, 32, 42, 61, 32, 47, 61, 32, 37, 61, 32, 94, 61, 32, 61, 61, 32, 60, 61, 32, 62, 61, 32, 33, 61, 32, 43, 43, 32, 45, 45, 32, 38, 38, 32, 124, 124, 32]
def lOnes : Bytes := [123, 125, 40, 41, 91, 93, 59, 44, 43, 45, 42, 47, 37, 94, 33, 62, 60, 63, 58, 126, 36, 61]
def lPlain : Bytes := [97, 98, 116, 110, 118, 102, 114]
def tokOperand (t : Tok) : Bool := if t.1 = kNum ∨ t.1 = kStr ∨ t.1 = kEre ∨ t.1 = kName then true else if t.1 = kBuilt then t.2 == sLength else if t.1 = kOp then listedS lAfter t.2 else false
def operandS (ts : List Tok) : Bool := match ts.getLast? with
  | none => false
  | some t => tokOperand t
def octVal : Bytes → Nat → Nat
  | [], v => v
  | c :: s, v => octVal s (v * 8 + (c.toNat - 48))
/-- What a backslash means in a text: bytes, and what is left. -/
def inTextS (r : Bytes) : Bytes × Bytes :=
  if 0 < min (spanL octalB r) 3 then ([UInt8.ofNat (octVal (r.take (min (spanL octalB r) 3)) 0)], r.drop (min (spanL octalB r) 3))
  else (if (r.getD 0 0).toNat = 10 then [] else if (r.getD 0 0).toNat = 34 ∨ (r.getD 0 0).toNat = 92 ∨ (r.getD 0 0).toNat = 47 then [r.getD 0 0]
    else if 0 ≤ Lib.indexByte lPlain (r.getD 0 0) then [UInt8.ofNat (7 + (Lib.indexByte lPlain (r.getD 0 0)).toNat)] else [92, r.getD 0 0], r.drop 1)
def inEreS (r : Bytes) : Bytes × Bytes :=
  if (r.getD 0 0).toNat = 10 then ([], r) else (if (r.getD 0 0).toNat = 47 then [r.getD 0 0] else [92, r.getD 0 0], r.drop 1)
def quotedS (q : UInt8) (e : Bytes → Bytes × Bytes) : Nat → Bytes → Bytes → Option (Bytes × Bytes)
  | 0, _, _ => none
  | f + 1, s, acc => if s = [] then none else if (s.getD 0 0).toNat = 10 then none else if s.getD 0 0 = q then some (acc, s.drop 1)
    else if (s.getD 0 0).toNat ≠ 92 then quotedS q e f (s.drop 1) (acc ++ [s.getD 0 0])
    else if s.drop 1 = [] then none else quotedS q e f (e (s.drop 1)).2 (acc ++ (e (s.drop 1)).1)
def nameS (s : Bytes) (ts : List Tok) : Option (Bytes × List Tok) :=
  if listedS lBarred (s.take (spanL innerB s)) = true then none
  else some (s.drop (spanL innerB s), ts ++ [(if listedS lWords (s.take (spanL innerB s)) = true then kWord else if listedS lBuilts (s.take (spanL innerB s)) = true then kBuilt else if Lib.hasPrefix (s.drop (spanL innerB s)) [40] = true then kFunc else kName, s.take (spanL innerB s))])
def quoteTok (q : UInt8) (e : Bytes → Bytes × Bytes) (kind : Bytes) (s : Bytes) (ts : List Tok) : Option (Bytes × List Tok) := match quotedS q e (s.length + 1) (s.drop 1) [] with
  | none => none
  | some (t, r) => some (r, ts ++ [(kind, t)])
def opTok (s : Bytes) (ts : List Tok) : Option (Bytes × List Tok) :=
  if decide (1 < s.length) && listedS lTwos (s.take 2) then some (s.drop 2, ts ++ [(kOp, s.take 2)])
  else if 0 ≤ Lib.indexByte lOnes (s.getD 0 0) then some (s.drop 1, ts ++ [(kOp, s.take 1)]) else none
def tokenS (s : Bytes) (ts : List Tok) : Option (Bytes × List Tok) :=
  if (s.getD 0 0).toNat = 32 ∨ (s.getD 0 0).toNat = 9 then some (s.drop 1, ts)
  else if Lib.hasPrefix s [92, 10] = true then some (s.drop 2, ts)
  else if (s.getD 0 0).toNat = 35 then some (s.drop (spanL lineB s), ts)
  else if (s.getD 0 0).toNat = 10 then some (s.drop 1, ts ++ [(kNl, [])])
  else if 0 < numberL s then some (s.drop (numberL s), ts ++ [(kNum, s.take (numberL s))])
  else if (s.getD 0 0).toNat = 34 then quoteTok 34 inTextS kStr s ts
  else if (s.getD 0 0).toNat = 47 ∧ operandS ts = false then quoteTok 47 inEreS kEre s ts
  else if letterB (s.getD 0 0) = true then nameS s ts
  else opTok s ts
def lexL : Nat → Bytes → List Tok → Option (List Tok)
  | 0, _, _ => none
  | f + 1, s, ts => if s = [] then some ts else match tokenS s ts with
    | none => none
    | some (s', ts') => if ts'.length ≤ 20000 then lexL f s' ts' else none
def lexS (s : Bytes) : Option (List Tok) := if s.length ≤ 65536 then lexL (s.length + 1) s [] else none
/-! ### bounds -/
theorem drop_span {p : UInt8 → Bool} {s : Bytes} : (s.drop (spanL p s)).length = s.length - spanL p s := by rw [List.length_drop]
theorem isAt_lt {s : Bytes} {n k : Nat} (h : isAt s n k = true) : n < s.length := by
  unfold isAt at h
  rw [Bool.and_eq_true] at h
  exact of_decide_eq_true h.1
theorem expAt_le {s : Bytes} {n : Nat} (h : n < s.length) : expAt s n ≤ s.length := by
  unfold expAt
  split
  · rename_i h1
    rw [Bool.or_eq_true] at h1
    rcases h1 with h1 | h1 <;> · have := isAt_lt h1; omega
  · omega
theorem expL_le {s : Bytes} {n : Nat} (h : n ≤ s.length) : expL s n ≤ s.length := by
  unfold expL
  split
  · rename_i h1
    rw [Bool.and_eq_true] at h1
    have h2 := of_decide_eq_true h1.1
    split
    · have := span_le digitB (s.drop (expAt s n))
      have h3 := expAt_le h2
      rw [List.length_drop] at this
      omega
    · exact h
  · exact h
theorem fracL_le {s : Bytes} {n : Nat} (h : n ≤ s.length) : (fracL s n).1 ≤ s.length := by
  unfold fracL
  split
  · rename_i h1
    have := isAt_lt h1
    split
    · have := span_le digitB (s.drop (n + 1))
      rw [List.length_drop] at this
      simp only
      omega
    · exact h
  · exact h
theorem number_le (s : Bytes) : numberL s ≤ s.length := by
  unfold numberL
  split
  · exact Nat.zero_le _
  · exact expL_le (fracL_le (span_le _ _))
theorem inText_le (r : Bytes) (h : r ≠ []) : (inTextS r).2.length < r.length := by
  have : 0 < r.length := List.length_pos_iff.2 h
  unfold inTextS
  split
  · simp only [List.length_drop]; omega
  · simp only [List.length_drop]; omega
theorem inEre_le (r : Bytes) : (inEreS r).2.length ≤ r.length := by
  unfold inEreS
  split
  · exact Nat.le_refl _
  · simp only [List.length_drop]; omega
theorem quoted_le {q : UInt8} {e : Bytes → Bytes × Bytes} (he : ∀ r, (e r).2.length ≤ r.length) : ∀ (f : Nat) (s acc : Bytes) (t r : Bytes), quotedS q e f s acc = some (t, r) → r.length < s.length
  | 0, s, acc, t, r, h => by cases h
  | f + 1, s, acc, t, r, h => by
    rw [quotedS] at h
    split at h
    · cases h
    rename_i hne
    have hp : 0 < s.length := List.length_pos_iff.2 hne
    split at h
    · cases h
    split at h
    · simp only [Option.some.injEq, Prod.mk.injEq] at h
      rw [← h.2, List.length_drop]; omega
    split at h
    · have := quoted_le he f _ _ _ _ h
      rw [List.length_drop] at this; omega
    split at h
    · cases h
    · have := quoted_le he f _ _ _ _ h
      have h2 := he (s.drop 1)
      rw [List.length_drop] at h2
      omega
theorem quoted_fuel {q : UInt8} {e : Bytes → Bytes × Bytes} (he : ∀ r, r ≠ [] → (e r).2.length ≤ r.length) : ∀ (f g : Nat) (s acc : Bytes), s.length < f → s.length < g → quotedS q e f s acc = quotedS q e g s acc
  | 0, _, s, acc, h, _ => absurd h (Nat.not_lt_zero _)
  | _ + 1, 0, s, acc, _, h => absurd h (Nat.not_lt_zero _)
  | f + 1, g + 1, s, acc, h1, h2 => by
    rw [quotedS, quotedS]
    by_cases hs : s = []
    · rw [if_pos hs, if_pos hs]
    rw [if_neg hs, if_neg hs]
    have hp : 0 < s.length := List.length_pos_iff.2 hs
    have hd : (s.drop 1).length = s.length - 1 := by rw [List.length_drop]
    rw [quoted_fuel he f g (s.drop 1) _ (by omega) (by omega)]
    by_cases hr : s.drop 1 = []
    · rw [if_pos hr, if_pos hr]
    · have := he _ hr
      rw [quoted_fuel he f g (e (s.drop 1)).2 _ (by omega) (by omega)]
theorem span_pos {p : UInt8 → Bool} {s : Bytes} (hs : s ≠ []) (h : p (s.getD 0 0) = true) : 0 < spanL p s := by
  cases s with
  | nil => exact absurd rfl hs
  | cons c s => simp at h; simp [spanL, h]
theorem token_le {s : Bytes} {ts : List Tok} (hs : s ≠ []) {r : Bytes} {ts' : List Tok} (h : tokenS s ts = some (r, ts')) : r.length < s.length ∧ ts'.length ≤ ts.length + 1 := by
  have hp : 0 < s.length := List.length_pos_iff.2 hs
  have qt : ∀ q e k, (∀ r, (e r).2.length ≤ r.length) → quoteTok q e k s ts = some (r, ts') → r.length < s.length ∧ ts'.length ≤ ts.length + 1 := by
    intro q e k he h
    unfold quoteTok at h
    split at h
    · cases h
    · rename_i t r' hq
      have := quoted_le he _ _ _ _ _ hq
      rw [List.length_drop] at this
      simp only [Option.some.injEq, Prod.mk.injEq] at h
      rw [← h.1, ← h.2]
      exact ⟨by omega, by simp⟩
  have hit : ∀ r, (inTextS r).2.length ≤ r.length := by
    intro r
    by_cases h : r = []
    · subst h; decide
    · exact Nat.le_of_lt (inText_le r h)
  unfold tokenS at h
  split at h
  · simp only [Option.some.injEq, Prod.mk.injEq] at h
    rw [← h.1, ← h.2, List.length_drop]; omega
  split at h
  · simp only [Option.some.injEq, Prod.mk.injEq] at h
    rw [← h.1, ← h.2, List.length_drop]; omega
  split at h
  · rename_i h35
    simp only [Option.some.injEq, Prod.mk.injEq] at h
    have := span_pos (p := lineB) hs (by unfold lineB; rw [h35]; rfl)
    rw [← h.1, ← h.2, List.length_drop]; omega
  split at h
  · simp only [Option.some.injEq, Prod.mk.injEq] at h
    rw [← h.1, ← h.2, List.length_drop]; simp; omega
  split at h
  · simp only [Option.some.injEq, Prod.mk.injEq] at h
    rw [← h.1, ← h.2, List.length_drop]; simp; omega
  split at h
  · exact qt _ _ _ hit h
  split at h
  · exact qt _ _ _ inEre_le h
  split at h
  · rename_i hl
    unfold nameS at h
    split at h
    · cases h
    · simp only [Option.some.injEq, Prod.mk.injEq] at h
      have := span_pos (p := innerB) hs (by unfold innerB; rw [hl]; rfl)
      rw [← h.1, ← h.2, List.length_drop]; simp; omega
  · unfold opTok at h
    split at h
    · simp only [Option.some.injEq, Prod.mk.injEq] at h
      rw [← h.1, ← h.2, List.length_drop]; simp; omega
    · split at h
      · simp only [Option.some.injEq, Prod.mk.injEq] at h
        rw [← h.1, ← h.2, List.length_drop]; simp; omega
      · cases h
end Go.AD.Lx
