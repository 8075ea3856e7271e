/- Pieces of files, as lists: the plain law of chunk. -/
import Derived.Test.YtcaidbmopehjhaaAd15
set_option linter.unusedVariables false
namespace Go.AD

def sumN : List Int → Nat
  | [] => 0
  | c :: l => c.toNat + sumN l
/-- The pieces of the files from number f on that hold the records from lo up to hi. -/
def pieces : Nat → List Int → Nat → Nat → List (Nat × Nat × Nat)
  | _, [], _, _ => []
  | f, c :: l, lo, hi => (if lo < min c.toNat hi then [(f, lo, min c.toNat hi)] else []) ++ pieces (f + 1) l (lo - c.toNat) (hi - c.toNat)
def flat3 : List (Nat × Nat × Nat) → List PV
  | [] => []
  | p :: l => .int .i64 p.1 :: .int .i64 p.2.1 :: .int .i64 p.2.2 :: flat3 l
theorem flat3_length (l : List (Nat × Nat × Nat)) : (flat3 l).length = l.length * 3 := by
  induction l with
  | nil => rfl
  | cons p l ih => simp [flat3, ih]; omega
theorem flat3_append (l r : List (Nat × Nat × Nat)) : flat3 (l ++ r) = flat3 l ++ flat3 r := by
  induction l with
  | nil => rfl
  | cons p l ih => simp [flat3, ih]
theorem flat3_get (l : List (Nat × Nat × Nat)) (i : Nat) (h : i < l.length) : ((flat3 l).drop (i * 3)).take 3 = [.int .i64 l[i].1, .int .i64 l[i].2.1, .int .i64 l[i].2.2] := by
  induction l generalizing i with
  | nil => simp at h
  | cons p l ih =>
    cases i with
    | zero => simp [flat3]
    | succ i =>
      have : (i + 1) * 3 = i * 3 + 3 := by omega
      rw [this]
      simpa [flat3] using ih i (by simpa using h)
theorem sumN_take_drop (l : List Int) (f : Nat) : sumN (l.take f) + sumN (l.drop f) = sumN l := by
  induction l generalizing f with
  | nil => simp [sumN]
  | cons c l ih =>
    cases f with
    | zero => simp [sumN]
    | succ f => simp only [List.take_succ_cons, List.drop_succ_cons, sumN]; have := ih f; omega
theorem sumN_drop (l : List Int) (f : Nat) (h : f < l.length) : sumN (l.drop f) = l[f].toNat + sumN (l.drop (f + 1)) := by
  rw [List.drop_eq_getElem_cons h, sumN]
theorem sumN_take (l : List Int) (f : Nat) (h : f < l.length) : sumN (l.take (f + 1)) = sumN (l.take f) + l[f].toNat := by
  have h1 := sumN_take_drop l f
  have h2 := sumN_take_drop l (f + 1)
  have h3 := sumN_drop l f h
  omega
theorem pieces_none (l : List Int) : ∀ (f lo hi : Nat), hi ≤ lo → pieces f l lo hi = [] := by
  induction l with
  | nil => intros; rfl
  | cons c l ih =>
    intro f lo hi h
    rw [pieces, if_neg (by omega), ih _ _ _ (by omega)]
    rfl
theorem pieces_drop (l : List Int) : ∀ (f j lo hi : Nat), sumN (l.take j) ≤ lo → pieces f l lo hi = pieces (f + j) (l.drop j) (lo - sumN (l.take j)) (hi - sumN (l.take j)) := by
  induction l with
  | nil => intros; simp [pieces]
  | cons c l ih =>
    intro f j lo hi h
    cases j with
    | zero => simp [sumN]
    | succ j =>
      simp only [List.take_succ_cons, sumN] at h
      rw [pieces, if_neg (by omega), ih (f + 1) j _ _ (by omega)]
      simp only [List.take_succ_cons, List.drop_succ_cons, sumN, List.nil_append]
      rw [show f + 1 + j = f + (j + 1) by omega, Nat.sub_sub, Nat.sub_sub]
theorem pieces_step (l : List Int) (f used want : Nat) (h : f < l.length) (hu : used < l[f].toNat) (hw : 0 < want) :
    pieces f (l.drop f) used (used + want) = (f, used, used + min want (l[f].toNat - used)) :: pieces f (l.drop f) (used + min want (l[f].toNat - used)) (used + want) := by
  rw [List.drop_eq_getElem_cons h, pieces, pieces, if_pos (by omega), if_neg (by omega)]
  simp only [List.nil_append, List.singleton_append, List.cons.injEq, Prod.mk.injEq, true_and]
  refine ⟨by omega, ?_⟩
  rcases Nat.lt_or_ge want (l[f].toNat - used) with h1 | h1
  · rw [pieces_none _ _ _ _ (by omega), pieces_none _ _ _ _ (by omega)]
  · congr 1
    omega
theorem pieces_skip (l : List Int) (f used want : Nat) (h : f < l.length) (hu : used = l[f].toNat) :
    pieces f (l.drop f) used (used + want) = pieces (f + 1) (l.drop (f + 1)) 0 (0 + want) := by
  rw [List.drop_eq_getElem_cons h, pieces, if_neg (by omega)]
  simp only [List.nil_append]
  congr 1 <;> omega

/-- The row of one shard. -/
def lowS (l : List Int) (k i : Nat) : Nat := i * sumN l / k
def rowS (l : List Int) (k i : Nat) : List (Nat × Nat × Nat) := pieces 0 l (lowS l k i) (lowS l k (i + 1))
theorem lowS_le (l : List Int) (k i : Nat) : lowS l k i ≤ lowS l k (i + 1) := Nat.div_le_div_right (Nat.mul_le_mul_right _ (by omega))
theorem lowS_top (l : List Int) (k i : Nat) (h : i ≤ k) : lowS l k i ≤ sumN l := by
  unfold lowS
  rcases Nat.eq_zero_or_pos k with h0 | h0
  · subst h0; simp
  · apply Nat.div_le_of_le_mul
    exact Nat.mul_le_mul_right _ h
theorem lowS_zero (l : List Int) (k : Nat) : lowS l k 0 = 0 := by simp [lowS]
theorem lowS_full (l : List Int) (k : Nat) (h : 0 < k) : lowS l k k = sumN l := Nat.mul_div_cancel_left _ h
theorem rowS_at (l : List Int) (k i f used : Nat) (h : sumN (l.take f) + used = lowS l k i) :
    rowS l k i = pieces f (l.drop f) used (used + (lowS l k (i + 1) - lowS l k i)) := by
  have := lowS_le l k i
  rw [rowS, pieces_drop l 0 f _ _ (by omega), Nat.zero_add]
  congr 1 <;> omega
theorem pieces_length (l : List Int) : ∀ (f lo hi : Nat), (pieces f l lo hi).length ≤ hi - lo := by
  induction l with
  | nil => intros; simp [pieces]
  | cons c l ih =>
    intro f lo hi
    rw [pieces, List.length_append]
    have := ih (f + 1) (lo - c.toNat) (hi - c.toNat)
    split
    · simp only [List.length_singleton]; omega
    · simp only [List.length_nil]; omega
/-- Too many records? -/
def cutBad : List Int → Int → Bool
  | [], _ => false
  | c :: l, n => if c > 2147483647 - n then true else cutBad l (n + max c 0)
theorem cutBad_sum : ∀ (l : List Int) (n : Int), n ≤ 2147483647 → cutBad l n = false → n + sumN l ≤ 2147483647
  | [], n, h0, _ => by simp [sumN]; exact h0
  | c :: l, n, h0, h => by
    rw [cutBad] at h
    split at h
    · cases h
    · have := cutBad_sum l (n + max c 0) (by omega) h
      simp only [sumN]
      omega
end Go.AD
