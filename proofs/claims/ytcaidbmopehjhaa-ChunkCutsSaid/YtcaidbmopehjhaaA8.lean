/- The plain law of chunk's document: record by record. -/
import Derived.Test.YtcaidbmopehjhaaA6
set_option linter.unusedVariables false
namespace Go.AD
theorem pieces_split (l : List Int) : ∀ (g j lo hi : Nat), j ≤ l.length → pieces g l lo hi = pieces g (l.take j) lo hi ++ pieces (g + j) (l.drop j) (lo - sumN (l.take j)) (hi - sumN (l.take j)) := by
  induction l with
  | nil => intro g j lo hi hj; simp [pieces]
  | cons c l ih =>
    intro g j lo hi hj
    cases j with
    | zero => simp [pieces, sumN]
    | succ j =>
      simp only [List.take_succ_cons, List.drop_succ_cons, sumN]
      rw [pieces, pieces, ih (g + 1) j _ _ (by simpa using hj), List.append_assoc, Nat.sub_sub, Nat.sub_sub, show g + 1 + j = g + (j + 1) by omega]
theorem pieces_cap (l : List Int) : ∀ (g lo hi hi' : Nat), sumN l ≤ hi → sumN l ≤ hi' → pieces g l lo hi = pieces g l lo hi' := by
  induction l with
  | nil => intros; rfl
  | cons c l ih =>
    intro g lo hi hi' h h'
    simp only [sumN] at h h'
    rw [pieces, pieces, ih (g + 1) _ (hi - c.toNat) (hi' - c.toNat) (by omega) (by omega), show min c.toNat hi = min c.toNat hi' by omega]
theorem pieces_file (l : List Int) : ∀ (g lo hi : Nat), ∀ p ∈ pieces g l lo hi, p.1 < g + l.length := by
  induction l with
  | nil => intro g lo hi p hp; simp [pieces] at hp
  | cons c l ih =>
    intro g lo hi p hp
    rw [pieces] at hp
    rcases List.mem_append.1 hp with h | h
    · split at h
      · simp only [List.mem_singleton] at h; subst h; simp
      · cases h
    · have := ih (g + 1) _ _ p h
      simp only [List.length_cons]; omega
/-- What a shard has after so many records. -/
def rAt (l : List Int) (k at_ j : Nat) : List (Nat × Nat × Nat) := pieces 0 l (min (lowS l k j) at_) (min (lowS l k (j + 1)) at_)
theorem lowS_mono (l : List Int) (k : Nat) {a b : Nat} (h : a ≤ b) : lowS l k a ≤ lowS l k b := Nat.div_le_div_right (Nat.mul_le_mul_right _ h)
theorem rAt_other (l : List Int) (k at_ s j : Nat) (hlo : lowS l k s ≤ at_) (hhi : at_ < lowS l k (s + 1)) (hj : j ≠ s) : rAt l k (at_ + 1) j = rAt l k at_ j := by
  unfold rAt
  rcases Nat.lt_or_gt_of_ne hj with h | h
  · have h1 := lowS_mono l k (show j + 1 ≤ s by omega)
    have h2 := lowS_le l k j
    rw [show min (lowS l k j) (at_ + 1) = min (lowS l k j) at_ by omega, show min (lowS l k (j + 1)) (at_ + 1) = min (lowS l k (j + 1)) at_ by omega]
  · have h1 := lowS_mono l k (show s + 1 ≤ j by omega)
    have h2 := lowS_le l k j
    rw [pieces_none _ _ _ _ (by omega), pieces_none _ _ _ _ (by omega)]
theorem rAt_zero (l : List Int) (k j : Nat) : rAt l k 0 j = [] := pieces_none _ _ _ _ (by omega)
theorem rAt_full (l : List Int) (k j : Nat) (hj : j < k) : rAt l k (sumN l) j = rowS l k j := by
  have h1 := lowS_top l k j (by omega)
  have h2 := lowS_top l k (j + 1) (by omega)
  rw [rAt, rowS, Nat.min_eq_left h1, Nat.min_eq_left h2]
/-- One record more in a shard's row. -/
theorem rAt_step (l : List Int) (k at_ s f r : Nat) (hlo : lowS l k s ≤ at_) (hhi : at_ < lowS l k (s + 1)) (hf : f < l.length) (hr : r < l[f].toNat) (hat : sumN (l.take f) + r = at_) :
    (∃ a init, rAt l k at_ s = init ++ [(f, a, r)] ∧ rAt l k (at_ + 1) s = init ++ [(f, a, r + 1)]) ∨ (rAt l k (at_ + 1) s = rAt l k at_ s ++ [(f, r, r + 1)] ∧ ∀ p ∈ rAt l k at_ s, p.1 < f) := by
  unfold rAt
  rw [show min (lowS l k s) (at_ + 1) = min (lowS l k s) at_ by omega, show min (lowS l k (s + 1)) (at_ + 1) = at_ + 1 by omega, show min (lowS l k (s + 1)) at_ = at_ by omega, show min (lowS l k s) at_ = lowS l k s by omega]
  generalize lowS l k s = lo at hlo
  have cap : pieces 0 (l.take f) lo (at_ + 1) = pieces 0 (l.take f) lo at_ := pieces_cap _ _ _ _ _ (by omega) (by omega)
  have e1 : min l[f].toNat (at_ + 1 - sumN (l.take f)) = r + 1 := by omega
  have e2 : min l[f].toNat (at_ - sumN (l.take f)) = r := by omega
  have B1 : pieces f (l[f] :: l.drop (f + 1)) (lo - sumN (l.take f)) (at_ + 1 - sumN (l.take f)) = [(f, lo - sumN (l.take f), r + 1)] := by
    rw [pieces, e1, if_pos (by omega), pieces_none _ _ _ _ (by omega), List.append_nil]
  have B0 : pieces f (l[f] :: l.drop (f + 1)) (lo - sumN (l.take f)) (at_ - sumN (l.take f)) = if lo - sumN (l.take f) < r then [(f, lo - sumN (l.take f), r)] else [] := by
    rw [pieces, e2, pieces_none _ _ _ _ (by omega), List.append_nil]
  rw [pieces_split l 0 f lo (at_ + 1) (by omega), pieces_split l 0 f lo at_ (by omega), cap, List.drop_eq_getElem_cons hf, Nat.zero_add, B1, B0]
  by_cases h : lo - sumN (l.take f) < r
  · rw [if_pos h]
    exact .inl ⟨_, _, rfl, rfl⟩
  · rw [if_neg h]
    refine .inr ⟨by rw [List.append_nil, show lo - sumN (l.take f) = r by omega], ?_⟩
    intro p hp
    rw [List.append_nil] at hp
    have := pieces_file _ _ _ _ p hp
    rw [List.length_take] at this
    omega
end Go.AD
