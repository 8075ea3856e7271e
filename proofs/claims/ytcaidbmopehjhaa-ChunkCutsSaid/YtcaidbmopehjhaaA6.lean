/- Pieces in a chain: the plain law of ChunkWhole. -/
import Derived.Test.YtcaidbmopehjhaaA2
set_option linter.unusedVariables false
namespace Go.AD
/-- Pieces, one behind the other, from a place to a place. -/
def Chain (l : List Int) : Nat → List (Nat × Nat × Nat) → Nat → Prop
  | pos, [], e => pos = e
  | pos, p :: ps, e => sumN (l.take p.1) + p.2.1 = pos ∧ p.2.1 < p.2.2 ∧ p.1 < l.length ∧ p.2.2 ≤ (l.getD p.1 0).toNat ∧ Chain l (sumN (l.take p.1) + p.2.2) ps e
theorem pieces_chain (l : List Int) : ∀ (n j lo hi : Nat), l.length - j = n → lo ≤ hi → hi ≤ sumN (l.drop j) → Chain l (sumN (l.take j) + lo) (pieces j (l.drop j) lo hi) (sumN (l.take j) + hi) := by
  intro n
  induction n with
  | zero =>
    intro j lo hi hn hle hs
    rw [List.drop_eq_nil_of_le (by omega)] at hs ⊢
    simp only [sumN] at hs
    have : lo = hi := by omega
    subst this
    rfl
  | succ n ih =>
    intro j lo hi hn hle hs
    have hj : j < l.length := by omega
    rw [sumN_drop l j hj] at hs
    have ht := sumN_take l j hj
    rw [List.drop_eq_getElem_cons hj, pieces]
    have hg : l.getD j 0 = l[j] := by simp [hj]
    by_cases h : lo < min l[j].toNat hi
    · rw [if_pos h, List.singleton_append]
      refine ⟨rfl, h, hj, by rw [hg]; exact Nat.min_le_left _ _, ?_⟩
      rcases Nat.lt_or_ge hi l[j].toNat with h2 | h2
      · rw [pieces_none _ _ _ _ (by omega)]
        show sumN (l.take j) + min l[j].toNat hi = sumN (l.take j) + hi
        omega
      · have := ih (j + 1) (lo - l[j].toNat) (hi - l[j].toNat) (by omega) (by omega) (by omega)
        rw [show sumN (l.take (j + 1)) + (lo - l[j].toNat) = sumN (l.take j) + min l[j].toNat hi by omega, show sumN (l.take (j + 1)) + (hi - l[j].toNat) = sumN (l.take j) + hi by omega] at this
        exact this
    · rw [if_neg h, List.nil_append]
      rcases Nat.lt_or_ge lo l[j].toNat with h2 | h2
      · have : lo = hi := by omega
        subst this
        rw [pieces_none _ _ _ _ (by omega)]
        rfl
      · have := ih (j + 1) (lo - l[j].toNat) (hi - l[j].toNat) (by omega) (by omega) (by omega)
        rw [show sumN (l.take (j + 1)) + (lo - l[j].toNat) = sumN (l.take j) + lo by omega, show sumN (l.take (j + 1)) + (hi - l[j].toNat) = sumN (l.take j) + hi by omega] at this
        exact this
theorem row_chain (l : List Int) (k i : Nat) (hi : i < k) : Chain l (lowS l k i) (rowS l k i) (lowS l k (i + 1)) := by
  have := pieces_chain l l.length 0 (lowS l k i) (lowS l k (i + 1)) (by omega) (lowS_le l k i) (by simpa using lowS_top l k (i + 1) (by omega))
  simpa [sumN, rowS] using this
theorem Chain.le {l : List Int} : ∀ {ps : List (Nat × Nat × Nat)} {pos e : Nat}, Chain l pos ps e → pos ≤ e
  | [], _, _, h => Nat.le_of_eq h
  | p :: ps, _, _, ⟨h1, h2, h3, h4, h5⟩ => by have := h5.le; omega
/-- A shard's size. -/
theorem low_step (l : List Int) (k i : Nat) (hk : 0 < k) : sumN l / k ≤ lowS l k (i + 1) - lowS l k i ∧ lowS l k (i + 1) - lowS l k i ≤ sumN l / k + 1 := by
  have e1 := Nat.div_add_mod (i * sumN l) k
  have e2 := Nat.div_add_mod (sumN l) k
  have m1 := Nat.mod_lt (i * sumN l) hk
  have m2 := Nat.mod_lt (sumN l) hk
  have e3 : (i + 1) * sumN l = k * (i * sumN l / k + sumN l / k) + ((i * sumN l) % k + sumN l % k) := by
    rw [Nat.add_mul, Nat.one_mul, Nat.mul_add]; omega
  have e4 : lowS l k (i + 1) = i * sumN l / k + sumN l / k + ((i * sumN l) % k + sumN l % k) / k := by
    rw [lowS, e3, Nat.mul_add_div hk]
  have e5 : ((i * sumN l) % k + sumN l % k) / k < 2 := Nat.div_lt_of_lt_mul (by omega)
  have e6 : lowS l k i = i * sumN l / k := rfl
  rw [e4, e6]
  generalize ((i * sumN l) % k + sumN l % k) / k = g at e5
  generalize i * sumN l / k = x
  generalize sumN l / k = y
  omega
theorem sumN_take_le (l : List Int) (a b : Nat) (h : a ≤ b) : sumN (l.take a) ≤ sumN (l.take b) := by
  have h1 := sumN_take_drop (l.take b) a
  rw [List.take_take, Nat.min_eq_left h] at h1
  omega
/-- A file that is behind the next piece's is used up. -/
theorem chain_up {l : List Int} {file next f a : Nat} (hf : f < l.length) (h : sumN (l.take file) + next = sumN (l.take f) + a) (hlt : file < f) (hn : next ≤ (l.getD file 0).toNat) : next = (l.getD file 0).toNat ∧ sumN (l.take (file + 1)) + 0 = sumN (l.take f) + a := by
  have h1 := sumN_take l file (by omega)
  have h2 := sumN_take_le l (file + 1) f hlt
  have hg : l.getD file 0 = l[file] := by simp [show file < l.length by omega]
  rw [hg] at hn ⊢
  omega
theorem cutBad_of {l : List Int} : ∀ (i : Nat) (n : Int) (hi : i < l.length), (n + sumN (l.take i) ≤ 2147483647) → l[i] > 2147483647 - (n + sumN (l.take i)) → (∀ j, j ≤ i → n + sumN (l.take j) ≤ 2147483647) → cutBad l n = true := by
  induction l with
  | nil => intro i n hi; simp at hi
  | cons c l ih =>
    intro i n hi h1 h2 h3
    rw [cutBad]
    split
    · rfl
    · rename_i hc
      cases i with
      | zero => simp [sumN] at h2; omega
      | succ i =>
        simp only [List.take_succ_cons, sumN, List.getElem_cons_succ] at h1 h2
        have e : ∀ x : Nat, (n + max c 0) + (x : Int) = n + ((c.toNat + x : Nat) : Int) := by intro x; omega
        refine ih i (n + max c 0) (by simpa using hi) (by rw [e]; exact h1) (by rw [e]; exact h2) ?_
        intro j hj
        have := h3 (j + 1) (by omega)
        simp only [List.take_succ_cons, sumN] at this
        rw [e]
        exact this
theorem cutBad_ok {l : List Int} : ∀ (n : Int), 0 ≤ n → n + sumN l ≤ 2147483647 → cutBad l n = false := by
  induction l with
  | nil => intros; rfl
  | cons c l ih =>
    intro n h0 h
    simp only [sumN] at h
    rw [cutBad, if_neg (by omega)]
    exact ih _ (by omega) (by omega)
end Go.AD
