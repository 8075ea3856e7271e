/- octet: a text for a reader, the plain law. -/
import Derived.Test.YtcaidbmopehjhaaO4
set_option linter.unusedVariables false
set_option maxRecDepth 100000
namespace Go.AD
open Go.Proofs
def uPlus (v : Nat) : List UInt8 := [60, 85, 43] ++ hexL v [] ++ [62]
/-- What is shown first, and of how many bytes. -/
def stepS (s : List UInt8) : List UInt8 × Nat :=
  if at0 s 0 = 34 ∨ at0 s 0 = 92 then ([92, s.getD 0 0], 1)
  else if 32 ≤ at0 s 0 ∧ at0 s 0 ≤ 126 then ([s.getD 0 0], 1)
  else if 1 < (firstS s).2 ∧ 160 ≤ (firstS s).1 then (uPlus (firstS s).1, (firstS s).2)
  else (octB (s.getD 0 0), 1)
theorem stepS_pos (s : List UInt8) : 1 ≤ (stepS s).2 := by
  unfold stepS
  repeat' split
  all_goals (first | (simp only; omega) | simp)
def showS (s : List UInt8) : List UInt8 := if h : s = [] then [] else (stepS s).1 ++ showS (s.drop (stepS s).2)
  termination_by s.length
  decreasing_by
    have := stepS_pos s
    have : 0 < s.length := List.length_pos_iff.2 h
    rw [List.length_drop]; omega
theorem showS_nil : showS [] = [] := by rw [showS]; simp
theorem showS_step {s : List UInt8} (h : 0 < s.length) : showS s = (stepS s).1 ++ showS (s.drop (stepS s).2) := by
  rw [showS, dif_neg (by intro e; rw [e] at h; simp at h)]
theorem decS_bd (s : List UInt8) : (decS s).1 ≤ 1114111 ∧ 1 ≤ (decS s).2 ∧ (decS s).2 ≤ 4 ∧ ((decS s).2 ≤ s.length ∨ (decS s).2 = 1) := by
  have b0 := at0_lt s 0; have b1 := at0_lt s 1; have b2 := at0_lt s 2; have b3 := at0_lt s 3
  unfold decS Lib.decodeN
  repeat' split
  all_goals (refine ⟨?_, ?_, ?_, ?_⟩ <;> first | omega | (simp only; omega) | simp)
theorem firstS_bd (s : List UInt8) : (firstS s).1 ≤ 1114111 ∧ (firstS s).2 ≤ 4 ∧ ((firstS s).2 ≤ s.length ∨ (firstS s).2 ≤ 1) := by
  have h := decS_bd s
  unfold firstS
  split
  · simp
  · omega
/-- The three kinds of beginnings. -/
theorem dec_kinds (s : List UInt8) : (at0 s 0 < 128 ∧ decS s = (at0 s 0, 1)) ∨ (128 ≤ at0 s 0 ∧ decS s = (65533, 1)) ∨ (128 ≤ at0 s 0 ∧ 128 ≤ (decS s).1 ∧ 2 ≤ (decS s).2 ∧ ((decS s).1 < 160 → (decS s).2 = 2 ∧ 128 ≤ at0 s 1 ∧ at0 s 1 < 192)) := by
  have b0 := at0_lt s 0; have b1 := at0_lt s 1; have b2 := at0_lt s 2; have b3 := at0_lt s 3
  unfold decS Lib.decodeN
  repeat' split
  all_goals (first | exact .inl ⟨by omega, rfl⟩ | exact .inr (.inl ⟨by omega, rfl⟩) | exact .inr (.inr ⟨by omega, by simp only; omega, by simp only; omega, by intro hh; refine ⟨?_, ?_, ?_⟩ <;> first | rfl | omega | (simp only at hh; omega)⟩))
def fffd : List UInt8 := [239, 191, 189]
theorem hasPre3 (s : List UInt8) : hasPre s fffd = true ↔ 3 ≤ s.length ∧ at0 s 0 = 239 ∧ at0 s 1 = 191 ∧ at0 s 2 = 189 := by
  unfold hasPre fffd at0
  match s with
  | [] => simp
  | [a] => simp
  | [a, b] => simp
  | a :: b :: c :: r =>
    simp [← UInt8.toNat_inj]
theorem dec_fffd (s : List UInt8) (h : hasPre s fffd = true) : decS s = (65533, 3) := by
  obtain ⟨h0, h1, h2, h3⟩ := (hasPre3 s).1 h
  unfold decS
  rw [h1, h2, h3]
  unfold Lib.decodeN
  rw [if_neg (by omega), if_neg (by omega), if_pos (by omega), if_pos (by omega)]
theorem dec_not_fffd (s : List UInt8) (h : ¬ hasPre s fffd = true) (h1 : (decS s).1 = 65533) : (decS s).2 = 1 := by
  rw [hasPre3] at h
  have b0 := at0_lt s 0; have b1 := at0_lt s 1; have b2 := at0_lt s 2; have b3 := at0_lt s 3
  revert h1
  unfold decS Lib.decodeN
  repeat' split
  all_goals (intro h1; first | rfl | (simp only at h1; omega))
/-! ### what is shown, by what was decoded -/
section
variable {s : List UInt8} (hs : 0 < s.length)
include hs
theorem show_quote (h : (decS s).1 = 34 ∨ (decS s).1 = 92) : showS s = [92, UInt8.ofNat (decS s).1] ++ showS (s.drop (decS s).2) := by
  have e : decS s = (at0 s 0, 1) := by
    rcases dec_kinds s with ⟨_, e⟩ | ⟨_, e⟩ | ⟨h1, h2, _⟩
    · exact e
    · rw [e] at h; simp at h
    · omega
  rw [e] at h ⊢
  rw [showS_step hs]
  have : stepS s = ([92, s.getD 0 0], 1) := by unfold stepS; rw [if_pos h]
  rw [this]
  simp [at0]
theorem show_plain (h : 32 ≤ (decS s).1) (h' : (decS s).1 ≤ 126) (hn : ¬ ((decS s).1 = 34 ∨ (decS s).1 = 92)) : showS s = [UInt8.ofNat (decS s).1] ++ showS (s.drop (decS s).2) := by
  have e : decS s = (at0 s 0, 1) := by
    rcases dec_kinds s with ⟨_, e⟩ | ⟨_, e⟩ | ⟨h1, h2, _⟩
    · exact e
    · rw [e] at h'; simp at h'
    · omega
  rw [e] at h h' hn ⊢
  rw [showS_step hs]
  have : stepS s = ([s.getD 0 0], 1) := by unfold stepS; rw [if_neg hn, if_pos ⟨h, h'⟩]
  rw [this]
  simp [at0]
theorem show_wrong (h : (decS s).1 = 65533) (hn : ¬ hasPre s fffd = true) : showS s = octB (s.getD 0 0) ++ showS (s.drop (decS s).2) := by
  have e1 := dec_not_fffd s hn h
  have hb : 128 ≤ at0 s 0 := by
    rcases dec_kinds s with ⟨h1, e⟩ | ⟨h1, e⟩ | ⟨h1, _⟩
    · rw [e] at h; simp at h; omega
    · exact h1
    · exact h1
  have hf : firstS s = (0, 0) := by unfold firstS; rw [if_pos ⟨hb, e1⟩]
  rw [showS_step hs, e1]
  have : stepS s = (octB (s.getD 0 0), 1) := by unfold stepS; rw [if_neg (by omega), if_neg (by omega), hf, if_neg (by simp)]
  rw [this]
theorem show_num (h : 160 ≤ (decS s).1) (hw : ¬ ((decS s).1 = 65533 ∧ ¬ hasPre s fffd = true)) : showS s = uPlus (decS s).1 ++ showS (s.drop (decS s).2) := by
  have hb : 128 ≤ at0 s 0 ∧ 2 ≤ (decS s).2 := by
    rcases dec_kinds s with ⟨h1, e⟩ | ⟨h1, e⟩ | ⟨h1, h2, h3, _⟩
    · rw [e] at h; simp at h; omega
    · by_cases hp : hasPre s fffd = true
      · rw [dec_fffd s hp] at e; simp at e
      · exact absurd ⟨by rw [e], hp⟩ hw
    · exact ⟨h1, h3⟩
  have hf : firstS s = decS s := by unfold firstS; rw [if_neg (by omega)]
  rw [showS_step hs]
  have : stepS s = (uPlus (decS s).1, (decS s).2) := by unfold stepS; rw [if_neg (by omega), if_neg (by omega), hf, if_pos (by omega)]
  rw [this]
/-- Bytes in base 8: as many as the rune has. -/
theorem show_oct (h : (decS s).1 < 160) (h1 : ¬ ((decS s).1 = 34 ∨ (decS s).1 = 92)) (h2 : ¬ (32 ≤ (decS s).1 ∧ (decS s).1 ≤ 126)) :
    ((decS s).1 < 128 ∧ (decS s).2 = 1 ∧ showS s = octB (s.getD 0 0) ++ showS (s.drop (decS s).2)) ∨ (128 ≤ (decS s).1 ∧ (decS s).2 = 2 ∧ 2 ≤ s.length ∧ showS s = octB (s.getD 0 0) ++ (octB (s.getD 1 0) ++ showS (s.drop (decS s).2))) := by
  rcases dec_kinds s with ⟨h3, e⟩ | ⟨h3, e⟩ | ⟨h3, h4, h5, h6⟩
  · left
    have hf : firstS s = (at0 s 0, 1) := first1 s h3
    rw [e] at h h1 h2 ⊢
    refine ⟨h3, rfl, ?_⟩
    rw [showS_step hs]
    have : stepS s = (octB (s.getD 0 0), 1) := by unfold stepS; rw [if_neg h1, if_neg h2, hf, if_neg (by simp)]
    rw [this]
  · rw [e] at h; simp at h
  · right
    obtain ⟨e2, c1, c2⟩ := h6 h
    have hl : 2 ≤ s.length := by have := decS_bd s; omega
    have hf : firstS s = decS s := by unfold firstS; rw [if_neg (by omega)]
    refine ⟨h4, e2, hl, ?_⟩
    have s1 : stepS s = (octB (s.getD 0 0), 1) := by unfold stepS; rw [if_neg (by omega), if_neg (by omega), hf, if_neg (by omega)]
    have a1 : at0 (s.drop 1) 0 = at0 s 1 := by simp [at0]
    have f1 : firstS (s.drop 1) = (0, 0) := first0 _ (by omega) (by omega)
    have s2 : stepS (s.drop 1) = (octB ((s.drop 1).getD 0 0), 1) := by unfold stepS; rw [if_neg (by omega), if_neg (by omega), f1, if_neg (by simp)]
    rw [showS_step hs, s1, showS_step (s := s.drop 1) (by rw [List.length_drop]; omega), s2, e2]
    simp
end
theorem hexL_len (v : Nat) (s : List UInt8) : (hexL v s).length ≤ s.length + v + (4 - s.length) := by
  induction v, s using hexL.induct with
  | case1 v s h ih =>
    rw [hexL_go h]
    simp only [List.length_cons] at ih
    omega
  | case2 v s h => rw [hexL_end h]; omega
theorem uPlus_len (v : Nat) : (uPlus v).length ≤ v + 8 := by
  have := hexL_len v []
  simp [uPlus] at this ⊢
  omega
theorem octB_len (c : UInt8) : (octB c).length = 4 := rfl
theorem decAt (s : List UInt8) (i : Nat) : Utf8.decode ⟨s.toArray⟩ i = decS (s.drop i) := by
  have g : ∀ k, (ByteArray.get! ⟨s.toArray⟩ (i + k)).toNat = at0 (s.drop i) k := by
    intro k
    unfold at0
    show (s.toArray[i + k]!).toNat = _
    simp [List.getD_eq_getElem?_getD, getElem!_def]
    cases s[i + k]? <;> rfl
  rw [Lib.decode_at, decS]
  have g0 := g 0
  rw [Nat.add_zero] at g0
  rw [g0, g, g, g]
  congr 1
  simp [ByteArray.size]
end Go.AD
