import Derived.Test.YtjgjmpophpifgaaDoorLw2
import Derived.Lib.TrimByte
import Derived.Lib.IndexLaws
import Derived.Lib.IndexMore
import Derived.Lib.IndexBytes
import Derived.Test.YtjgjmpophpifgaaDoorG5
import Derived.Test.YtjgjmpophpifgaaDoorG6
/- input, plain: records and operands. -/
set_option linter.unusedVariables false
set_option linter.unusedSimpArgs false
namespace Go.AD.Lx
/-! ### records that a byte parts -/
def spR (r : UInt8) : Bytes → Nat → Nat → List (Nat × Nat)
  | [], a, i => if a < i then [(a, i)] else []
  | c :: t, a, i => if c = r then (a, i) :: spR r t (i + 1) (i + 1) else spR r t a (i + 1)
theorem spR_none {r : UInt8} : ∀ {t : Bytes}, Lib.indexByte t r = -1 → ∀ a i, spR r t a i = if a < i + t.length then [(a, i + t.length)] else []
  | [], _, a, i => by simp [spR]
  | c :: t, h, a, i => by
    rw [Lib.indexByte] at h
    have hc : ¬ (c == r) = true := by
      intro e; rw [if_pos e] at h; cases h
    rw [if_neg hc] at h
    have hg := Lib.indexByte_ge t r
    have ht : Lib.indexByte t r = -1 := by
      by_cases e : (Lib.indexByte t r == -1) = true
      · simpa using e
      · rw [if_neg e] at h
        omega
    have hc' : ¬ c = r := by simpa using hc
    rw [spR, if_neg hc', spR_none ht]
    have e : i + 1 + t.length = i + (c :: t).length := by simp; omega
    rw [e]
theorem spR_some {r : UInt8} : ∀ {t : Bytes} {n : Nat}, Lib.indexByte t r = (n : Int) → ∀ a i, spR r t a i = (a, i + n) :: spR r (t.drop (n + 1)) (i + n + 1) (i + n + 1)
  | [], n, h, a, i => by rw [Lib.indexByte] at h; omega
  | c :: t, n, h, a, i => by
    rw [Lib.indexByte] at h
    by_cases hc : (c == r) = true
    · rw [if_pos hc] at h
      have hn : n = 0 := by omega
      subst hn
      have hc' : c = r := by simpa using hc
      rw [spR, if_pos hc']
      rfl
    · rw [if_neg hc] at h
      have hc' : ¬ c = r := by simpa using hc
      by_cases e : (Lib.indexByte t r == -1) = true
      · rw [if_pos e] at h; omega
      · rw [if_neg e] at h
        have hg := Lib.indexByte_ge t r
        have hne : Lib.indexByte t r ≠ -1 := by simpa using e
        obtain ⟨m, hm⟩ : ∃ m : Nat, Lib.indexByte t r = (m : Int) := ⟨(Lib.indexByte t r).toNat, by omega⟩
        have hn : n = m + 1 := by omega
        subst hn
        rw [spR, if_neg hc', spR_some hm, List.drop_succ_cons]
        have e1 : i + 1 + m = i + (m + 1) := by omega
        rw [e1]
theorem spR_len {r : UInt8} {t : Bytes} {n : Nat} (h : Lib.indexByte t r = (n : Int)) : n < t.length := by
  have := (Lib.indexByte_some h).1
  exact (List.getElem?_eq_some_iff.1 this).1
theorem spR_in {r : UInt8} : ∀ {t : Bytes} {a i : Nat}, a ≤ i → ∀ p ∈ spR r t a i, p.1 ≤ p.2 ∧ p.2 ≤ i + t.length
  | [], a, i, h, p, hp => by
    rw [spR] at hp
    split at hp
    · have : p = (a, i) := by simpa using hp
      subst this; simp; omega
    · simp at hp
  | c :: t, a, i, h, p, hp => by
    rw [spR] at hp
    simp only [List.length_cons]
    split at hp
    · rcases List.mem_cons.1 hp with rfl | hp
      · simp; omega
      · have := spR_in (Nat.le_refl _) p hp; omega
    · have := spR_in (by omega) p hp; omega
/-! ### records that empty lines part -/
def isNl (c : UInt8) : Bool := c.toNat == 10
abbrev skipN (s : Bytes) : Nat := spanL isNl s
def recL : Bytes → Nat
  | [] => 0
  | c :: t => if c.toNat = 10 ∧ (t = [] ∨ (t.getD 0 0).toNat = 10) then 0 else recL t + 1
def blR : Nat → Bytes → Nat → List (Nat × Nat)
  | 0, _, _ => []
  | f + 1, s, i => if s = [] then [] else (i, i + recL s) :: blR f (s.drop (recL s + skipN (s.drop (recL s)))) (i + recL s + skipN (s.drop (recL s)))
theorem recL_le : ∀ s : Bytes, recL s ≤ s.length
  | [] => Nat.le_refl _
  | c :: t => by
    rw [recL]
    split
    · exact Nat.zero_le _
    · have := recL_le t; simp; omega
theorem blR_in : ∀ {f : Nat} {s : Bytes} {i : Nat}, ∀ p ∈ blR f s i, p.1 ≤ p.2 ∧ p.2 ≤ i + s.length
  | 0, s, i, p, hp => by simp [blR] at hp
  | f + 1, s, i, p, hp => by
    rw [blR] at hp
    split at hp
    · simp at hp
    · have h1 := recL_le s
      rcases List.mem_cons.1 hp with rfl | hp
      · simp; omega
      · have h2 := blR_in p hp
        have h3 := span_le isNl (s.drop (recL s))
        simp only [List.length_drop] at h2 h3
        unfold skipN at h2
        omega
def spansS (s rs : Bytes) : List (Nat × Nat) := if rs = [] then blR (s.length + 1) (s.drop (skipN s)) (skipN s) else spR (rs.getD 0 0) s 0 0
theorem spans_in {s rs : Bytes} : ∀ p ∈ spansS s rs, p.1 ≤ p.2 ∧ p.2 ≤ s.length := by
  intro p hp
  unfold spansS at hp
  split at hp
  · have := blR_in p hp
    have h3 := span_le isNl s
    rw [List.length_drop] at this
    unfold skipN at this
    omega
  · have := spR_in (Nat.le_refl _) p hp
    omega
/-- Does a record end here? -/
def stopN (u : Bytes) (j : Nat) : Prop := j < u.length ∧ (u.getD j 0).toNat = 10 ∧ (j + 1 = u.length ∨ (u.getD (j + 1) 0).toNat = 10)
theorem recL_eq : ∀ {k : Nat} {u : Bytes}, k ≤ u.length → (∀ j, j < k → ¬ stopN u j) → (k = u.length ∨ stopN u k) → recL u = k
  | k, [], h, _, _ => by simp at h; subst h; rfl
  | 0, c :: t, h, _, h2 => by
    rcases h2 with h2 | h2
    · simp at h2
    · obtain ⟨_, h3, h4⟩ := h2
      rw [recL, if_pos]
      refine ⟨h3, ?_⟩
      rcases h4 with h4 | h4
      · left; simp only [List.length_cons] at h4; exact List.eq_nil_of_length_eq_zero (by omega)
      · right; exact h4
  | k + 1, c :: t, h, h1, h2 => by
    have h0 := h1 0 (by omega)
    have hn : ¬ (c.toNat = 10 ∧ (t = [] ∨ (t.getD 0 0).toNat = 10)) := by
      rintro ⟨e1, e2⟩
      apply h0
      refine ⟨by simp, e1, ?_⟩
      rcases e2 with e2 | e2
      · left; subst e2; rfl
      · right; exact e2
    rw [recL, if_neg hn, recL_eq (k := k)]
    · simpa using h
    · intro j hj hs
      refine h1 (j + 1) (by omega) ⟨by have := hs.1; simp; omega, hs.2.1, ?_⟩
      rcases hs.2.2 with e | e
      · left; simp; omega
      · right; exact e
    · rcases h2 with h2 | h2
      · left; simp at h2; exact h2
      · right
        refine ⟨by have := h2.1; simp at this; omega, h2.2.1, ?_⟩
        rcases h2.2.2 with e | e
        · left; simp at e; exact e
        · right; exact e
theorem trimL_skip (s : Bytes) : Lib.trimLeftB s 10 = s.drop (skipN s) := by
  unfold Lib.trimLeftB
  induction s with
  | nil => rfl
  | cons c t ih =>
    have e : (c == (10 : UInt8)) = isNl c := by
      unfold isNl
      rw [Bool.eq_iff_iff, beq_iff_eq, beq_iff_eq]
      exact ⟨fun e => by rw [e]; rfl, fun e => UInt8.toNat_inj.1 e⟩
    rw [List.dropWhile, e]
    cases h : isNl c with
    | true =>
      have : skipN (c :: t) = skipN t + 1 := by unfold skipN; rw [spanL, if_pos h]
      rw [this, List.drop_succ_cons]
      exact ih
    | false =>
      have : skipN (c :: t) = 0 := by unfold skipN; rw [spanL, if_neg (by rw [h]; decide)]
      rw [this]; rfl
/-- Where the last byte that is no line's end stands. -/
theorem trim_end {s : Bytes} : ∀ n, n ≤ s.length → (∀ (j : Nat) b, n ≤ j → s[j]? = some b → b = 10) → ∃ k, k ≤ s.length ∧ (∀ (j : Nat) b, k ≤ j → s[j]? = some b → b = 10) ∧ ∀ b, 0 < k → s[k - 1]? = some b → b ≠ 10
  | 0, h, h1 => ⟨0, h, h1, fun b h => absurd h (Nat.lt_irrefl 0)⟩
  | n + 1, h, h1 => by
    have hn : n < s.length := h
    by_cases e : s[n] = 10
    · refine trim_end n (by omega) ?_
      intro j b hj hb
      rcases Nat.eq_or_lt_of_le hj with rfl | hj
      · rw [List.getElem?_eq_getElem hn] at hb
        cases hb; exact e
      · exact h1 j b hj hb
    · refine ⟨n + 1, h, h1, fun b _ hb => ?_⟩
      rw [Nat.add_sub_cancel, List.getElem?_eq_getElem hn] at hb
      cases hb; exact e
theorem trimR_len (s : Bytes) : ∃ k, (Lib.trimRightB s 10).length = k ∧ k ≤ s.length ∧ (∀ j, k ≤ j → j < s.length → (s.getD j 0).toNat = 10) ∧ (0 < k → (s.getD (k - 1) 0).toNat ≠ 10) := by
  obtain ⟨k, h1, h2, h3⟩ := trim_end (s := s) s.length (Nat.le_refl _) (fun j b hj hb => by
    have := (List.getElem?_eq_some_iff.1 hb).1; omega)
  refine ⟨k, ?_, h1, ?_, ?_⟩
  · rw [Lib.trimRightB_take s 10 k h1 h2 h3, List.length_take]; omega
  · intro j hj hl
    have := h2 j _ hj (List.getElem?_eq_getElem hl)
    rw [List.getD_eq_getElem?_getD, List.getElem?_eq_getElem hl, Option.getD_some, this]; rfl
  · intro hk e
    have hl : k - 1 < s.length := by omega
    refine h3 _ hk (List.getElem?_eq_getElem hl) ?_
    rw [List.getD_eq_getElem?_getD, List.getElem?_eq_getElem hl, Option.getD_some] at e
    exact UInt8.toNat_inj.1 e
theorem occ_nn {v : Bytes} {j : Nat} : Lib.occAt v [10, 10] j = true ↔ j + 1 < v.length ∧ (v.getD j 0).toNat = 10 ∧ (v.getD (j + 1) 0).toNat = 10 := by
  unfold Lib.occAt
  have e8 : ∀ b : UInt8, ((10 : UInt8) == b) = true ↔ b.toNat = 10 := by
    intro b
    rw [beq_iff_eq]
    exact ⟨fun e => by rw [← e]; rfl, fun e => (UInt8.toNat_inj.1 e).symm⟩
  by_cases h : j + 1 < v.length
  · rw [drop_consD (d := 0) (show j < v.length by omega), drop_consD (d := 0) h, List.isPrefixOf, List.isPrefixOf, Bool.and_eq_true, Bool.and_eq_true, e8, e8]
    exact ⟨fun h1 => ⟨h, h1.1, h1.2.1⟩, fun h1 => ⟨h1.2.1, h1.2.2, by simp [List.isPrefixOf]⟩⟩
  · refine ⟨fun h1 => ?_, fun h1 => absurd h1.1 h⟩
    have := (List.isPrefixOf_iff_prefix.1 h1).length_le
    rw [List.length_drop] at this
    simp only [List.length_cons, List.length_nil] at this
    omega
theorem piece_get {s : Bytes} {i e j : Nat} (hj : i + j < e) (he : e ≤ s.length) : ((s.take e).drop i).getD j 0 = s.getD (i + j) 0 := by
  rw [List.getD_eq_getElem?_getD, List.getD_eq_getElem?_getD, List.getElem?_drop, List.getElem?_take, if_pos hj]
theorem piece_len {s : Bytes} {i e : Nat} (he : e ≤ s.length) : ((s.take e).drop i).length = e - i := by
  rw [List.length_drop, List.length_take]; omega
theorem piece_occ {s : Bytes} {i e j : Nat} (he : e ≤ s.length) : Lib.occAt ((s.take e).drop i) [10, 10] j = true ↔ j + 1 < e - i ∧ (s.getD (i + j) 0).toNat = 10 ∧ (s.getD (i + (j + 1)) 0).toNat = 10 := by
  rw [occ_nn, piece_len he]
  constructor
  · intro ⟨h1, h2, h3⟩
    rw [piece_get (by omega) he] at h2 h3
    exact ⟨h1, h2, h3⟩
  · intro ⟨h1, h2, h3⟩
    rw [piece_get (by omega) he, piece_get (by omega) he]
    exact ⟨h1, h2, h3⟩
section
variable {s : Bytes} {e i : Nat} (he : e ≤ s.length) (ht : ∀ j, e ≤ j → j < s.length → (s.getD j 0).toNat = 10) (hl : (s.getD (e - 1) 0).toNat ≠ 10) (hi : i < e)
include he ht hl hi
theorem rec_last (h : Lib.index ((s.take e).drop i) [10, 10] = -1) : recL (s.drop i) = e - i := by
  have hno : ∀ j, Lib.occAt ((s.take e).drop i) [10, 10] j ≠ true := by
    intro j
    rcases Lib.index_spec ((s.take e).drop i) [10, 10] with ⟨_, h2⟩ | ⟨n, h1, _⟩
    · by_cases hj : j ≤ ((s.take e).drop i).length
      · rw [h2 j hj]; decide
      · intro h3
        have := (piece_occ he).1 h3
        rw [piece_len he] at hj
        omega
    · omega
  have hlen : (s.drop i).length = s.length - i := List.length_drop ..
  refine recL_eq (by omega) ?_ ?_
  · rintro j hj ⟨h1, h2, h3⟩
    rw [getD_drop] at h2
    rw [hlen] at h1 h3
    by_cases h4 : j + 1 < e - i
    · rcases h3 with h3 | h3
      · omega
      · rw [getD_drop] at h3
        exact hno j ((piece_occ he).2 ⟨h4, h2, h3⟩)
    · have : i + j = e - 1 := by omega
      rw [this] at h2
      exact hl h2
  · by_cases h4 : e = s.length
    · left; omega
    · right
      refine ⟨by omega, ?_, ?_⟩
      · rw [getD_drop]; exact ht _ (by omega) (by omega)
      · by_cases h5 : e + 1 = s.length
        · left; omega
        · right; rw [getD_drop]; exact ht _ (by omega) (by omega)
omit ht hl in
theorem rec_next {n : Nat} (h : Lib.index ((s.take e).drop i) [10, 10] = (n : Int)) : recL (s.drop i) = n ∧ i + n + 1 < e ∧ (s.getD (i + n) 0).toNat = 10 := by
  rcases Lib.index_spec ((s.take e).drop i) [10, 10] with ⟨h1, _⟩ | ⟨m, h1, _, h3, h4⟩
  · omega
  obtain rfl : m = n := by omega
  have hlen : (s.drop i).length = s.length - i := List.length_drop ..
  have h5 := (piece_occ he).1 h3
  refine ⟨recL_eq (by omega) ?_ ?_, by omega, h5.2.1⟩
  · rintro j hj ⟨k1, k2, k3⟩
    rw [getD_drop] at k2
    rw [hlen] at k1 k3
    rcases k3 with k3 | k3
    · omega
    · rw [getD_drop] at k3
      have := h4 j hj
      rw [(piece_occ he).2 ⟨by omega, k2, k3⟩] at this
      cases this
  · right
    refine ⟨by omega, by rw [getD_drop]; exact h5.2.1, .inr (by rw [getD_drop]; exact h5.2.2)⟩
end
/-- Behind what was skipped. -/
theorem skip_at {s : Bytes} (k : Nat) (h : k + skipN (s.drop k) < s.length) : (s.getD (k + skipN (s.drop k)) 0).toNat ≠ 10 := by
  have h1 : spanL isNl (s.drop (k + skipN (s.drop k))) = 0 := by
    have := span_split (p := isNl) (s := s.drop k) (k := skipN (s.drop k)) (Nat.le_refl _)
    rw [List.drop_drop] at this
    unfold skipN at this ⊢
    omega
  rw [drop_consD (d := 0) h, spanL] at h1
  intro h2
  rw [if_pos (by unfold isNl; rw [h2]; rfl)] at h1
  omega
end Go.AD.Lx

/- input: the library's functions; records' places. -/
set_option linter.unusedVariables false
set_option linter.unusedSimpArgs false
set_option maxRecDepth 100000
namespace Go.AD.Lx
open Go.Proofs RowKit
section
variable {env : Env} {args : List AV} {σ0 σ τ : AS} {K : AV → AS → Prop} {X : PV → AS → Prop}
theorem F_Index : SoundF PS 42 (strT2 fun s t => .pv (.int .i64 (Lib.index s t))) := by
  rintro w0 hS ρ σ w args us K X H hr ⟨s, t, rfl, hs, hK⟩
  obtain ⟨u, us', rfl, hu, hr⟩ := hr.uncons
  obtain ⟨v, us'', rfl, hv, hnil⟩ := hr.uncons
  obtain rfl : us'' = [] := hnil.nil_inv
  rw [relStr hu, relStr hv]
  refine ⟨Tryd.call42 _ w, ?_⟩
  obtain ⟨m, hm⟩ := var0 hS H
  refine (Tryd.strings_Index ⟨s.toArray⟩ ⟨t.toArray⟩ m w (by simp [ByteArray.size]; omega) hm).mono fun e W' ⟨he, hW⟩ => ?_
  subst he hW
  refine ⟨ρ, σ, Gh.le_refl ρ, H, .pv (.int .i64 (Lib.index s t)), ?_, hK⟩
  exact .pv (.int _ _)
/-- What is cut off at an end: one byte. -/
def T_trim (f : List UInt8 → UInt8 → List UInt8) : Tr := fun args σ K _ => ∃ (s : List UInt8) (c : UInt8), args = [.pv (.str s), .pv (.str [c])] ∧ c.toNat < 128 ∧ s.length ≤ 1000000 ∧ K (.pv (.str (f s c))) σ
theorem F_TrimLeft : SoundF PS 41 (T_trim Lib.trimLeftB) := by
  rintro w0 hS ρ σ w args us K X H hr ⟨s, c, rfl, hc, hs, hK⟩
  obtain ⟨u, us', rfl, hu, hr⟩ := hr.uncons
  obtain ⟨v, us'', rfl, hv, hnil⟩ := hr.uncons
  obtain rfl : us'' = [] := hnil.nil_inv
  rw [relStr hu, relStr hv]
  refine ⟨Tryd.call41 _ w, ?_⟩
  refine (Tryd.strings_TrimLeft_one ⟨s.toArray⟩ c hc w).mono fun e W' ⟨he, hW⟩ => ?_
  subst he hW
  exact ⟨ρ, σ, Gh.le_refl ρ, H, .pv (.str (Lib.trimLeftB s c)), .pv (.str _), hK⟩
theorem F_TrimRight : SoundF PS 40 (T_trim Lib.trimRightB) := by
  rintro w0 hS ρ σ w args us K X H hr ⟨s, c, rfl, hc, hs, hK⟩
  obtain ⟨u, us', rfl, hu, hr⟩ := hr.uncons
  obtain ⟨v, us'', rfl, hv, hnil⟩ := hr.uncons
  obtain rfl : us'' = [] := hnil.nil_inv
  rw [relStr hu, relStr hv]
  refine ⟨Tryd.call40 _ w, ?_⟩
  refine (Tryd.strings_TrimRight_one ⟨s.toArray⟩ c hc w (by simp [ByteArray.size]; omega)).mono fun e W' ⟨he, hW⟩ => ?_
  subst he hW
  exact ⟨ρ, σ, Gh.le_refl ρ, H, .pv (.str (Lib.trimRightB s c)), .pv (.str _), hK⟩
def T_Cut : Tr := fun args σ K _ => ∃ s t : List UInt8, args = [.pv (.str s), .pv (.str t)] ∧ s.length ≤ 100000 ∧ K (.tuple [.pv (.str (Lib.cut s t).1), .pv (.str (Lib.cut s t).2.1), .pv (.bool (Lib.cut s t).2.2)]) σ
theorem F_Cut : SoundF PS 25 T_Cut := by
  rintro w0 hS ρ σ w args us K X H hr ⟨s, t, rfl, hs, hK⟩
  obtain ⟨u, us', rfl, hu, hr⟩ := hr.uncons
  obtain ⟨v, us'', rfl, hv, hnil⟩ := hr.uncons
  obtain rfl : us'' = [] := hnil.nil_inv
  rw [relStr hu, relStr hv]
  refine ⟨Tryd.call25 _ w, ?_⟩
  obtain ⟨m, hm⟩ := var0 hS H
  refine (Tryd.strings_Cut ⟨s.toArray⟩ ⟨t.toArray⟩ m w (by simp [ByteArray.size]; omega) hm).mono fun e W' ⟨he, n, hW⟩ => ?_
  subst he hW
  refine ⟨ρ, σ, Gh.le_refl ρ, H.drawn (w.drawn + n), _, ?_, hK⟩
  exact RelV.of_tuple (.cons (.pv (.str _)) (.cons (.pv (.str _)) (.cons (.pv (.bool _)) (.nil ρ))))
/-! ### a row of places -/
def spPV (p : Nat × Nat) : List PV := [.int .i64 (p.1 : Nat), .int .i64 (p.2 : Nat)]
def flatP : List (Nat × Nat) → List PV
  | [] => []
  | t :: l => spPV t ++ flatP l
theorem flatP_app (a b : List (Nat × Nat)) : flatP (a ++ b) = flatP a ++ flatP b := by
  induction a with
  | nil => rfl
  | cons s a ih => simp [flatP, ih]
theorem flatP_len (a : List (Nat × Nat)) : (flatP a).length = a.length * 2 := by
  induction a with
  | nil => rfl
  | cons s a ih => simp [flatP, spPV, ih]; omega
theorem flatP_get : ∀ (l : List (Nat × Nat)) (i : Nat) (h : i < l.length), ((flatP l).drop (i * 2)).take 2 = spPV l[i]
  | s :: l, 0, _ => by simp [flatP, spPV]
  | s :: l, i + 1, h => by
    have : (i + 1) * 2 = i * 2 + 2 := by omega
    rw [this]
    have := flatP_get l i (by simpa using h)
    simpa [flatP, spPV] using this
theorem flatP_at (l : List (Nat × Nat)) (i j : Nat) (h : i < l.length) (hj : j < 2) : (flatP l)[i * 2 + j]? = (spPV l[i])[j]? := by
  rw [← flatP_get l i h, List.getElem?_take, if_pos hj, List.getElem?_drop]
theorem rowTP : RowT PS 23 25 := ⟨T.el23, by rw [T.sz25]; decide, _, T.zo25, by rw [T.sz25]; rfl⟩
theorem bd2 {a b : Int} {K : AV → Prop} : buildD PS 25 [(0, .pv (.int .i64 a)), (1, .pv (.int .i64 b))] K = K (.agg [.pv (.int .i64 a), .pv (.int .i64 b)]) := by
  have hu : PS.underlying 25 = some (.array 2 3) := Tryd.underlying25
  simp [buildD, buildFill, go_sem, T.zo25, hu, T.sz3, T.hT3, T.iS3, AV.cells, AV.cellOk, setAll]
def RowP (v : AV) (L : Objs) (l : List (Nat × Nat)) : Prop := RowV PS 25 v L l.length (flatP l)
theorem ppush {v : AV} {L : Objs} {l : List (Nat × Nat)} (G : RowP v L l) (hS : Sep σ0 σ L) {a b : Nat} (hb : l.length ≤ 1000000) {K : AV → AS → Prop} (hK : ∀ v' L' σ', RowP v' L' (l ++ [(a, b)]) → Sep σ0 σ' L' → K v' σ') :
    buildSliceD PS false σ 23 1 1 [(0, .agg [.pv (.int .i64 (a : Nat)), .pv (.int .i64 (b : Nat))])] fun t τ => appendD PS false τ 23 v t K := by
  have e : AV.agg [.pv (.int .i64 (a : Nat)), .pv (.int .i64 (b : Nat))] = .agg ((spPV (a, b)).map .pv) := rfl
  rw [e, build1 (ys := spPV (a, b)) rowTP T.hT25 (by rw [T.sz25]; rfl) rfl rfl (by rw [T.sz25]; decide)]
  refine G.append (l := []) hS rowTP rfl (by rw [T.sz25]; rfl) (by omega) (by rw [T.by25]; omega) (by omega) ?_
  intro v' L' σ' hR' hS'
  refine hK v' L' σ' ?_ hS'
  unfold RowP
  rw [flatP_app, List.length_append]
  have : flatP [(a, b)] = spPV (a, b) := by simp [flatP]
  rw [this]
  exact hR'
def spV (l : List (Nat × Nat)) : AV := .pv (.lst l.length (flatP l))
theorem index_call (h : env 42 = strT2 fun s t => .pv (.int .i64 (Lib.index s t))) {s t : Bytes} (hs : s.length ≤ 100000) (hK : K (.pv (.int .i64 (Lib.index s t))) σ) : env 42 [.pv (.str s), .pv (.str t)] σ K X := by
  rw [h]; exact ⟨s, t, rfl, hs, hK⟩
def T_blocks : Tr := fun args σ K _ => ∃ s : Bytes, args = [.pv (.str s)] ∧ s.length ≤ 90000 ∧ ∀ σ', σ.sub σ' → K (spV (blR (s.length + 1) (s.drop (skipN s)) (skipN s))) σ'
theorem T_blocks_ok (h1 : env 40 = T_trim Lib.trimRightB) (h2 : env 41 = T_trim Lib.trimLeftB) (h3 : env 42 = strT2 fun s t => .pv (.int .i64 (Lib.index s t))) (h : T_blocks args σ K X) : bodyD PS env an23 Tryd.f23 args σ K X := by
  obtain ⟨s, rfl, hlen, hK⟩ := h
  rw [← S23_eq env, S23, h1]
  refine ⟨s, 10, rfl, by decide, by omega, ?_⟩
  obtain ⟨e, he0, he, ht, hl⟩ := trimR_len s
  have hsk := span_le isNl s
  simp only [lock_eq, go_sem, he0]
  rw [h2]
  refine ⟨s, 10, rfl, by decide, by omega, ?_⟩
  have hA : (s.drop (skipN s)).length = s.length - skipN s := List.length_drop ..
  rw [trimL_skip]
  simp (disch := (unfold skipN at *; omega)) only [lock_eq, go_sem, hA]
  have e1 : s.length - (s.length - skipN s) = skipN s := by unfold skipN at *; omega
  rw [e1]
  generalize hQ : blR (s.length + 1) (s.drop (skipN s)) (skipN s) = Q at hK
  have h0 := skip_at (s := s) 0
  simp only [List.drop_zero, Nat.zero_add] at h0
  refine lp23_4 (fun (a : Nat × List (Nat × Nat) × AV) _ => s.length - a.1) (fun a τ => a.1 ≤ s.length ∧ a.2.1.length ≤ a.1 ∧ (∃ L, RowP a.2.2 L a.2.1 ∧ Sep σ τ L) ∧ (a.1 < s.length → (s.getD a.1 0).toNat ≠ 10) ∧ ∃ n, s.length - a.1 < n ∧ Q = a.2.1 ++ blR n (s.drop a.1) a.1) (fun a => a.2.2) (fun a => .pv (.int .i64 ((a.1 : Nat) : Int))) (skipN s, [], .nilS) ⟨hsk, Nat.zero_le _, ⟨[], RowV.nil PS 25, Sep.start σ⟩, h0, s.length + 1, by simp only; omega, hQ.symm⟩ ?_
  rintro ⟨i, l, v⟩ τ ⟨hi, hll, ⟨L, hR, hS⟩, hne, n, hn, hq⟩
  simp only at hi hll hR hne hn hq
  obtain ⟨n, rfl⟩ : ∃ m, n = m + 1 := ⟨n - 1, by omega⟩
  unfold L23_4
  simp (disch := omega) only [lock_eq, go_sem]
  refine iteI (fun g1 => ?_) (fun g1 => ?_)
  · have hse : ∀ K : AV → Prop, sliceD PS 9 (.pv (.str s)) (some (.pv (.int .i64 (i : Nat)))) (some (.pv (.int .i64 (e : Nat)))) K = K (.pv (.str ((s.take e).drop i))) := fun K => T.sb9 (by omega) he
    rw [hse]
    refine index_call h3 (by rw [piece_len he]; omega) ?_
    have hge := Lib.index_ge ((s.take e).drop i) [10, 10]
    rw [blR, if_neg (drop_ne (show i < s.length by omega))] at hq
    have hle := hl (by omega)
    rcases (show Lib.index ((s.take e).drop i) [10, 10] = -1 ∨ ∃ k : Nat, Lib.index ((s.take e).drop i) [10, 10] = (k : Int) from by
      by_cases h : Lib.index ((s.take e).drop i) [10, 10] = -1
      · exact .inl h
      · exact .inr ⟨(Lib.index ((s.take e).drop i) [10, 10]).toNat, by omega⟩) with hx | ⟨k, hx⟩
    · have hr := rec_last he ht hle g1 hx
      rw [hx]
      have hm : (-1 : Int) < 0 := by decide
      simp only [go_sem, hm, decide_true, if_true, bd2]
      refine ppush hR hS (by omega) ?_
      intro v' L' σ' hR' hS'
      refine retV_pv hR'.toPV ?_
      have hK' := hK σ' hS'.sub
      rw [hq, hr] at hK'
      have e2 : i + (e - i) = e := by omega
      have e3 : (s.drop i).drop (e - i + skipN ((s.drop i).drop (e - i))) = [] := by
        refine List.drop_eq_nil_of_le ?_
        rw [List.length_drop]
        have e4 : (s.drop i).drop (e - i) = s.drop e := by rw [List.drop_drop, e2]
        rw [e4]
        have e5 := skip_at (s := s) e
        by_cases h6 : e + skipN (s.drop e) < s.length
        · exact absurd (ht _ (by omega) h6) (e5 h6)
        · omega
      rw [e3, e2] at hK'
      have e7 : ∀ n j, blR n [] j = [] := by intro n j; cases n <;> simp [blR]
      rw [e7] at hK'
      exact hK'
    · obtain ⟨hr, hk, hk10⟩ := rec_next he g1 hx
      have hk0 : k ≠ 0 := by
        intro h
        subst h
        exact hne (by omega) hk10
      rw [hx]
      have hm : ¬ ((k : Int) < 0) := by omega
      simp (disch := omega) only [go_sem, hm, decide_false, Bool.false_eq_true, if_false, bd2]
      refine ppush hR hS (by omega) ?_
      intro v' L' σ' hR' hS'
      have hsd : ∀ K : AV → Prop, sliceD PS 9 (.pv (.str s)) (some (.pv (.int .i64 ((i + k : Nat) : Int)))) none K = K (.pv (.str (s.drop (i + k)))) := fun K => T.ss9 (by omega)
      simp (disch := omega) only [hsd, go_sem]
      rw [h2]
      refine ⟨_, 10, rfl, by decide, by rw [List.length_drop]; omega, ?_⟩
      rw [trimL_skip]
      have hsk' := span_le isNl (s.drop (i + k))
      have hB : ((s.drop (i + k)).drop (skipN (s.drop (i + k)))).length = (s.drop (i + k)).length - skipN (s.drop (i + k)) := List.length_drop ..
      have hA' : (s.drop (i + k)).length = s.length - (i + k) := List.length_drop ..
      have hsp := skip_at (s := s) (i + k)
      rw [hr] at hq
      have e4 : (s.drop i).drop k = s.drop (i + k) := by rw [List.drop_drop]
      rw [e4] at hq
      rw [List.drop_drop] at hq
      unfold skipN at hq hB hsp ⊢
      generalize spanL isNl (s.drop (i + k)) = q at hq hB hsp hsk' ⊢
      simp (disch := omega) only [go_sem, hB, hA']
      have e5 : i + (k + (s.length - (i + k)) - (s.length - (i + k) - q)) = i + k + q := by omega
      rw [e5]
      refine back (i + k + q, l ++ [(i, i + k)], v') rfl (by simp only; omega) ⟨by simp only; omega, by simp only [List.length_append, List.length_singleton]; omega, ⟨L', hR', hS'⟩, hsp, n, by simp only; omega, ?_⟩
      simp only
      rw [hq]
      have e6 : i + (k + q) = i + k + q := by omega
      rw [e6]
      simp
  · have hd : s.drop i = [] := by
      by_cases h : i < s.length
      · exact absurd (ht i (by omega) h) (hne h)
      · exact List.drop_eq_nil_of_le (by omega)
    rw [hd, blR, if_pos rfl, List.append_nil] at hq
    have hK' := hK τ hS.sub
    rw [hq] at hK'
    exact retV_pv hR.toPV hK'
end
end Go.AD.Lx

/- input: places and records. -/
set_option linter.unusedVariables false
set_option linter.unusedSimpArgs false
set_option maxRecDepth 100000
namespace Go.AD.Lx
open Go.Proofs
section
variable {env : Env} {args : List AV} {σ0 σ τ : AS} {K : AV → AS → Prop} {X : PV → AS → Prop}
def T_spans : Tr := fun args σ K _ => ∃ s rs : Bytes, args = [.pv (.str s), .pv (.str rs)] ∧ s.length ≤ 90000 ∧ ∀ σ', σ.sub σ' → K (spV (spansS s rs)) σ'
theorem ixr0 {rs : Bytes} (h : rs ≠ []) {K : AV → Prop} : indexD PS 9 (.pv (.str rs)) (.pv (.int .i64 0)) K = K (.pv (.int .u8 (rs.getD 0 0).toNat)) := T.is9 (i := 0) (List.length_pos_iff.2 h)
theorem T_iSpans_ok (h1 : env 23 = T_blocks) (h2 : env 24 = T_IndexByte) (h : T_spans args σ K X) : bodyD PS env an10 Tryd.f10 args σ K X := by
  obtain ⟨s, rs, rfl, hlen, hK⟩ := h
  rw [← S10_eq env, S10]
  unfold spansS at hK
  simp only [lock_eq, go_sem, beq_iff_eq]
  refine iteI (fun g0 => ?_) (fun g0 => ?_)
  · rw [if_pos g0] at hK
    rw [h1]
    refine ⟨s, rfl, hlen, fun σ' hs => ?_⟩
    exact retV_self (hK σ' hs)
  rw [if_neg g0] at hK
  generalize hQ : spR (rs.getD 0 0) s 0 0 = Q at hK
  refine lp10_5 (fun (a : Nat × List (Nat × Nat) × AV) _ => s.length - a.1) (fun a τ => a.1 ≤ s.length ∧ a.2.1.length ≤ a.1 ∧ (∃ L, RowP a.2.2 L a.2.1 ∧ Sep σ τ L) ∧ Q = a.2.1 ++ spR (rs.getD 0 0) (s.drop a.1) a.1 a.1) (fun a => a.2.2) (fun a => .pv (.int .i64 ((a.1 : Nat) : Int))) (0, [], .nilS) ⟨Nat.zero_le _, Nat.le_refl _, ⟨[], RowV.nil PS 25, Sep.start σ⟩, hQ.symm⟩ ?_
  rintro ⟨i, l, v⟩ τ ⟨hi, hll, ⟨L, hR, hS⟩, hq⟩
  simp only at hi hll hR hq
  unfold L10_5
  simp (disch := omega) only [lock_eq, go_sem]
  refine iteI (fun g1 => ?_) (fun g1 => ?_)
  · simp (disch := omega) only [T.ss9, ixr0 g0]
    rw [h2]
    refine ⟨_, _, rfl, ?_⟩
    have hge := Lib.indexByte_ge (s.drop i) (rs.getD 0 0)
    rcases (show Lib.indexByte (s.drop i) (rs.getD 0 0) = -1 ∨ ∃ k : Nat, Lib.indexByte (s.drop i) (rs.getD 0 0) = (k : Int) from by
      by_cases h : Lib.indexByte (s.drop i) (rs.getD 0 0) = -1
      · exact .inl h
      · exact .inr ⟨(Lib.indexByte (s.drop i) (rs.getD 0 0)).toNat, by omega⟩) with hx | ⟨k, hx⟩
    · rw [hx]
      rw [spR_none hx, List.length_drop, if_pos (by omega)] at hq
      have hm : (-1 : Int) < 0 := by decide
      simp only [go_sem, hm, decide_true, if_true, bd2]
      refine ppush hR hS (by omega) ?_
      intro v' L' σ' hR' hS'
      refine retV_pv hR'.toPV ?_
      have hK' := hK σ' hS'.sub
      rw [hq] at hK'
      have e1 : i + (s.length - i) = s.length := by omega
      rw [e1] at hK'
      exact hK'
    · have hk := spR_len hx
      rw [List.length_drop] at hk
      rw [hx]
      rw [spR_some hx, List.drop_drop] at hq
      have hm : ¬ ((k : Int) < 0) := by omega
      simp (disch := omega) only [go_sem, hm, decide_false, Bool.false_eq_true, if_false, bd2]
      refine ppush hR hS (by omega) ?_
      intro v' L' σ' hR' hS'
      refine back (i + (k + 1), l ++ [(i, i + k)], v') rfl (by simp only; omega) ⟨by simp only; omega, by simp only [List.length_append, List.length_singleton]; omega, ⟨L', hR', hS'⟩, ?_⟩
      simp only
      rw [hq]
      have e6 : i + k + 1 = i + (k + 1) := by omega
      rw [e6]
      simp
  · rw [List.drop_eq_nil_of_le (by omega), spR, if_neg (Nat.lt_irrefl _), List.append_nil] at hq
    have hK' := hK τ hS.sub
    rw [hq] at hK'
    exact retV_pv hR.toPV hK'
theorem T_xSpans_ok (h : T_spans args σ K X) : bodyD PS env an11 Tryd.f11 args σ K X := by
  obtain ⟨s, rs, rfl, hlen, hK⟩ := h
  rw [← S11_eq env, S11]
  unfold spansS at hK
  simp only [lock_eq, go_sem, bne, Bool.not_eq_true', beq_eq_false_iff_ne, ne_eq]
  refine iteI (fun g0 => ?_) (fun g0 => ?_)
  · rw [if_neg g0] at hK
    generalize hQ : spR (rs.getD 0 0) s 0 0 = Q at hK
    refine lp11_5 (fun (a : Nat × Nat × List (Nat × Nat) × AV) _ => s.length - a.1) (fun a τ => a.1 ≤ s.length ∧ a.2.1 ≤ a.1 ∧ a.2.2.1.length ≤ a.1 ∧ (∃ L, RowP a.2.2.2 L a.2.2.1 ∧ Sep σ τ L) ∧ Q = a.2.2.1 ++ spR (rs.getD 0 0) (s.drop a.1) a.2.1 a.1) (fun a => a.2.2.2) (fun a => .pv (.int .i64 ((a.2.1 : Nat) : Int))) (fun a => .pv (.int .i64 ((a.1 : Nat) : Int))) (0, 0, [], .nilS) ⟨Nat.zero_le _, Nat.le_refl _, Nat.le_refl _, ⟨[], RowV.nil PS 25, Sep.start σ⟩, hQ.symm⟩ ?_
    rintro ⟨i, f, l, v⟩ τ ⟨hi, hf, hll, ⟨L, hR, hS⟩, hq⟩
    simp only at hi hf hll hR hq
    unfold L11_5
    simp (disch := omega) only [lock_eq, go_sem]
    refine iteI (fun g1 => ?_) (fun g1 => ?_)
    · rw [drop_consD (d := 0) g1, spR] at hq
      simp (disch := omega) only [T.is9, ixr0 g0, go_sem, beq_iff_eq, bd2]
      refine iteI (fun g2 => ?_) (fun g2 => ?_)
      · rw [if_pos (UInt8.toNat_inj.1 g2)] at hq
        refine ppush hR hS (by omega) ?_
        intro v' L' σ' hR' hS'
        refine back (i + 1, i + 1, l ++ [(f, i)], v') rfl (by simp only; omega) ⟨g1, Nat.le_refl _, by simp only [List.length_append, List.length_singleton]; omega, ⟨L', hR', hS'⟩, ?_⟩
        simp only
        rw [hq]
        simp
      · rw [if_neg (fun h => g2 (by rw [h]))] at hq
        exact back (i + 1, f, l, v) rfl (by simp only; omega) ⟨g1, by simp only; omega, by simp only; omega, ⟨L, hR, hS⟩, hq⟩
    · have hil : i = s.length := by omega
      rw [List.drop_eq_nil_of_le (by omega), spR] at hq
      refine iteI (fun g2 => ?_) (fun g2 => ?_)
      · rw [if_pos (by omega)] at hq
        simp only [bd2]
        refine ppush hR hS (by omega) ?_
        intro v' L' σ' hR' hS'
        refine retV_pv hR'.toPV ?_
        have hK' := hK σ' hS'.sub
        rw [hq, hil] at hK'
        exact hK'
      · rw [if_neg (by omega), List.append_nil] at hq
        have hK' := hK τ hS.sub
        rw [hq] at hK'
        exact retV_pv hR.toPV hK'
  · have g0 : rs = [] := by
      by_cases h : rs = []
      · exact h
      · exact absurd h g0
    rw [if_pos g0] at hK
    generalize hQ : blR (s.length + 1) (s.drop (skipN s)) (skipN s) = Q at hK
    have hskl := span_le isNl s
    refine lp11_14 (fun (i : Nat) _ => s.length - i) (fun i τ => τ = σ ∧ i ≤ s.length ∧ skipN s = i + skipN (s.drop i)) (fun i => .pv (.int .i64 ((i : Nat) : Int))) 0 ⟨rfl, Nat.zero_le _, by simp⟩ ?_
    rintro i τ ⟨rfl, hi, hsk⟩
    have j16 : skipN (s.drop i) = 0 → J11_16 env (.pv (.str s)) .nilS (.pv (.int .i64 (i : Nat))) τ K X := by
      intro h0
      have h0' : skipN s = i := by omega
      rw [h0'] at hQ
      unfold J11_16
      have hne0 : i < s.length → (s.getD i 0).toNat ≠ 10 := by
        have := skip_at (s := s) i
        rw [h0] at this
        exact this
      refine lp11_16 (fun (a : Nat × List (Nat × Nat) × AV) _ => s.length - a.1) (fun a τ' => a.1 ≤ s.length ∧ a.2.1.length ≤ a.1 ∧ (∃ L, RowP a.2.2 L a.2.1 ∧ Sep τ τ' L) ∧ (a.1 < s.length → (s.getD a.1 0).toNat ≠ 10) ∧ ∃ n, s.length - a.1 < n ∧ Q = a.2.1 ++ blR n (s.drop a.1) a.1) (fun a => a.2.2) (fun a => .pv (.int .i64 ((a.1 : Nat) : Int))) (i, [], .nilS) ⟨hi, Nat.zero_le _, ⟨[], RowV.nil PS 25, Sep.start τ⟩, hne0, s.length + 1, by simp only; omega, hQ.symm⟩ ?_
      rintro ⟨i, l, v⟩ τ1 ⟨hi, hll, ⟨L, hR, hS⟩, hne, n, hn, hq⟩
      simp only at hi hll hR hne hn hq
      obtain ⟨n, rfl⟩ : ∃ m, n = m + 1 := ⟨n - 1, by omega⟩
      unfold L11_16
      simp (disch := omega) only [lock_eq, go_sem]
      refine iteI (fun g1 => ?_) (fun g1 => ?_)
      · rw [blR, if_neg (drop_ne g1)] at hq
        have hrl := recL_le (s.drop i)
        rw [List.length_drop] at hrl
        have hr0 : 0 < recL (s.drop i) := by
          rw [drop_consD (d := 0) g1, recL, if_neg (fun h => hne g1 h.1)]
          omega
        refine lp11_18 (fun (k : Nat) _ => s.length - k) (fun k τ' => τ' = τ1 ∧ i ≤ k ∧ k ≤ s.length ∧ i + recL (s.drop i) = k + recL (s.drop k)) (fun k => .pv (.int .i64 ((k : Nat) : Int))) i ⟨rfl, Nat.le_refl _, by omega, rfl⟩ ?_
        rintro k τ2 ⟨rfl, hk1, hk2, hk3⟩
        have j20 : recL (s.drop k) = 0 → J11_20 env (Inv (fun a : Nat × List (Nat × Nat) × AV => [AV.pv (.str s), a.2.2, .pv (.int .i64 ((a.1 : Nat) : Int))]) (fun a _ => s.length - a.1) (fun a τ' => a.1 ≤ s.length ∧ a.2.1.length ≤ a.1 ∧ (∃ L, RowP a.2.2 L a.2.1 ∧ Sep τ τ' L) ∧ (a.1 < s.length → (s.getD a.1 0).toNat ≠ 10) ∧ ∃ n, s.length - a.1 < n ∧ Q = a.2.1 ++ blR n (s.drop a.1) a.1)) (s.length - i) (.pv (.str s)) v (.pv (.int .i64 (k : Nat))) (.pv (.int .i64 (i : Nat))) τ2 K X := by
          intro hz
          have hkr : i + recL (s.drop i) = k := by omega
          unfold J11_20
          simp only [lock_eq, bd2]
          refine ppush hR hS (by omega) ?_
          intro v' L' σ' hR' hS'
          have e1 : (s.drop i).drop (recL (s.drop i)) = s.drop k := by rw [List.drop_drop, hkr]
          rw [e1, List.drop_drop] at hq
          refine lp11_21 (fun (m : Nat) _ => s.length - m) (fun m τ' => τ' = σ' ∧ k ≤ m ∧ m ≤ s.length ∧ k + skipN (s.drop k) = m + skipN (s.drop m)) (fun m => .pv (.int .i64 ((m : Nat) : Int))) k ⟨rfl, Nat.le_refl _, hk2, rfl⟩ ?_
          rintro m τ3 ⟨rfl, hm1, hm2, hm3⟩
          have fin : skipN (s.drop m) = 0 → ∃ m', m' < s.length - i ∧ Inv (fun a : Nat × List (Nat × Nat) × AV => [AV.pv (.str s), a.2.2, .pv (.int .i64 ((a.1 : Nat) : Int))]) (fun a _ => s.length - a.1) (fun a τ' => a.1 ≤ s.length ∧ a.2.1.length ≤ a.1 ∧ (∃ L, RowP a.2.2 L a.2.1 ∧ Sep τ τ' L) ∧ (a.1 < s.length → (s.getD a.1 0).toNat ≠ 10) ∧ ∃ n, s.length - a.1 < n ∧ Q = a.2.1 ++ blR n (s.drop a.1) a.1) m' [.pv (.str s), v', .pv (.int .i64 (m : Nat))] τ3 := by
            intro hz2
            have hsp := skip_at (s := s) m
            rw [hz2] at hsp
            have e2 : i + (recL (s.drop i) + skipN (s.drop k)) = m := by omega
            have e3 : i + recL (s.drop i) + skipN (s.drop k) = m := by omega
            rw [e2, e3, hkr] at hq
            refine back (m, l ++ [(i, k)], v') rfl (by simp only; omega) ⟨hm2, by simp only [List.length_append, List.length_singleton]; omega, ⟨L', hR', hS'⟩, hsp, n, by simp only; omega, ?_⟩
            simp only
            rw [hq]
            simp
          unfold L11_21
          simp (disch := omega) only [lock_eq, go_sem]
          refine iteI (fun g2 => ?_) (fun g2 => ?_)
          · have hsd := span_drop (p := isNl) g2
            simp (disch := omega) only [T.is9, go_sem, beq_iff_eq]
            refine iteI (fun g3 => ?_) (fun g3 => ?_)
            · rw [if_pos (by unfold isNl; rw [g3]; rfl)] at hsd
              refine back (m + 1) rfl (by omega) ⟨rfl, by omega, g2, ?_⟩
              unfold skipN at *; omega
            · rw [if_neg (by unfold isNl; rw [beq_iff_eq]; exact g3)] at hsd
              exact fin hsd
          · exact fin (by rw [List.drop_eq_nil_of_le (by omega)]; rfl)
        unfold L11_18
        simp (disch := omega) only [lock_eq, go_sem]
        refine iteI (fun g2 => ?_) (fun g2 => ?_)
        · have hrd : recL (s.drop k) = if (s.getD k 0).toNat = 10 ∧ (s.drop (k + 1) = [] ∨ ((s.drop (k + 1)).getD 0 0).toNat = 10) then 0 else recL (s.drop (k + 1)) + 1 := by rw [drop_consD (d := 0) g2, recL]
          have hgd : (s.drop (k + 1)).getD 0 0 = s.getD (k + 1) 0 := by rw [getD_drop]
          rw [hgd] at hrd
          simp (disch := omega) only [T.is9, go_sem, beq_iff_eq]
          refine iteI (fun g3 => ?_) (fun g3 => ?_)
          · refine iteI (fun g4 => ?_) (fun g4 => ?_)
            · rw [if_pos ⟨g3, .inl (List.drop_eq_nil_of_le (by omega))⟩] at hrd
              exact j20 hrd
            · have g4' : k + 1 < s.length := by omega
              simp (disch := omega) only [T.is9, go_sem, Bool.not_eq_true', beq_eq_false_iff_ne, ne_eq]
              refine iteI (fun g5 => ?_) (fun g5 => ?_)
              · rw [if_neg (fun h => by
                  rcases h.2 with h | h
                  · exact drop_ne g4' h
                  · exact g5 h)] at hrd
                exact back (k + 1) rfl (by omega) ⟨rfl, by omega, g2, by omega⟩
              · have g5' : (s.getD (k + 1) 0).toNat = 10 := by
                  by_cases h : (s.getD (k + 1) 0).toNat = 10
                  · exact h
                  · exact absurd h g5
                rw [if_pos ⟨g3, .inr g5'⟩] at hrd
                exact j20 hrd
          · rw [if_neg (fun h => g3 h.1)] at hrd
            exact back (k + 1) rfl (by omega) ⟨rfl, by omega, g2, by omega⟩
        · exact j20 (by rw [List.drop_eq_nil_of_le (by omega)]; rfl)
      · rw [List.drop_eq_nil_of_le (by omega), blR, if_pos rfl, List.append_nil] at hq
        have hK' := hK τ1 hS.sub
        rw [hq] at hK'
        exact retV_pv hR.toPV hK'
    unfold L11_14
    simp (disch := omega) only [lock_eq, go_sem]
    refine iteI (fun g2 => ?_) (fun g2 => ?_)
    · have hsd := span_drop (p := isNl) g2
      simp (disch := omega) only [T.is9, go_sem, beq_iff_eq]
      refine iteI (fun g3 => ?_) (fun g3 => ?_)
      · rw [if_pos (by unfold isNl; rw [g3]; rfl)] at hsd
        refine back (i + 1) rfl (by omega) ⟨rfl, g2, ?_⟩
        unfold skipN at *; omega
      · rw [if_neg (by unfold isNl; rw [beq_iff_eq]; exact g3)] at hsd
        exact j16 hsd
    · exact j16 (by rw [List.drop_eq_nil_of_le (by omega)]; rfl)
end
end Go.AD.Lx

/- input: records. -/
set_option linter.unusedVariables false
set_option linter.unusedSimpArgs false
set_option maxRecDepth 100000
namespace Go.AD.Lx
open Go.Proofs
section
variable {env : Env} {args : List AV} {σ0 σ τ : AS} {K : AV → AS → Prop} {X : PV → AS → Prop}
def cutS (s : Bytes) (p : Nat × Nat) : Bytes := (s.take p.2).drop p.1
def recsS (s rs : Bytes) : List Bytes := (spansS s rs).map (cutS s)
theorem rowTS : RowT PS 27 9 := ⟨T.el27, by rw [T.sz9]; decide, _, T.zo9, by rw [T.sz9]; rfl⟩
def RowS (v : AV) (L : Objs) (l : List Bytes) : Prop := RowV PS 9 v L l.length (l.map .str)
theorem spush {v : AV} {L : Objs} {l : List Bytes} (G : RowS v L l) (hS : Sep σ0 σ L) {x : Bytes} (hb : l.length ≤ 1000000) {K : AV → AS → Prop} (hK : ∀ v' L' σ', RowS v' L' (l ++ [x]) → Sep σ0 σ' L' → K v' σ') :
    buildSliceD PS false σ 27 1 1 [(0, .pv (.str x))] fun t τ => appendD PS false τ 27 v t K := by
  rw [build1 (ys := [.str x]) rowTS T.hT9 (by rw [T.sz9]; rfl) rfl rfl (by rw [T.sz9]; decide)]
  refine G.append (l := []) hS rowTS rfl (by rw [T.sz9]; rfl) (by omega) (by rw [T.by9]; omega) (by omega) ?_
  intro v' L' σ' hR' hS'
  refine hK v' L' σ' ?_ hS'
  unfold RowS
  rw [List.map_append, List.length_append]
  exact hR'
def T_recs : Tr := fun args σ K _ => ∃ s rs : Bytes, args = [.pv (.str s), .pv (.str rs)] ∧ s.length ≤ 90000 ∧ ∀ σ', σ.sub σ' → K (.pv (.lst (recsS s rs).length ((recsS s rs).map .str))) σ'
theorem ixaA {id off : Nat} {k : IntKind} {j : Nat} (h : j < 2) {K : AV → Prop} : indexAddrD PS 25 (.addr id off) (.pv (.int k (j : Nat))) K = K (.addr id (off + j)) := by
  have hu : PS.underlying 25 = some (.array 2 3) := Tryd.underlying25
  simp [indexAddrD, hu, T.iS3, T.sz3]
  exact fun _ => by omega
theorem ixaE {cs : List PV} {off : Nat} {k : IntKind} {j : Nat} (h : j < 2) {K : AV → Prop} : indexAddrD PS 25 (.elemP cs off) (.pv (.int k (j : Nat))) K = K (.elemP cs (off + j)) := by
  have hu : PS.underlying 25 = some (.array 2 3) := Tryd.underlying25
  simp [indexAddrD, hu, T.iS3, T.sz3]
  exact fun _ => by omega
theorem spans_few {s rs : Bytes} : (spansS s rs).length ≤ s.length + 1 := by
  unfold spansS
  split
  · have : ∀ (f : Nat) (s : Bytes) (i : Nat), (blR f s i).length ≤ f := by
      intro f
      induction f with
      | zero => intro s i; simp [blR]
      | succ f ih =>
        intro s i
        rw [blR]
        split
        · simp
        · simp only [List.length_cons]
          have := ih (s.drop (recL s + skipN (s.drop (recL s)))) (i + recL s + skipN (s.drop (recL s)))
          omega
    exact this _ _ _
  · have : ∀ (r : UInt8) (s : Bytes) (a i : Nat), (spR r s a i).length ≤ s.length + 1 := by
      intro r s
      induction s with
      | nil => intro a i; rw [spR]; split <;> simp
      | cons c s ih =>
        intro a i
        rw [spR]
        split
        · have := ih (i + 1) (i + 1); simp only [List.length_cons]; omega
        · have := ih a (i + 1); simp only [List.length_cons]; omega
    exact this _ _ _ _
theorem T_iRecords_ok (h1 : env 10 = T_spans) (h : T_recs args σ K X) : bodyD PS env an13 Tryd.f13 args σ K X := by
  obtain ⟨s, rs, rfl, hlen, hK⟩ := h
  rw [← S13_eq env, S13, h1]
  refine ⟨s, rs, rfl, hlen, fun σ1 hs1 => ?_⟩
  have hfew := spans_few (s := s) (rs := rs)
  have hin := spans_in (s := s) (rs := rs)
  unfold recsS at hK
  generalize spansS s rs = sp at hK hfew hin
  unfold spV
  simp only [lock_eq, go_sem, T.lnl23]
  refine lp13_3 (fun (a : Nat × AV) _ => sp.length - a.1) (fun a τ => a.1 ≤ sp.length ∧ (∃ L, RowS a.2 L ((sp.take a.1).map (cutS s)) ∧ Sep σ1 τ L)) (fun a => a.2) (fun a => .pv (.int .i64 ((a.1 : Nat) : Int))) (0, .nilS) ⟨Nat.zero_le _, [], RowV.nil PS 9, Sep.start σ1⟩ ?_
  rintro ⟨j, v⟩ τ ⟨hj, L, hR, hS⟩
  simp only at hj hR
  unfold L13_3
  simp (disch := omega) only [lock_eq, go_sem]
  refine iteI (fun g1 => ?_) (fun g1 => ?_)
  · have hx : ∀ K : AV → Prop, indexAddrD PS 23 (.pv (.lst sp.length (flatP sp))) (.pv (.int .i64 (j : Nat))) K = K (.elemP (flatP sp) (j * 2)) := fun K => T.ixl23 g1 (flatP_len sp)
    have hld : ∀ K, loadD PS τ 25 (.elemP (flatP sp) (j * 2)) K = K (.agg ((spPV sp[j]).map .pv)) := by
      intro K
      rw [load_elemA T.hT25 T.ag25, T.sz25, flatP_get sp _ g1]
      exact propext ⟨fun h => h.2, fun h => ⟨by rw [flatP_len]; omega, h⟩⟩
    obtain ⟨hp1, hp2⟩ := hin sp[j] (List.getElem_mem _)
    have htk : sp.take (j + 1) = sp.take j ++ [sp[j]] := by rw [List.take_add_one, List.getElem?_eq_getElem g1]; rfl
    simp only [hx, hld]
    generalize sp[j] = p at hp1 hp2 htk
    refine alloc_of T.zo25 rfl ?_
    intro t7 ht7
    have hS1 := hS.alloc ht7 (.cells [.pv (.int .i64 0), .pv (.int .i64 0)] (some 25))
    have hg : (τ.set t7 (.cells [.pv (.int .i64 0), .pv (.int .i64 0)] (some 25))) t7 = some (.cells [.pv (.int .i64 0), .pv (.int .i64 0)] (some 25)) := hS1.get (by simp)
    rw [storeD]
    simp only [hg]
    refine ⟨T.hT25, by rw [T.sz25]; rfl, rfl, by simp [AV.cells, spPV], ?_⟩
    have hS2 := Sep.set1 hS1 (.cells (setAll [.pv (.int .i64 0), .pv (.int .i64 0)] 0 (AV.cells (.agg ((spPV p).map .pv)))) (some 25))
    have hg2 := hS2.get (i := t7) (o := .cells (setAll [.pv (.int .i64 0), .pv (.int .i64 0)] 0 (AV.cells (.agg ((spPV p).map .pv)))) (some 25)) (by simp)
    have hcs : setAll [.pv (.int .i64 0), .pv (.int .i64 0)] 0 (AV.cells (.agg ((spPV p).map .pv))) = [.pv (.int .i64 (p.1 : Nat)), .pv (.int .i64 (p.2 : Nat))] := rfl
    rw [hcs] at hg2 hS2 ⊢
    generalize ((τ.set t7 (.cells [.pv (.int .i64 0), .pv (.int .i64 0)] (some 25))).set t7 (.cells [.pv (.int .i64 (p.1 : Nat)), .pv (.int .i64 (p.2 : Nat))] (some 25))) = σ4 at hg2 hS2 ⊢
    have hi0 : ∀ K : AV → Prop, indexAddrD PS 25 (.addr t7 0) (.pv (.int .i64 0)) K = K (.addr t7 0) := fun K => ixaA (j := 0) (by decide)
    have hi1 : ∀ K : AV → Prop, indexAddrD PS 25 (.addr t7 0) (.pv (.int .i64 1)) K = K (.addr t7 1) := fun K => ixaA (j := 1) (by decide)
    have hsb : ∀ K : AV → Prop, sliceD PS 9 (.pv (.str s)) (some (.pv (.int .i64 (p.1 : Nat)))) (some (.pv (.int .i64 (p.2 : Nat)))) K = K (.pv (.str ((s.take p.2).drop p.1))) := fun K => T.sb9 hp1 hp2
    simp only [hi0, hi1, T.ld3, hg2, ldM_cells, List.getElem?_cons_zero, List.getElem?_cons_succ, someEx, hsb]
    refine spush hR hS2.drop (by rw [List.length_map, List.length_take]; omega) ?_
    intro v' L' σ' hR' hS'
    refine back (j + 1, v') rfl (by simp only; omega) ⟨g1, L', ?_, hS'⟩
    simp only
    rw [htk, List.map_append]
    exact hR'
  · have hK' := hK τ (AS.sub_trans hs1 hS.sub)
    rw [List.take_of_length_le (by omega)] at hR
    exact retV_pv hR.toPV hK'
theorem T_xRecords_ok (h1 : env 11 = T_spans) (h : T_recs args σ K X) : bodyD PS env an14 Tryd.f14 args σ K X := by
  obtain ⟨s, rs, rfl, hlen, hK⟩ := h
  rw [← S14_eq env, S14, h1]
  refine ⟨s, rs, rfl, hlen, fun σ1 hs1 => ?_⟩
  have hfew := spans_few (s := s) (rs := rs)
  have hin := spans_in (s := s) (rs := rs)
  unfold recsS at hK
  generalize spansS s rs = sp at hK hfew hin
  unfold spV
  refine lp14_4 (fun (a : Nat × AV) _ => sp.length - a.1) (fun a τ => a.1 ≤ sp.length ∧ (∃ L, RowS a.2 L ((sp.take a.1).map (cutS s)) ∧ Sep σ1 τ L)) (fun a => a.2) (fun a => .pv (.int .i64 ((a.1 : Nat) : Int))) (0, .nilS) ⟨Nat.zero_le _, [], RowV.nil PS 9, Sep.start σ1⟩ ?_
  rintro ⟨j, v⟩ τ ⟨hj, L, hR, hS⟩
  simp only at hj hR
  unfold L14_4
  simp (disch := omega) only [lock_eq, go_sem, T.lnl23]
  refine iteI (fun g1 => ?_) (fun g1 => ?_)
  · have hx : ∀ K : AV → Prop, indexAddrD PS 23 (.pv (.lst sp.length (flatP sp))) (.pv (.int .i64 (j : Nat))) K = K (.elemP (flatP sp) (j * 2)) := fun K => T.ixl23 g1 (flatP_len sp)
    obtain ⟨hp1, hp2⟩ := hin sp[j] (List.getElem_mem _)
    have htk : sp.take (j + 1) = sp.take j ++ [sp[j]] := by rw [List.take_add_one, List.getElem?_eq_getElem g1]; rfl
    have hc0 : (flatP sp)[j * 2]? = some (.int .i64 (sp[j].1 : Nat)) := flatP_at sp j 0 g1 (by decide)
    have hc1 : (flatP sp)[j * 2 + 1]? = some (.int .i64 (sp[j].2 : Nat)) := flatP_at sp j 1 g1 (by decide)
    generalize sp[j] = p at hp1 hp2 htk hc0 hc1
    have hi0 : ∀ K : AV → Prop, indexAddrD PS 25 (.elemP (flatP sp) (j * 2)) (.pv (.int .i64 0)) K = K (.elemP (flatP sp) (j * 2)) := fun K => ixaE (j := 0) (by decide)
    have hi1 : ∀ K : AV → Prop, indexAddrD PS 25 (.elemP (flatP sp) (j * 2)) (.pv (.int .i64 1)) K = K (.elemP (flatP sp) (j * 2 + 1)) := fun K => ixaE (j := 1) (by decide)
    have hsb : ∀ K : AV → Prop, sliceD PS 9 (.pv (.str s)) (some (.pv (.int .i64 (p.1 : Nat)))) (some (.pv (.int .i64 (p.2 : Nat)))) K = K (.pv (.str ((s.take p.2).drop p.1))) := fun K => T.sb9 hp1 hp2
    simp (disch := omega) only [hx, hi0, hi1, T.le3, hc0, hc1, someEx, hsb, and_true, go_sem]
    have fin : buildSliceD PS false τ 27 1 1 [(0, .pv (.str ((s.take p.2).drop p.1)))] fun t τ => appendD PS false τ 27 v t fun t31 σ6 => ∃ m', m' < sp.length - j ∧ Inv (fun a : Nat × AV => [AV.pv (.str s), a.2, .pv (.lst sp.length (flatP sp)), .pv (.int .i64 ((a.1 : Nat) : Int))]) (fun a _ => sp.length - a.1) (fun a τ => a.1 ≤ sp.length ∧ (∃ L, RowS a.2 L ((sp.take a.1).map (cutS s)) ∧ Sep σ1 τ L)) m' [.pv (.str s), t31, .pv (.lst sp.length (flatP sp)), .pv (.int .i64 ((j + 1 : Nat) : Int))] σ6 := by
      refine spush hR hS (by rw [List.length_map, List.length_take]; omega) ?_
      intro v' L' σ' hR' hS'
      refine back (j + 1, v') rfl (by simp only; omega) ⟨g1, L', ?_, hS'⟩
      simp only
      rw [htk, List.map_append]
      exact hR'
    exact ⟨fin, fin⟩
  · have hK' := hK τ (AS.sub_trans hs1 hS.sub)
    rw [List.take_of_length_le (by omega)] at hR
    exact retV_pv hR.toPV hK'
def T_same10 : Tr := fun args σ K _ => ∃ l : List Bytes, args = [.pv (.lst l.length (l.map .str)), .pv (.lst l.length (l.map .str))] ∧ l.length ≤ 1000000000 ∧ K (.pv (.bool true)) σ
theorem T_same10_ok (h : T_same10 args σ K X) : bodyD PS env an12 Tryd.f12 args σ K X := by
  obtain ⟨l, rfl, hl, hK⟩ := h
  rw [← S12_eq env, S12]
  simp only [lock_eq, go_sem, T.lnl27, bne, beq_self_eq_true, Bool.not_true, Bool.false_eq_true, if_false]
  refine lp12_4 (fun (i : Nat) _ => l.length - i) (fun i τ => τ = σ ∧ i ≤ l.length) (fun i => .pv (.int .i64 i)) 0 ⟨rfl, Nat.zero_le _⟩ ?_
  rintro i τ ⟨rfl, hi⟩
  unfold L12_4
  simp (disch := omega) only [lock_eq, go_sem, T.lnl27]
  refine iteI (fun g1 => ?_) (fun g1 => ?_)
  · have e3 : (l.map PV.str).length = l.length * 1 := by simp
    have hc : (l.map PV.str)[i]? = some (.str (l.getD i [])) := by simp [g1]
    simp (disch := omega) only [T.ixl27, go_sem, hc, Nat.mul_one, bne, beq_self_eq_true, Bool.not_true, Bool.false_eq_true, if_false]
    exact back (i + 1) rfl (by omega) ⟨rfl, g1⟩
  · exact retV_self hK
end
end Go.AD.Lx
