/- octet: plain laws. -/
import Derived.Test.YtcaidbmopehjhaaO8
import Derived.Lib.IndexMore
set_option linter.unusedVariables false
set_option maxRecDepth 100000
namespace Go.AD
open Go.Proofs
theorem up_low1 (c : UInt8) : upB (lowB c) = upB c := by revert c; exact allU8 (by decide +kernel)
theorem up_low (s : List UInt8) : (s.map lowB).map upB = s.map upB := by
  rw [List.map_map]
  apply List.map_congr_left
  intro c _
  exact up_low1 c
theorem cut_parts (s : List UInt8) (k : Nat) (hk : k ≤ s.length) : cutS s 1 k ++ cutS s (k + 1 : Nat) s.length = s := by
  unfold cutS
  rw [show (1 + (k : Int) - 1).toNat = k by omega, show ((1 : Int) - 1).toNat = 0 by omega, show (((k + 1 : Nat) : Int) - 1).toNat = k by omega, List.drop_zero, List.take_of_length_le (i := (((k + 1 : Nat) : Int) + s.length - 1).toNat) (by omega), List.take_append_drop]
theorem cut_zero (s : List UInt8) (a : Int) : cutS s a 0 = [] := by
  unfold cutS
  apply List.drop_eq_nil_of_le
  rw [List.length_take]
  omega
/-! ### what is shown may be read -/
def plainB (c : UInt8) : Bool := decide (32 ≤ c.toNat) && decide (c.toNat ≤ 126)
theorem oct_plain (c : UInt8) : (octB c).all plainB = true := by revert c; exact allU8 (by decide +kernel)
theorem dig_plain (n : Nat) (h : n < 16) : plainB (dig16.getD n 0) = true := by revert n; decide +kernel
theorem hexL_plain (v : Nat) (s : List UInt8) (h : s.all plainB = true) : (hexL v s).all plainB = true := by
  induction v, s using hexL.induct with
  | case1 v s hg ih =>
    rw [hexL_go hg]
    exact ih (by rw [List.all_cons, dig_plain _ (by omega), h]; rfl)
  | case2 v s hg => rw [hexL_end hg]; exact h
theorem uPlus_plain (v : Nat) : (uPlus v).all plainB = true := by
  unfold uPlus
  rw [List.all_append, List.all_append, hexL_plain v [] rfl]
  decide
theorem step_plain (s : List UInt8) : (stepS s).1.all plainB = true := by
  unfold stepS
  split
  · rename_i h
    have : plainB (s.getD 0 0) = true := by unfold plainB; unfold at0 at h; simp only [Bool.and_eq_true, decide_eq_true_eq]; omega
    simp only [List.all_cons, this]; decide
  split
  · rename_i h
    have : plainB (s.getD 0 0) = true := by unfold plainB; unfold at0 at h; simp only [Bool.and_eq_true, decide_eq_true_eq]; omega
    simp only [List.all_cons, this]; decide
  split
  · exact uPlus_plain _
  · exact oct_plain _
theorem show_plain_all (n : Nat) : ∀ s : List UInt8, s.length ≤ n → (showS s).all plainB = true := by
  induction n with
  | zero =>
    intro s h
    obtain rfl : s = [] := List.eq_nil_of_length_eq_zero (by omega)
    rw [showS_nil]; rfl
  | succ n ih =>
    intro s h
    rcases Nat.eq_zero_or_pos s.length with h0 | h0
    · obtain rfl : s = [] := List.eq_nil_of_length_eq_zero h0
      rw [showS_nil]; rfl
    · have := stepS_pos s
      rw [showS_step h0, List.all_append, step_plain, ih _ (by rw [List.length_drop]; omega)]; rfl
/-! ### unlike texts -/
def octV (a b c : UInt8) : UInt8 := (a - (48 : UInt8)) * (64 : UInt8) + (b - (48 : UInt8)) * (8 : UInt8) + (c - (48 : UInt8))
theorem oct_back (c : UInt8) : octV (o1 c) (o2 c) (o3 c) = c := by revert c; exact allU8 (by decide +kernel)
theorem o1_bd (c : UInt8) : (o1 c).toNat ≤ 51 := by revert c; exact allU8 (by decide +kernel)
theorem o1_ge (c : UInt8) : 48 ≤ (o1 c).toNat := by revert c; exact allU8 (by decide +kernel)
theorem oct_inj {c d : UInt8} {r q : List UInt8} (h : octB c ++ r = octB d ++ q) : c = d ∧ r = q := by
  unfold octB at h
  simp only [List.cons_append, List.nil_append, List.cons.injEq, true_and] at h
  obtain ⟨h1, h2, h3, h4⟩ := h
  exact ⟨by rw [← oct_back c, ← oct_back d, h1, h2, h3], h4⟩
def unhex (l : List UInt8) : Nat := l.foldl (fun v c => v * 16 + (if c.toNat < 65 then c.toNat - 48 else c.toNat - 55)) 0
theorem undig (n : Nat) (h : n < 16) : (if (dig16.getD n 0).toNat < 65 then (dig16.getD n 0).toNat - 48 else (dig16.getD n 0).toNat - 55) = n := by revert n; decide +kernel
def unhexF (v : Nat) (l : List UInt8) : Nat := l.foldl (fun v c => v * 16 + (if c.toNat < 65 then c.toNat - 48 else c.toNat - 55)) v
theorem unhex_hexL (v : Nat) (s : List UInt8) : unhexF 0 (hexL v s) = unhexF v s := by
  induction v, s using hexL.induct with
  | case1 v s hg ih =>
    rw [hexL_go hg, ih]
    unfold unhexF
    rw [List.foldl_cons, undig _ (by omega)]
    congr 1
    omega
  | case2 v s hg =>
    rw [hexL_end hg]
    have : v = 0 := by omega
    rw [this]
theorem hexL_inj {v w : Nat} (h : hexL v [] = hexL w []) : v = w := by
  have := unhex_hexL v []
  rw [h, unhex_hexL] at this
  exact this.symm
theorem dig_62 (n : Nat) (h : n < 16) : dig16.getD n 0 ≠ 62 := by revert n; decide +kernel
theorem hexL_62 (v : Nat) (s : List UInt8) (h : 62 ∉ s) : 62 ∉ hexL v s := by
  induction v, s using hexL.induct with
  | case1 v s hg ih =>
    rw [hexL_go hg]
    apply ih
    intro hm
    rcases List.mem_cons.1 hm with e | e
    · exact dig_62 _ (by omega) e.symm
    · exact h e
  | case2 v s hg => rw [hexL_end hg]; exact h
theorem split_at {a b : List UInt8} {c : UInt8} {r q : List UInt8} (ha : c ∉ a) (hb : c ∉ b) (h : a ++ [c] ++ r = b ++ [c] ++ q) : a = b ∧ r = q := by
  induction a generalizing b with
  | nil =>
    cases b with
    | nil => simpa using h
    | cons y b =>
      simp only [List.nil_append, List.cons_append, List.cons.injEq] at h
      exact absurd (by rw [← h.1]; simp) hb
  | cons x a ih =>
    cases b with
    | nil =>
      simp only [List.nil_append, List.cons_append, List.cons.injEq] at h
      exact absurd (by rw [h.1]; simp) ha
    | cons y b =>
      simp only [List.cons_append, List.cons.injEq] at h
      have := ih (fun m => ha (by simp [m])) (fun m => hb (by simp [m])) h.2
      exact ⟨by rw [h.1, this.1], this.2⟩
theorem uPlus_inj {v w : Nat} {r q : List UInt8} (h : uPlus v ++ r = uPlus w ++ q) : v = w ∧ r = q := by
  unfold uPlus at h
  simp only [List.append_assoc, List.cons_append, List.nil_append, List.cons.injEq, true_and] at h
  have h' : hexL v [] ++ [62] ++ r = hexL w [] ++ [62] ++ q := by simpa using h
  have := split_at (hexL_62 v [] (by simp)) (hexL_62 w [] (by simp)) h'
  exact ⟨hexL_inj this.1, this.2⟩
/-- The encoding of a number is its own. -/
theorem first_inj {s t : List UInt8} (h1 : 1 < (firstS s).2) (h2 : 1 < (firstS t).2) (h : (firstS s).1 = (firstS t).1) : (firstS s).2 = (firstS t).2 ∧ s.take (firstS s).2 = t.take (firstS t).2 := by
  have e1 : firstS s = decS s := by
    unfold firstS at h1 ⊢
    split
    · rename_i hc; rw [if_pos hc] at h1; simp at h1
    · rfl
  have e2 : firstS t = decS t := by
    unfold firstS at h2 ⊢
    split
    · rename_i hc; rw [if_pos hc] at h2; simp at h2
    · rfl
  rw [e1] at h1 h ⊢
  rw [e2] at h2 h ⊢
  have key : (decS s).2 = (decS t).2 ∧ (decS s).2 ≤ s.length ∧ (decS s).2 ≤ t.length ∧ ∀ i, i < (decS s).2 → at0 s i = at0 t i := by
    have b0 := at0_lt s 0; have b1 := at0_lt s 1; have b2 := at0_lt s 2; have b3 := at0_lt s 3
    have c0 := at0_lt t 0; have c1 := at0_lt t 1; have c2 := at0_lt t 2; have c3 := at0_lt t 3
    have q : ∀ n, (n = 2 ∨ n = 3 ∨ n = 4) → (at0 s 0 = at0 t 0 ∧ at0 s 1 = at0 t 1 ∧ (3 ≤ n → at0 s 2 = at0 t 2) ∧ (4 ≤ n → at0 s 3 = at0 t 3)) → ∀ i, i < n → at0 s i = at0 t i := by
      rintro n hn ⟨k0, k1, k2, k3⟩ i hi
      have : i = 0 ∨ i = 1 ∨ i = 2 ∨ i = 3 := by omega
      rcases this with rfl | rfl | rfl | rfl
      · exact k0
      · exact k1
      · exact k2 (by omega)
      · exact k3 (by omega)
    revert h1 h2 h
    unfold decS Lib.decodeN
    split
    · intro h1; simp at h1
    split
    · split
      · split
        · intro _ h2; simp at h2
        split
        · split
          · intro _ _ h; simp only at h ⊢; exact ⟨trivial, by omega, by omega, q 2 (by omega) (by omega)⟩
          · intro _ h2; simp at h2
        split
        · split
          · intro _ _ h; simp only at h; exfalso; omega
          · intro _ h2; simp at h2
        split
        · split
          · intro _ _ h; simp only at h; exfalso; omega
          · intro _ h2; simp at h2
        · intro _ h2; simp at h2
      · intro h1; simp at h1
    split
    · split
      · split
        · intro _ h2; simp at h2
        split
        · split
          · intro _ _ h; simp only at h; exfalso; omega
          · intro _ h2; simp at h2
        split
        · split
          · intro _ _ h; simp only at h ⊢; exact ⟨trivial, by omega, by omega, q 3 (by omega) (by omega)⟩
          · intro _ h2; simp at h2
        split
        · split
          · intro _ _ h; simp only at h; exfalso; omega
          · intro _ h2; simp at h2
        · intro _ h2; simp at h2
      · intro h1; simp at h1
    split
    · split
      · split
        · intro _ h2; simp at h2
        split
        · split
          · intro _ _ h; simp only at h; exfalso; omega
          · intro _ h2; simp at h2
        split
        · split
          · intro _ _ h; simp only at h; exfalso; omega
          · intro _ h2; simp at h2
        split
        · split
          · intro _ _ h; simp only at h ⊢; exact ⟨trivial, by omega, by omega, q 4 (by omega) (by omega)⟩
          · intro _ h2; simp at h2
        · intro _ h2; simp at h2
      · intro h1; simp at h1
    · intro h1; simp at h1
  obtain ⟨k1, k2, k3, k4⟩ := key
  refine ⟨k1, ?_⟩
  rw [← k1]
  apply List.ext_getElem
  · rw [List.length_take, List.length_take]; omega
  · intro i h5 h6
    rw [List.length_take] at h5 h6
    have := k4 i (by omega)
    unfold at0 at this
    rw [List.getElem_take, List.getElem_take]
    have := UInt8.toNat_inj.1 this
    simpa [show i < s.length by omega, show i < t.length by omega] using this
/-- What the first piece is, by kinds. -/
theorem step_kinds (s : List UInt8) (h0 : 0 < s.length) (h : 60 ∉ s) :
    (∃ c, (c = 34 ∨ c = 92) ∧ stepS s = ([92, c], 1) ∧ s.take 1 = [c]) ∨ (∃ c : UInt8, c ≠ 92 ∧ c ≠ 60 ∧ stepS s = ([c], 1) ∧ s.take 1 = [c]) ∨ (∃ v n, stepS s = (uPlus v, n) ∧ firstS s = (v, n) ∧ 1 < n) ∨ (∃ c, stepS s = (octB c, 1) ∧ s.take 1 = [c]) := by
  have ht : s.take 1 = [s.getD 0 0] := by
    cases s with
    | nil => simp at h0
    | cons a l => rfl
  have hm : s.getD 0 0 ∈ s := by
    cases s with
    | nil => simp at h0
    | cons a l => simp
  unfold stepS
  split
  · rename_i h1
    refine .inl ⟨_, ?_, rfl, ht⟩
    unfold at0 at h1
    rcases h1 with h1 | h1
    · exact .inl (UInt8.toNat_inj.1 h1)
    · exact .inr (UInt8.toNat_inj.1 h1)
  split
  · rename_i h1 h2
    refine .inr (.inl ⟨_, ?_, ?_, rfl, ht⟩)
    · intro e; apply h1; right; unfold at0; rw [e]; rfl
    · intro e; rw [e] at hm; exact h hm
  split
  · rename_i h1 h2 h3
    exact .inr (.inr (.inl ⟨_, _, rfl, rfl, h3.1⟩))
  · exact .inr (.inr (.inr ⟨_, rfl, ht⟩))
theorem oct_head (c : UInt8) (r : List UInt8) : octB c ++ r = 92 :: o1 c :: o2 c :: o3 c :: r := rfl
theorem show_inj (n : Nat) : ∀ s t : List UInt8, s.length ≤ n → 60 ∉ s → 60 ∉ t → showS s = showS t → s = t := by
  have pos : ∀ s : List UInt8, 0 < s.length → showS s ≠ [] := by
    intro s h e
    rw [showS_step h] at e
    have e' := List.append_eq_nil_iff.1 e
    have := e'.1
    unfold stepS at this
    repeat' split at this
    all_goals simp [uPlus, octB] at this
  induction n with
  | zero =>
    intro s t h h1 h2 he
    have hs : s = [] := List.eq_nil_of_length_eq_zero (by omega)
    subst hs
    rcases Nat.eq_zero_or_pos t.length with h3 | h3
    · exact (List.eq_nil_of_length_eq_zero h3).symm
    · rw [showS_nil] at he
      exact absurd he.symm (pos t h3)
  | succ n ih =>
    intro s t h h1 h2 he
    rcases Nat.eq_zero_or_pos s.length with h3 | h3
    · have hs : s = [] := List.eq_nil_of_length_eq_zero (by omega)
      subst hs
      rcases Nat.eq_zero_or_pos t.length with h3 | h3
      · exact (List.eq_nil_of_length_eq_zero h3).symm
      · rw [showS_nil] at he
        exact absurd he.symm (pos t h3)
    rcases Nat.eq_zero_or_pos t.length with h4 | h4
    · have ht : t = [] := List.eq_nil_of_length_eq_zero (by omega)
      subst ht
      rw [showS_nil] at he
      exact absurd he (pos s h3)
    rw [showS_step h3, showS_step h4] at he
    have fin : ∀ m, 1 ≤ m → s.take m = t.take m → showS (s.drop m) = showS (t.drop m) → s = t := by
      intro m hm e1 e2
      have := ih (s.drop m) (t.drop m) (by rw [List.length_drop]; omega) (fun hh => h1 (List.mem_of_mem_drop hh)) (fun hh => h2 (List.mem_of_mem_drop hh)) e2
      rw [← List.take_append_drop m s, e1, this, List.take_append_drop]
    rcases step_kinds s h3 h1 with ⟨c, hc, e1, e2⟩ | ⟨c, hc, hc6, e1, e2⟩ | ⟨v, k, e1, e2, e3⟩ | ⟨c, e1, e2⟩ <;>
      rcases step_kinds t h4 h2 with ⟨d, hd, f1, f2⟩ | ⟨d, hd, hd6, f1, f2⟩ | ⟨w, l, f1, f2, f3⟩ | ⟨d, f1, f2⟩ <;> rw [e1, f1] at he
    · simp only [List.cons_append, List.nil_append, List.cons.injEq, true_and] at he
      exact fin 1 (by omega) (by rw [e2, f2, he.1]) he.2
    · simp only [List.cons_append, List.nil_append, List.cons.injEq] at he
      exact absurd he.1.symm hd
    · simp only [uPlus, List.cons_append, List.nil_append, List.cons.injEq] at he
      exact absurd he.1 (by decide)
    · rw [oct_head] at he
      simp only [List.cons_append, List.nil_append, List.cons.injEq, true_and] at he
      have := o1_bd d
      rw [← he.1] at this
      rcases hc with rfl | rfl
      · have hb : 48 ≤ (o1 d).toNat := o1_ge d
        rw [← he.1] at hb
        exact absurd hb (by decide)
      · exact absurd this (by decide)
    · simp only [List.cons_append, List.nil_append, List.cons.injEq] at he
      exact absurd he.1 hc
    · simp only [List.cons_append, List.nil_append, List.cons.injEq] at he
      exact fin 1 (by omega) (by rw [e2, f2, he.1]) he.2
    · simp only [uPlus, List.cons_append, List.nil_append, List.cons.injEq] at he
      exact absurd he.1 hc6
    · rw [oct_head] at he
      simp only [List.cons_append, List.nil_append, List.cons.injEq] at he
      exact absurd he.1 hc
    · simp only [uPlus, List.cons_append, List.nil_append, List.cons.injEq] at he
      exact absurd he.1 (by decide)
    · simp only [uPlus, List.cons_append, List.nil_append, List.cons.injEq] at he
      exact absurd he.1.symm hd6
    · obtain ⟨g1, g2⟩ := uPlus_inj he
      have hfi := first_inj (s := s) (t := t) (by rw [e2]; exact e3) (by rw [f2]; exact f3) (by rw [e2, f2]; exact g1)
      rw [e2, f2] at hfi
      simp only at hfi g2
      obtain ⟨rfl, g3⟩ := hfi
      exact fin k (by omega) g3 g2
    · rw [oct_head] at he
      simp only [uPlus, List.cons_append, List.nil_append, List.cons.injEq] at he
      exact absurd he.1 (by decide)
    · rw [oct_head] at he
      simp only [List.cons_append, List.nil_append, List.cons.injEq, true_and] at he
      have := o1_bd c
      rw [he.1] at this
      rcases hd with rfl | rfl
      · have hb : 48 ≤ (o1 c).toNat := o1_ge c
        rw [he.1] at hb
        exact absurd hb (by decide)
      · exact absurd this (by decide)
    · rw [oct_head] at he
      simp only [List.cons_append, List.nil_append, List.cons.injEq] at he
      exact absurd he.1.symm hd
    · rw [oct_head] at he
      simp only [uPlus, List.cons_append, List.nil_append, List.cons.injEq] at he
      exact absurd he.1 (by decide)
    · obtain ⟨g1, g2⟩ := oct_inj he
      exact fin 1 (by omega) (by rw [e2, f2, g1]) g2
theorem idx60 (s : List UInt8) (h : idxS s [60] = 0) : 60 ∉ s := by
  unfold idxS at h
  rw [if_neg (by simp)] at h
  rcases Lib.index_spec s [60] with ⟨h1, h2⟩ | ⟨i, h1, _⟩
  · intro hm
    obtain ⟨i, hi, he⟩ := List.getElem_of_mem hm
    have := h2 i (by omega)
    unfold Lib.occAt at this
    rw [List.drop_eq_getElem_cons hi, he] at this
    simp at this
  · omega
end Go.AD
