
namespace Go.AD.Fp
def rne (a b : Nat) : Nat := a / b + if b < 2 * (a % b) \/ (2 * (a % b) = b /\ a / b % 2 = 1) then 1 else 0
def unr (a b : Nat) : Nat := 2 * (2 * a / b) + if 2 * a % b = 0 then 0 else 1
theorem div_facts {a b : Nat} (hb : 0 < b) : a = b * (a / b) + a % b /\ a % b < b := ⟨(Nat.div_add_mod a b).symm, Nat.mod_lt _ hb⟩
theorem two_div {a b : Nat} (hb : 0 < b) : (2 * (a % b) < b /\ 2 * a / b = 2 * (a / b) /\ 2 * a % b = 2 * (a % b)) \/ (b <= 2 * (a % b) /\ 2 * a / b = 2 * (a / b) + 1 /\ 2 * a % b = 2 * (a % b) - b) := by
  obtain ⟨h1, h2⟩ := div_facts (a := a) hb
  generalize a / b = q at *
  generalize a % b = r at *
  subst h1
  have e : 2 * (b * q + r) = 2 * r + b * (2 * q) := by rw [Nat.mul_add, Nat.mul_left_comm, Nat.add_comm]
  rw [e]
  rcases Nat.lt_or_ge (2 * r) b with h | h
  · refine .inl ⟨h, ?_, ?_⟩
    · rw [Nat.add_mul_div_left _ _ hb, Nat.div_eq_of_lt h, Nat.zero_add]
    · rw [Nat.add_mul_mod_self_left, Nat.mod_eq_of_lt h]
  · have e2 : 2 * r = (2 * r - b) + b * 1 := by omega
    refine .inr ⟨h, ?_, ?_⟩
    · rw [Nat.add_mul_div_left _ _ hb, e2, Nat.add_mul_div_left _ _ hb, Nat.div_eq_of_lt (by omega)]; omega
    · rw [Nat.add_mul_mod_self_left, Nat.mod_eq_sub_mod h, Nat.mod_eq_of_lt (by omega)]
theorem rnd_unr {a b : Nat} (hb : 0 < b) : (unr a b + 1 + unr a b / 4 % 2) / 4 = rne a b := by
  unfold unr rne
  rcases two_div (a := a) hb with ⟨h1, h2, h3⟩ | ⟨h1, h2, h3⟩
  · rw [h2, h3]
    rw [if_neg (show ¬ (b < 2 * (a % b) \/ (2 * (a % b) = b /\ a / b % 2 = 1)) by omega)]
    split <;> omega
  · rw [h2, h3]
    by_cases h4 : 2 * (a % b) - b = 0
    · rw [if_pos h4]
      by_cases h5 : a / b % 2 = 1
      · rw [if_pos (.inr ⟨by omega, h5⟩)]; omega
      · rw [if_neg (by omega)]; omega
    · rw [if_neg h4, if_pos (by omega)]; omega
theorem unr_half {a b : Nat} (hb : 0 < b) : unr a (2 * b) = 2 * (unr a b / 2 / 2) + (if unr a b / 2 % 2 = 0 /\ unr a b % 2 = 0 then 0 else 1) := by
  unfold unr
  have e1 : 2 * a / (2 * b) = a / b := by rw [Nat.mul_div_mul_left _ _ (by decide)]
  have e2 : 2 * a % (2 * b) = 2 * (a % b) := Nat.mul_mod_mul_left ..
  rw [e1, e2]
  rcases two_div (a := a) hb with ⟨h1, h2, h3⟩ | ⟨h1, h2, h3⟩
  · rw [h2, h3]
    by_cases h4 : 2 * (a % b) = 0
    · simp only [h4, if_true]; split <;> omega
    · simp only [h4, if_false]; split <;> omega
  · rw [h2, h3, if_neg (show ¬ 2 * (a % b) = 0 by omega)]
    by_cases h4 : 2 * (a % b) - b = 0
    · simp only [h4, if_true]; split <;> omega
    · simp only [h4, if_false]; split <;> omega
theorem rne_scale {a b c : Nat} (hc : 0 < c) : rne (a * c) (b * c) = rne a b := by
  unfold rne
  rw [Nat.mul_div_mul_right _ _ hc, Nat.mul_mod_mul_right]
  have e1 : (b * c < 2 * (a % b * c)) = (b < 2 * (a % b)) := by
    rw [<- Nat.mul_assoc]; exact propext ⟨fun h => Nat.lt_of_mul_lt_mul_right h, fun h => Nat.mul_lt_mul_of_pos_right h hc⟩
  have e2 : (2 * (a % b * c) = b * c) = (2 * (a % b) = b) := by
    rw [<- Nat.mul_assoc]; exact propext ⟨fun h => Nat.eq_of_mul_eq_mul_right hc h, fun h => by rw [h]⟩
  simp only [e1, e2]
theorem unr_scale {a b c : Nat} (hc : 0 < c) : unr (a * c) (b * c) = unr a b := by
  unfold unr
  rw [<- Nat.mul_assoc, Nat.mul_div_mul_right _ _ hc, Nat.mul_mod_mul_right]
  have e : (2 * a % b * c = 0) = (2 * a % b = 0) := propext ⟨fun h => by rcases Nat.mul_eq_zero.1 h with h | h <;> omega, fun h => by rw [h]; omega⟩
  simp only [e]
theorem le_rne {a b n : Nat} (hb : 0 < b) : n + 1 <= rne a b ↔ (2 * n + 1) * b < 2 * a \/ ((2 * n + 1) * b = 2 * a /\ n % 2 = 1) := by
  unfold rne
  obtain ⟨h1, h2⟩ := div_facts (a := a) hb
  generalize a / b = q at *
  generalize a % b = r at *
  subst h1
  have e1 : (2 * n + 1) * b = 2 * (b * n) + b := by rw [Nat.add_mul, Nat.one_mul, Nat.mul_assoc, Nat.mul_comm n b]
  rw [e1]
  have e2 : 2 * (b * q + r) = 2 * (b * q) + 2 * r := Nat.mul_add ..
  rw [e2]
  rcases Nat.lt_trichotomy n q with h | h | h
  · have : b * n + b <= b * q := by rw [<- Nat.mul_succ]; exact Nat.mul_le_mul_left b h
    constructor
    · intro _; exact .inl (by omega)
    · intro _; split <;> omega
  · subst h
    constructor
    · intro h
      split at h
      · rename_i h3; omega
      · omega
    · intro h
      rw [if_pos (by omega)]; exact Nat.le_refl _
  · have : b * q + b <= b * n := by rw [<- Nat.mul_succ]; exact Nat.mul_le_mul_left b h
    constructor
    · intro h
      split at h
      · have : n = q := by omega
        omega
      · omega
    · intro h; omega
theorem rne_mono {a b c d : Nat} (hb : 0 < b) (hd : 0 < d) (h : a * d <= c * b) : rne a b <= rne c d := by
  cases e : rne a b with
  | zero => exact Nat.zero_le _
  | succ n =>
    have h1 := (le_rne (a := a) (n := n) hb).1 (by omega)
    rw [le_rne hd]
    have l1 : (2 * n + 1) * b * d = (2 * n + 1) * d * b := Nat.mul_right_comm ..
    have l2 : 2 * a * d <= 2 * c * b := by rw [Nat.mul_assoc, Nat.mul_assoc]; exact Nat.mul_le_mul_left 2 h
    rcases h1 with h1 | ⟨h1, h2⟩
    · refine .inl (Nat.lt_of_mul_lt_mul_right (a := b) ?_)
      rw [<- l1]
      exact Nat.lt_of_lt_of_le (Nat.mul_lt_mul_of_pos_right h1 hd) l2
    · rw [<- Nat.mul_right_cancel_iff hd, l1] at h1
      rcases Nat.lt_or_eq_of_le (h1 ▸ l2 : (2 * n + 1) * d * b <= 2 * c * b) with h3 | h3
      · exact .inl (Nat.lt_of_mul_lt_mul_right h3)
      · exact .inr ⟨Nat.eq_of_mul_eq_mul_right hb h3, h2⟩
theorem rne_le {a b n : Nat} (hb : 0 < b) (h : a <= n * b) : rne a b <= n := by
  have := rne_mono (c := n) (d := 1) hb Nat.one_pos (by rw [Nat.mul_one]; exact h)
  have e : rne n 1 = n := by unfold rne; simp [Nat.mod_one]
  rw [e] at this; exact this
theorem le_rne' {a b n : Nat} (hb : 0 < b) (h : n * b <= a) : n <= rne a b := by
  have := rne_mono (a := n) (b := 1) Nat.one_pos hb (by rw [Nat.mul_one]; exact h)
  have e : rne n 1 = n := by unfold rne; simp [Nat.mod_one]
  rw [e] at this; exact this
def kOf (a b : Nat) : Nat := (a / b).log2 - 52
theorem kOf_lt {a b : Nat} (hb : 0 < b) : a < b * 2 ^ (53 + kOf a b) := by
  rw [Nat.mul_comm, <- Nat.div_lt_iff_lt_mul hb]
  unfold kOf
  by_cases h : a / b = 0
  · rw [h]; exact Nat.pow_pos (by decide)
  · have := (Nat.log2_lt (k := (a / b).log2 + 1) h).1 (Nat.lt_succ_self _)
    exact Nat.lt_of_lt_of_le this (Nat.pow_le_pow_right (by decide) (by omega))
theorem kOf_ge {a b : Nat} (hb : 0 < b) (h : 0 < kOf a b) : b * 2 ^ (52 + kOf a b) <= a := by
  rw [Nat.mul_comm, <- Nat.le_div_iff_mul_le hb]
  unfold kOf at *
  have h0 : a / b ≠ 0 := by intro e; rw [e] at h; revert h; decide
  have e : 52 + ((a / b).log2 - 52) = (a / b).log2 := by omega
  rw [e]
  exact Nat.log2_self_le h0
theorem kOf_eq {a b k : Nat} (hb : 0 < b) (h1 : a < b * 2 ^ (53 + k)) (h2 : k = 0 \/ b * 2 ^ (52 + k) <= a) : kOf a b = k := by
  have l1 := kOf_lt (a := a) hb
  have l2 := kOf_ge (a := a) hb
  have mono : ∀ {i j : Nat}, b * 2 ^ i < b * 2 ^ j -> i < j := fun {i j} h => by
    rcases Nat.lt_or_ge i j with h3 | h3
    · exact h3
    · have := Nat.mul_le_mul_left b (Nat.pow_le_pow_right (n := 2) (by decide) h3)
      omega
  rcases Nat.lt_trichotomy (kOf a b) k with h | h | h
  · have h2 : b * 2 ^ (52 + k) <= a := by omega
    have := mono (Nat.lt_of_le_of_lt h2 l1)
    omega
  · exact h
  · have := mono (Nat.lt_of_le_of_lt (l2 (by omega)) h1)
    omega
def rung (a b : Nat) : Nat := kOf a b * 2 ^ 52 + rne a (b * 2 ^ kOf a b)
theorem pow_split (b i j : Nat) : b * 2 ^ (i + j) = 2 ^ i * (b * 2 ^ j) := by rw [Nat.pow_add, Nat.mul_left_comm]
theorem rung_k {a b k : Nat} (hb : 0 < b) (h1 : a < b * 2 ^ (53 + k)) (h2 : k = 0 \/ b * 2 ^ (52 + k) <= a) : rung a b = k * 2 ^ 52 + rne a (b * 2 ^ k) := by
  unfold rung; rw [kOf_eq hb h1 h2]
theorem rung_up {a b k : Nat} (hb : 0 < b) (h1 : a < b * 2 ^ (53 + k)) (h2 : k = 0 \/ b * 2 ^ (52 + k) <= a) (h3 : (2 ^ 54 - 1) * (b * 2 ^ k) <= 2 * a) : rung a b = (k + 1) * 2 ^ 52 + rne a (b * 2 ^ (k + 1)) := by
  have hp : 0 < b * 2 ^ k := Nat.mul_pos hb (Nat.pow_pos (by decide))
  rw [rung_k hb h1 h2]
  rw [pow_split] at h1
  generalize hB : b * 2 ^ k = B at *
  have e : b * 2 ^ (k + 1) = 2 * B := by rw [Nat.pow_succ, <- hB]; rw [<- Nat.mul_assoc]; exact Nat.mul_comm ..
  rw [e]
  have r1 : rne a B = 2 ^ 53 := by
    refine Nat.le_antisymm (rne_le hp (Nat.le_of_lt h1)) ?_
    have : 9007199254740991 + 1 <= rne a B := (le_rne hp).2 (by
      have : (2 * 9007199254740991 + 1) * B <= 2 * a := by simpa using h3
      rcases Nat.lt_or_eq_of_le this with h | h
      · exact .inl h
      · exact .inr ⟨h, by decide⟩)
    simpa using this
  have r2 : rne a (2 * B) = 2 ^ 52 := by
    have h2B : 0 < 2 * B := by omega
    refine Nat.le_antisymm (rne_le h2B ?_) ?_
    · omega
    · have : 4503599627370495 + 1 <= rne a (2 * B) := (le_rne h2B).2 (.inl (by omega))
      simpa using this
  rw [r1, r2]
  omega
theorem rung_mono {a b c d : Nat} (hb : 0 < b) (hd : 0 < d) (h : a * d <= c * b) : rung a b <= rung c d := by
  have hp : ∀ k, 0 < b * 2 ^ k := fun k => Nat.mul_pos hb (Nat.pow_pos (by decide))
  have hq : ∀ k, 0 < d * 2 ^ k := fun k => Nat.mul_pos hd (Nat.pow_pos (by decide))
  have hk : kOf a b <= kOf c d := by
    rcases Nat.lt_or_ge (kOf c d) (kOf a b) with h1 | h1
    · exfalso
      have l1 := kOf_ge (a := a) hb (by omega)
      have l2 := kOf_lt (a := c) hd
      have l3 : b * 2 ^ (53 + kOf c d) <= b * 2 ^ (52 + kOf a b) := Nat.mul_le_mul_left b (Nat.pow_le_pow_right (by decide) (by omega))
      have l4 : b * 2 ^ (53 + kOf c d) * d <= a * d := Nat.mul_le_mul_right d (Nat.le_trans l3 l1)
      have l5 : c * b < d * 2 ^ (53 + kOf c d) * b := Nat.mul_lt_mul_of_pos_right l2 hb
      have e : b * 2 ^ (53 + kOf c d) * d = d * 2 ^ (53 + kOf c d) * b := by rw [Nat.mul_comm b, Nat.mul_comm d, Nat.mul_assoc, Nat.mul_assoc, Nat.mul_comm b]
      omega
    · exact h1
  unfold rung
  rcases Nat.lt_or_eq_of_le hk with h1 | h1
  · have l1 : rne a (b * 2 ^ kOf a b) <= 2 ^ 53 := rne_le (hp _) (by
      have := kOf_lt (a := a) hb
      rw [pow_split] at this
      exact Nat.le_of_lt this)
    have l2 : 2 ^ 52 <= rne c (d * 2 ^ kOf c d) := le_rne' (hq _) (by
      have := kOf_ge (a := c) hd (by omega)
      rw [pow_split] at this
      exact this)
    have l3 : (kOf a b + 1) * 2 ^ 52 <= kOf c d * 2 ^ 52 := Nat.mul_le_mul_right _ h1
    omega
  · rw [h1]
    have : rne a (b * 2 ^ kOf c d) <= rne c (d * 2 ^ kOf c d) := rne_mono (hp _) (hq _) (by
      rw [<- Nat.mul_assoc, <- Nat.mul_assoc]; exact Nat.mul_le_mul_right _ h)
    omega
end Go.AD.Fp

namespace Go.AD.Fp
theorem unr_four {a b : Nat} (hb : 0 < b) : unr a b = if 4 * a % b = 0 then 4 * a / b else 2 * (4 * a / b / 2) + 1 := by
  have e : 4 * a = 2 * (2 * a) := by omega
  unfold unr
  rw [e]
  generalize 2 * a = c
  rcases two_div (a := c) hb with ⟨h1, h2, h3⟩ | ⟨h1, h2, h3⟩
  · rw [h2, h3]
    by_cases h4 : c % b = 0
    · rw [if_pos h4, if_pos (by omega)]; omega
    · rw [if_neg h4, if_neg (by omega)]; omega
  · rw [h2, h3]
    by_cases h4 : 2 * (c % b) - b = 0
    · rw [if_pos h4, if_neg (by omega)]
    · rw [if_neg h4, if_neg (by omega)]; omega
theorem between {T B q : Nat} (h1 : q * B < T) (h2 : T < (q + 1) * B) : T / B = q /\ T % B ≠ 0 := by
  have hB : 0 < B := by
    rcases Nat.eq_zero_or_pos B with h | h
    · subst h; simp at h2
    · exact h
  have e : T / B = q := by
    refine Nat.le_antisymm ?_ ?_
    · exact Nat.lt_succ_iff.1 ((Nat.div_lt_iff_lt_mul hB).2 h2)
    · exact (Nat.le_div_iff_mul_le hB).2 (Nat.le_of_lt h1)
  refine ⟨e, fun h => ?_⟩
  have := Nat.div_add_mod T B
  rw [e, h, Nat.mul_comm] at this
  omega
def orB (n : Nat) (b : Bool) : Nat := if b = true then 2 * (n / 2) + 1 else n
def uscaleN (x hi lo s : Nat) : Nat :=
  if x * hi / 2 ^ 64 % 2 ^ s ≠ 0 then orB (x * hi / 2 ^ 64 / 2 ^ s) true
  else if x * hi % 2 ^ 64 < x * lo / 2 ^ 64 then orB ((x * hi / 2 ^ 64 - 1) / 2 ^ s) (decide (1 < x * hi % 2 ^ 64 + 2 ^ 64 - x * lo / 2 ^ 64))
  else orB (x * hi / 2 ^ 64 / 2 ^ s) (decide (1 < x * hi % 2 ^ 64 - x * lo / 2 ^ 64))
theorem unr_between {T D h s : Nat} (hD : 0 < D) (h1 : h * (2 ^ 128 * D) < T) (h2 : T < (h + 1) * (2 ^ 128 * D)) : unr T (D * 2 ^ (130 + s)) = orB (h / 2 ^ s) true := by
  have hp : 0 < (2 : Nat) ^ s := Nat.pow_pos (by decide)
  have e : D * 2 ^ (130 + s) = 4 * (2 ^ s * (2 ^ 128 * D)) := by
    rw [show 130 + s = 2 + (128 + s) by omega, Nat.pow_add, Nat.pow_add]
    generalize (2 : Nat) ^ 128 = c
    rw [Nat.mul_comm D, Nat.mul_assoc, Nat.mul_comm c, Nat.mul_assoc]
  have hB : 0 < 2 ^ 128 * D := Nat.mul_pos (Nat.pow_pos (by decide)) hD
  generalize 2 ^ 128 * D = B at *
  rw [e, unr_four (by have := Nat.mul_pos hp hB; omega), Nat.mul_div_mul_left _ _ (by decide), Nat.mul_mod_mul_left]
  have hq := Nat.div_add_mod h (2 ^ s)
  have hm := Nat.mod_lt h hp
  generalize h / 2 ^ s = q at *
  generalize h % 2 ^ s = r at *
  have l1 : q * (2 ^ s * B) < T := by
    refine Nat.lt_of_le_of_lt ?_ h1
    rw [<- Nat.mul_assoc, Nat.mul_comm q]
    exact Nat.mul_le_mul_right _ (by omega)
  have l2 : T < (q + 1) * (2 ^ s * B) := by
    refine Nat.lt_of_lt_of_le h2 ?_
    rw [<- Nat.mul_assoc]
    refine Nat.mul_le_mul_right _ ?_
    rw [Nat.add_mul, Nat.mul_comm q]
    omega
  obtain ⟨g1, g2⟩ := between l1 l2
  rw [g1, if_neg (by omega)]
  rfl
theorem uscale_eq {x hi lo s pm num den : Nat} (hx : x < 2 ^ 64) (hlo : lo < 2 ^ 64) (hpm : pm + lo = hi * 2 ^ 64) (hden : 0 < den) (h1 : num <= pm * den) (h2 : pm * den < num + den)
    (hH : 0 < x * hi / 2 ^ 64) (hs : 8 <= s) (nt : ∀ h, x * pm <= h * 2 ^ 136 + 2 ^ 64 -> h * 2 ^ 136 <= x * pm + 2 ^ 64 -> x * num = h * 2 ^ 136 * den) : uscaleN x hi lo s = unr (x * num) (den * 2 ^ (130 + s)) := by
  unfold uscaleN
  have hX : x * pm + x * lo = x * hi * 2 ^ 64 := by rw [<- Nat.mul_add, hpm, Nat.mul_assoc]
  have hm2 : x * lo / 2 ^ 64 <= 2 ^ 64 - 2 := by
    have : x * lo <= (2 ^ 64 - 1) * (2 ^ 64 - 1) := Nat.mul_le_mul (by omega) (by omega)
    omega
  have t1 : x * num <= x * pm * den := by rw [Nat.mul_assoc]; exact Nat.mul_le_mul_left x h1
  have t2 : x * pm * den < x * num + 2 ^ 64 * den := by
    have e : x * pm * den <= x * num + x * den := by rw [Nat.mul_assoc, <- Nat.mul_add]; exact Nat.mul_le_mul_left x (Nat.le_of_lt h2)
    have : x * den < 2 ^ 64 * den := Nat.mul_lt_mul_of_pos_right hx hden
    omega
  generalize x * pm = X at *
  generalize x * lo = L at *
  generalize x * hi = Y at *
  generalize x * num = T at *
  have eY := Nat.div_add_mod Y (2 ^ 64)
  have eL := Nat.div_add_mod L (2 ^ 64)
  have mY := Nat.mod_lt Y (show 0 < 2 ^ 64 by decide)
  have mL := Nat.mod_lt L (show 0 < 2 ^ 64 by decide)
  generalize Y / 2 ^ 64 = H at *
  generalize Y % 2 ^ 64 = mid at *
  generalize L / 2 ^ 64 = mid2 at *
  generalize L % 2 ^ 64 = low2 at *
  have hp : 0 < (2 : Nat) ^ s := Nat.pow_pos (by decide)
  have up : ∀ c, X <= c -> T <= c * den := fun c h => Nat.le_trans t1 (Nat.mul_le_mul_right _ h)
  have low : ∀ c, c + 2 ^ 64 <= X -> c * den < T := fun c h => by
    have := Nat.mul_le_mul_right den h
    rw [Nat.add_mul] at this
    omega
  by_cases hA : H % 2 ^ s ≠ 0
  · rw [if_pos hA]
    have hq := Nat.div_add_mod H (2 ^ s)
    have hm := Nat.mod_lt H hp
    generalize hqe : H / 2 ^ s = q at *
    generalize H % 2 ^ s = r at *
    have l1 : (H - 1) * 2 ^ 128 * den < T := low _ (by omega)
    have l2 : T < (H + 1) * 2 ^ 128 * den := by
      have := up ((H + 1) * 2 ^ 128 - 1) (by omega)
      have : ((H + 1) * 2 ^ 128 - 1) * den < (H + 1) * 2 ^ 128 * den := Nat.mul_lt_mul_of_pos_right (by omega) hden
      omega
    have e : den * 2 ^ (130 + s) = 4 * (2 ^ s * (2 ^ 128 * den)) := by
      rw [show 130 + s = 2 + (128 + s) by omega, Nat.pow_add, Nat.pow_add]
      generalize (2 : Nat) ^ 128 = c
      rw [Nat.mul_comm den, Nat.mul_assoc, Nat.mul_comm c, Nat.mul_assoc]
    have hB : 0 < 2 ^ 128 * den := Nat.mul_pos (Nat.pow_pos (by decide)) hden
    rw [Nat.mul_assoc] at l1 l2
    generalize 2 ^ 128 * den = B at *
    rw [e, unr_four (by have := Nat.mul_pos hp hB; omega), Nat.mul_div_mul_left _ _ (by decide), Nat.mul_mod_mul_left]
    have g1 : q * (2 ^ s * B) < T := by
      refine Nat.lt_of_le_of_lt ?_ l1
      rw [<- Nat.mul_assoc, Nat.mul_comm q]
      exact Nat.mul_le_mul_right _ (by omega)
    have g2 : T < (q + 1) * (2 ^ s * B) := by
      refine Nat.lt_of_lt_of_le l2 ?_
      rw [<- Nat.mul_assoc]
      refine Nat.mul_le_mul_right _ ?_
      rw [Nat.add_mul, Nat.mul_comm q]
      omega
    obtain ⟨k1, k2⟩ := between g1 g2
    rw [k1, if_neg (by omega)]
    rfl
  · rw [if_neg hA]
    by_cases hB : mid < mid2
    · rw [if_pos hB, decide_eq_true (by omega)]
      rw [<- unr_between (T := T) hden]
      · rw [<- Nat.mul_assoc]; exact low _ (by omega)
      · rw [<- Nat.mul_assoc]
        have := up ((H - 1 + 1) * 2 ^ 128 - 1) (by omega)
        have : ((H - 1 + 1) * 2 ^ 128 - 1) * den < (H - 1 + 1) * 2 ^ 128 * den := Nat.mul_lt_mul_of_pos_right (by omega) hden
        omega
    · rw [if_neg hB]
      by_cases hM : 1 < mid - mid2
      · rw [decide_eq_true hM, <- unr_between (T := T) hden]
        · rw [<- Nat.mul_assoc]; exact low _ (by omega)
        · rw [<- Nat.mul_assoc]
          have := up ((H + 1) * 2 ^ 128 - 1) (by omega)
          have : ((H + 1) * 2 ^ 128 - 1) * den < (H + 1) * 2 ^ 128 * den := Nat.mul_lt_mul_of_pos_right (by omega) hden
          omega
      · rw [decide_eq_false hM]
        have hdiv : ∃ c, H = 2 ^ s * c := ⟨H / 2 ^ s, by have := Nat.div_add_mod H (2 ^ s); omega⟩
        obtain ⟨c, hc⟩ := hdiv
        have e8 : H = c * 2 ^ (s - 8) * 2 ^ 8 := by
          rw [hc, Nat.mul_assoc, <- Nat.pow_add, Nat.sub_add_cancel hs, Nat.mul_comm]
        have ht := nt (c * 2 ^ (s - 8)) (by omega) (by omega)
        have e : den * 2 ^ (130 + s) = 4 * (2 ^ s * (2 ^ 128 * den)) := by
          rw [show 130 + s = 2 + (128 + s) by omega, Nat.pow_add, Nat.pow_add]
          generalize (2 : Nat) ^ 128 = c
          rw [Nat.mul_comm den, Nat.mul_assoc, Nat.mul_comm c, Nat.mul_assoc]
        have eT : T = c * (2 ^ s * (2 ^ 128 * den)) := by
          rw [ht, show (136 : Nat) = 8 + 128 from rfl, Nat.pow_add, <- Nat.mul_assoc, <- e8, hc, Nat.mul_assoc, Nat.mul_comm (2 ^ s) c, Nat.mul_assoc]
        have hB : 0 < 2 ^ s * (2 ^ 128 * den) := Nat.mul_pos hp (Nat.mul_pos (Nat.pow_pos (by decide)) hden)
        rw [e, unr_four (by omega), Nat.mul_div_mul_left _ _ (by decide), Nat.mul_mod_mul_left, eT, Nat.mul_mod_left, Nat.mul_zero, if_pos rfl, Nat.mul_div_left _ hB, hc, Nat.mul_div_cancel_left _ hp]
        rfl
theorem lattice {A N x0 y0 x2 y2 x y W X : Int} (hx0 : 0 < x0) (hx2 : 0 <= x2) (det : x0 * y2 - x2 * y0 = 1 \/ x0 * y2 - x2 * y0 = -1) (hX : X <= x0 + x2)
    (opp : (x0 * A - y0 * N <= 0 /\ W < x2 * A - y2 * N) \/ (0 <= x0 * A - y0 * N /\ x2 * A - y2 * N < -W)) (hW : 0 <= W)
    (h0 : 0 < x) (h1 : x < X) (h2 : x * A - y * N <= W) (h3 : -W <= x * A - y * N) : ∃ a : Int, x = a * x0 /\ y = a * y0 := by
  have key : ∀ e : Int, e * e = 1 -> x0 * y2 - x2 * y0 = e -> ∃ a : Int, x = a * x0 /\ y = a * y0 := by
    intro e he hd
    have ex : x = e * (x * y2 - x2 * y) * x0 + e * (x0 * y - x * y0) * x2 := by
      have : e * (x * y2 - x2 * y) * x0 + e * (x0 * y - x * y0) * x2 = e * (x0 * y2 - x2 * y0) * x := by grind
      rw [this, hd, he, Int.one_mul]
    have ey : y = e * (x * y2 - x2 * y) * y0 + e * (x0 * y - x * y0) * y2 := by
      have : e * (x * y2 - x2 * y) * y0 + e * (x0 * y - x * y0) * y2 = e * (x0 * y2 - x2 * y0) * y := by grind
      rw [this, hd, he, Int.one_mul]
    generalize e * (x * y2 - x2 * y) = a at ex ey
    generalize e * (x0 * y - x * y0) = b at ex ey
    have er : x * A - y * N = a * (x0 * A - y0 * N) + b * (x2 * A - y2 * N) := by rw [ex, ey]; grind
    rw [er] at h2 h3
    generalize x0 * A - y0 * N = r0 at *
    generalize x2 * A - y2 * N = r2 at *
    rcases Int.lt_trichotomy b 0 with hb | hb | hb
    · exfalso
      have ha : 0 < a := by
        rcases (show 0 < a \/ a <= 0 by omega) with h | h
        · exact h
        · have p1 : a * x0 <= 0 := Int.mul_nonpos_of_nonpos_of_nonneg h (Int.le_of_lt hx0)
          have p2 : b * x2 <= 0 := Int.mul_nonpos_of_nonpos_of_nonneg (Int.le_of_lt hb) hx2
          omega
      rcases opp with ⟨q1, q2⟩ | ⟨q1, q2⟩
      · have p1 : a * r0 <= 0 := Int.mul_nonpos_of_nonneg_of_nonpos (Int.le_of_lt ha) q1
        have p2 : b * r2 <= (-1) * r2 := Int.mul_le_mul_of_nonneg_right (by omega) (by omega)
        omega
      · have p1 : 0 <= a * r0 := Int.mul_nonneg (Int.le_of_lt ha) q1
        have p2 : (-1) * r2 <= b * r2 := Int.mul_le_mul_of_nonpos_right (by omega) (by omega)
        omega
    · subst hb
      exact ⟨a, by simpa using ex, by simpa using ey⟩
    · exfalso
      rcases (show 0 < a \/ a <= 0 by omega) with ha | ha
      · have p1 : 1 * x0 <= a * x0 := Int.mul_le_mul_of_nonneg_right (by omega) (Int.le_of_lt hx0)
        have p2 : 1 * x2 <= b * x2 := Int.mul_le_mul_of_nonneg_right (by omega) hx2
        omega
      · rcases opp with ⟨q1, q2⟩ | ⟨q1, q2⟩
        · have p1 : 0 <= a * r0 := Int.mul_nonneg_of_nonpos_of_nonpos ha q1
          have p2 : 1 * r2 <= b * r2 := Int.mul_le_mul_of_nonneg_right (by omega) (by omega)
          omega
        · have p1 : a * r0 <= 0 := Int.mul_nonpos_of_nonpos_of_nonneg ha q1
          have p2 : b * r2 <= 1 * r2 := Int.mul_le_mul_of_nonpos_right (by omega) (by omega)
          omega
  rcases det with h | h
  · exact key 1 rfl h
  · exact key (-1) rfl h
end Go.AD.Fp

set_option maxRecDepth 100000
namespace Go.AD.Fp
def lpZ (p : Int) : Int := p * 108853 / 32768
def numP (p : Int) : Nat := 10 ^ p.toNat * 2 ^ (127 - lpZ p).toNat
def denP (p : Int) : Nat := 10 ^ (-p).toNat * 2 ^ (lpZ p - 127).toNat
def pmP (p : Int) : Nat := (numP p + denP p - 1) / denP p
def hiP (p : Int) : Nat := (pmP p + 18446744073709551615) / 18446744073709551616
def loP (p : Int) : Nat := hiP p * 18446744073709551616 - pmP p
def srch : Nat -> Nat -> Nat -> Nat -> Nat -> Nat -> Nat -> Nat × Nat × Nat × Nat
  | 0, _, _, _, _, _, _ => (0, 0, 0, 0)
  | f + 1, xp, yp, rp, xc, yc, rc =>
    if rc = 0 \/ 2 ^ 64 <= xp + rp / rc * xc + xc then (xc, yc, xp + (2 ^ 64 - 1 - xp) / xc * xc, yp + (2 ^ 64 - 1 - xp) / xc * yc)
    else srch f xc yc rc (xp + rp / rc * xc) (yp + rp / rc * yc) (rp - rp / rc * rc)
def okC (num den A : Nat) (c : Nat × Nat × Nat × Nat) : Bool :=
  let x0 := c.1; let y0 := c.2.1; let x2 := c.2.2.1; let y2 := c.2.2.2
  decide (0 < x0) && (decide (x0 * y2 = x2 * y0 + 1) || decide (x2 * y0 = x0 * y2 + 1)) && decide (2 ^ 64 <= x0 + x2) &&
  (decide (x0 * A <= y0 * 2 ^ 136 /\ y2 * 2 ^ 136 + 2 ^ 64 < x2 * A) || decide (y0 * 2 ^ 136 <= x0 * A /\ x2 * A + 2 ^ 64 < y2 * 2 ^ 136)) &&
  (decide (x0 * num = y0 * 2 ^ 136 * den) || decide (y0 * 2 ^ 136 * ((2 ^ 63 + x0 - 1) / x0) + 2 ^ 64 < x0 * A * ((2 ^ 63 + x0 - 1) / x0)) || decide (x0 * A * ((2 ^ 63 + x0 - 1) / x0) + 2 ^ 64 < y0 * 2 ^ 136 * ((2 ^ 63 + x0 - 1) / x0)))
def okP (p : Int) : Bool :=
  decide (2 ^ 127 * denP p <= numP p) && decide (numP p < 2 ^ 128 * denP p) && decide (pmP p <= 2 ^ 128 - 2 ^ 64) && okC (numP p) (denP p) (pmP p) (srch 200 0 1 (2 ^ 136) 1 0 (pmP p))
theorem okAll : ∀ i : Nat, i < 656 -> okP ((i : Int) - 345) = true := by decide +kernel
theorem okOf {p : Int} (h1 : -345 <= p) (h2 : p <= 310) : okP p = true := by
  have := okAll (p + 345).toNat (by omega)
  rwa [show (((p + 345).toNat : Nat) : Int) - 345 = p by omega] at this
theorem denP_pos (p : Int) : 0 < denP p := Nat.mul_pos (Nat.pow_pos (by decide)) (Nat.pow_pos (by decide))
theorem pm_facts (p : Int) : numP p <= pmP p * denP p /\ pmP p * denP p < numP p + denP p := by
  have hd := denP_pos p
  unfold pmP
  generalize numP p = n at *
  generalize denP p = d at *
  have h1 := Nat.div_add_mod (n + d - 1) d
  have h2 := Nat.mod_lt (n + d - 1) hd
  rw [Nat.mul_comm] at h1
  omega
theorem hl_facts (p : Int) : pmP p + loP p = hiP p * 2 ^ 64 /\ loP p < 2 ^ 64 := by
  unfold loP hiP
  generalize pmP p = n at *
  omega
theorem near {p : Int} (h1 : -345 <= p) (h2 : p <= 310) {x : Nat} (hx : 2 ^ 63 <= x) (hx2 : x < 2 ^ 64) (h : Nat) (l1 : x * pmP p <= h * 2 ^ 136 + 2 ^ 64) (l2 : h * 2 ^ 136 <= x * pmP p + 2 ^ 64) : x * numP p = h * 2 ^ 136 * denP p := by
  have hok := okOf h1 h2
  unfold okP at hok
  rw [Bool.and_eq_true] at hok
  have hc := hok.2
  generalize srch 200 0 1 (2 ^ 136) 1 0 (pmP p) = c at hc
  obtain ⟨x0, y0, x2, y2⟩ := c
  unfold okC at hc
  simp only [Bool.and_eq_true, Bool.or_eq_true, decide_eq_true_eq] at hc
  obtain ⟨⟨⟨⟨c1, c2⟩, c3⟩, c4⟩, c5⟩ := hc
  generalize pmP p = A at *
  generalize numP p = num at *
  generalize denP p = den at *
  have cast : ∀ a b c d : Nat, ((a : Int) * b - c * d) = ((a * b : Nat) : Int) - ((c * d : Nat) : Int) := fun a b c d => by rw [Int.natCast_mul, Int.natCast_mul]
  have hl := lattice (A := (A : Int)) (N := ((2 ^ 136 : Nat) : Int)) (x0 := (x0 : Int)) (y0 := (y0 : Int)) (x2 := (x2 : Int)) (y2 := (y2 : Int)) (x := (x : Int)) (y := (h : Int)) (W := ((2 ^ 64 : Nat) : Int)) (X := ((2 ^ 64 : Nat) : Int))
    (by omega) (by omega) (by rw [cast]; omega) (by omega) (by simp only [cast]; omega) (by omega) (by omega) (by omega) (by rw [cast]; omega) (by rw [cast]; omega)
  obtain ⟨a, ha, hb⟩ := hl
  have ha0 : 0 < a := by
    rcases (show 0 < a \/ a <= 0 by omega) with h | h
    · exact h
    · have : a * (x0 : Int) <= 0 := Int.mul_nonpos_of_nonpos_of_nonneg h (by omega)
      omega
  obtain ⟨n, rfl⟩ : ∃ n : Nat, a = (n : Int) := ⟨a.toNat, by omega⟩
  have ex : x = n * x0 := by have : (x : Int) = ((n * x0 : Nat) : Int) := by rw [Int.natCast_mul]; exact ha
                             omega
  have ey : h = n * y0 := by have : (h : Int) = ((n * y0 : Nat) : Int) := by rw [Int.natCast_mul]; exact hb
                             omega
  rcases c5 with (c5 | c5) | c5
  · rw [ex, ey, Nat.mul_assoc, c5]
    simp only [Nat.mul_assoc]
  all_goals
    exfalso
    have hn : (2 ^ 63 + x0 - 1) / x0 <= n := by
      rw [<- Nat.lt_succ_iff, Nat.div_lt_iff_lt_mul c1, Nat.succ_mul, <- ex]
      omega
    generalize (2 ^ 63 + x0 - 1) / x0 = k at *
    obtain ⟨j, rfl⟩ := Nat.exists_eq_add_of_le hn
    subst ex ey
    clear c2 c4 hok cast
    rw [Nat.mul_assoc (k + j) x0, Nat.mul_assoc (k + j) y0] at l1 l2
    generalize y0 * 2 ^ 136 = Y at *
    generalize x0 * A = Z at *
    rw [Nat.add_mul, Nat.add_mul] at l1 l2
    rw [Nat.mul_comm k Z, Nat.mul_comm j Z, Nat.mul_comm k Y, Nat.mul_comm j Y] at l1 l2
  · have hd : Y <= Z := by
      rcases Nat.lt_or_ge Z Y with g | g
      · have := Nat.mul_le_mul_right k (Nat.le_of_lt g)
        omega
      · exact g
    have := Nat.mul_le_mul_right j hd
    omega
  · have hd : Z <= Y := by
      rcases Nat.lt_or_ge Y Z with g | g
      · have := Nat.mul_le_mul_right k (Nat.le_of_lt g)
        omega
      · exact g
    have := Nat.mul_le_mul_right j hd
    omega
end Go.AD.Fp
