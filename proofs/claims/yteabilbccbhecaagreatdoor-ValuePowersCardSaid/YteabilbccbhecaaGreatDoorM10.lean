import Derived.Test.YteabilbccbhecaaGreatDoorM9
import Ieee.Arith
set_option maxRecDepth 100000
set_option linter.unusedSimpArgs false
namespace Go.AD.Fp
theorem rungD_mono {d d' : Nat} {p p' : Int} (h : d * tn p * td p' <= d' * tn p' * td p) : rungD d p <= rungD d' p' := by
  have : rung (d * tn p * e1074) (td p) <= rung (d' * tn p' * e1074) (td p') := by
    refine rung_mono (td_pos _) (td_pos _) ?_
    rw [Nat.mul_right_comm _ (e1074), Nat.mul_right_comm _ (e1074)]
    exact Nat.mul_le_mul_right _ h
  unfold rungD
  omega
theorem ten_split (p : Int) (j : Nat) : tn (p + j) * td p = 10 ^ j * tn p * td (p + j) := by
  unfold tn td
  rw [<- Nat.pow_add, <- Nat.pow_add, <- Nat.pow_add]
  congr 1
  omega
theorem rungD_zeros (d j : Nat) (p : Int) : rungD (d * 10 ^ j) p = rungD d (p + j) := by
  have e : d * 10 ^ j * tn p * td (p + j) = d * tn (p + j) * td p := by
    rw [Nat.mul_assoc d (tn (p + j)), ten_split]
    simp only [Nat.mul_assoc]
  exact Nat.le_antisymm (rungD_mono (Nat.le_of_eq e)) (rungD_mono (Nat.le_of_eq e.symm))
theorem rungD_cut {n d j : Nat} (h1 : d * 10 ^ j <= n) (h2 : n <= (d + 1) * 10 ^ j) (p : Int) : rungD d (p + j) <= rungD n p /\ rungD n p <= rungD (d + 1) (p + j) := by
  rw [<- rungD_zeros, <- rungD_zeros]
  exact ⟨rungD_mono (Nat.mul_le_mul_right _ (Nat.mul_le_mul_right _ h1)), rungD_mono (Nat.mul_le_mul_right _ (Nat.mul_le_mul_right _ h2))⟩
theorem rungD_mono_d {d d' : Nat} {p : Int} (h : d <= d') : rungD d p <= rungD d' p := rungD_mono (Nat.mul_le_mul_right _ (Nat.mul_le_mul_right _ h))
theorem rungD_mono_p {d : Nat} {p p' : Int} (h : p <= p') : rungD d p <= rungD d p' := by
  obtain ⟨j, rfl⟩ : ∃ j : Nat, p' = p + j := ⟨(p' - p).toNat, by omega⟩
  rw [<- rungD_zeros]
  exact rungD_mono_d (Nat.le_mul_of_pos_right _ (Nat.pow_pos (by decide)))
theorem rungD_le (d : Nat) (p : Int) : rungD d p <= infR := Nat.min_le_right ..
theorem rungD_zero_d (p : Int) : rungD 0 p = 0 := by
  unfold rungD
  have : rung 0 (td p) = 0 := by
    unfold rung kOf rne
    simp
  rw [Nat.zero_mul, Nat.zero_mul, this]
  rfl
theorem rungD_inf1 : rungD 1 310 = infR := by decide +kernel
theorem rungD_small1 : rungD 10000000000000000000 (-345) = 0 := by decide +kernel
theorem rungD_inf {d : Nat} {p : Int} (hd : 0 < d) (h : 310 <= p) : rungD d p = infR :=
  Nat.le_antisymm (rungD_le ..) (by rw [<- rungD_inf1]; exact Nat.le_trans (rungD_mono_d hd) (rungD_mono_p h))
theorem rungD_small {d : Nat} {p : Int} (hd : d <= 10000000000000000000) (h : p <= -345) : rungD d p = 0 :=
  Nat.le_zero.1 (by rw [<- rungD_small1]; exact Nat.le_trans (rungD_mono_d hd) (rungD_mono_p h))
end Go.AD.Fp

set_option maxRecDepth 100000
set_option linter.unusedSimpArgs false
namespace Go.AD.Fp
def n10 (l : List Nat) : Nat := l.foldl (fun n d => 10 * n + d) 0
theorem foldl10 : ∀ (l : List Nat) (n : Nat), l.foldl (fun n d => 10 * n + d) n = n * 10 ^ l.length + n10 l
  | [], n => by simp [n10]
  | d :: l, n => by
    rw [List.foldl_cons, foldl10 l]
    have e : n10 (d :: l) = d * 10 ^ l.length + n10 l := by
      unfold n10
      rw [List.foldl_cons, foldl10 l]
      simp [n10]
    rw [e, List.length_cons, Nat.pow_succ, Nat.add_mul]
    rw [show n * (10 ^ l.length * 10) = 10 * n * 10 ^ l.length by rw [<- Nat.mul_assoc, Nat.mul_comm, Nat.mul_assoc]]
    omega
theorem n10_nil : n10 [] = 0 := rfl
theorem n10_cons (d : Nat) (l : List Nat) : n10 (d :: l) = d * 10 ^ l.length + n10 l := by
  unfold n10
  rw [List.foldl_cons, foldl10]
  simp [n10]
theorem n10_app (a b : List Nat) : n10 (a ++ b) = n10 a * 10 ^ b.length + n10 b := by
  rw [n10, List.foldl_append, foldl10]; rfl
theorem n10_snoc (a : List Nat) (d : Nat) : n10 (a ++ [d]) = 10 * n10 a + d := by
  rw [n10_app, n10_cons, n10_nil]; simp; omega
theorem n10_zeros (k : Nat) : n10 (List.replicate k 0) = 0 := by
  induction k with
  | zero => rfl
  | succ k ih => rw [List.replicate_succ, n10_cons, ih]; simp
def Dg (l : List Nat) : Prop := ∀ d ∈ l, d < 10
theorem Dg.app {a b : List Nat} (h : Dg a) (h' : Dg b) : Dg (a ++ b) := fun d hd => (List.mem_append.1 hd).elim (h d) (h' d)
theorem Dg.left {a b : List Nat} (h : Dg (a ++ b)) : Dg a := fun d hd => h d (List.mem_append_left _ hd)
theorem Dg.right {a b : List Nat} (h : Dg (a ++ b)) : Dg b := fun d hd => h d (List.mem_append_right _ hd)
theorem n10_lt : ∀ {l : List Nat}, Dg l -> n10 l < 10 ^ l.length
  | [], _ => by simp [n10]
  | d :: l, h => by
    have ih := n10_lt (l := l) (fun x hx => h x (List.mem_cons_of_mem _ hx))
    have hd := h d (List.mem_cons_self ..)
    rw [n10_cons, List.length_cons, Nat.pow_succ]
    have : d * 10 ^ l.length <= 9 * 10 ^ l.length := Nat.mul_le_mul_right _ (by omega)
    omega
theorem n10_ge {d : Nat} {l : List Nat} (hd : 0 < d) : 10 ^ l.length <= n10 (d :: l) := by
  rw [n10_cons]
  have : 1 * 10 ^ l.length <= d * 10 ^ l.length := Nat.mul_le_mul_right _ hd
  omega
structure Read (N : Nat) (m j : Nat) (tr : Bool) : Prop where
  lo : m * 10 ^ j <= N
  hi : N < (m + 1) * 10 ^ j
  tr : tr = true ↔ N ≠ m * 10 ^ j
  few : j = 0 \/ 1000000000000000000 <= m
  lt : m < 10000000000000000000
theorem read_exact {N m j : Nat} (h : Read N m j false) (q : Int) : rungD N q = rungD m (q + j) := by
  have e : N = m * 10 ^ j := by
    rcases Nat.decEq N (m * 10 ^ j) with h1 | h1
    · exact absurd (h.tr.2 h1) (by decide)
    · exact h1
  rw [e, rungD_zeros]
theorem read_cut {N m j : Nat} {tr : Bool} (h : Read N m j tr) (q : Int) (he : rungD m (q + j) = rungD (m + 1) (q + j)) : rungD N q = rungD m (q + j) := by
  have := rungD_cut h.lo (Nat.le_of_lt h.hi) q
  omega
theorem read_huge {N m j : Nat} {tr : Bool} (h : Read N m j tr) (hm : 0 < m) {q : Int} (hq : 310 <= q + j) : rungD N q = infR := by
  have h1 := (rungD_cut h.lo (Nat.le_of_lt h.hi) q).1
  rw [rungD_inf hm hq] at h1
  exact Nat.le_antisymm (rungD_le ..) h1
theorem read_tiny {N m j : Nat} {tr : Bool} (h : Read N m j tr) {q : Int} (hq : q + j <= -345) : rungD N q = 0 := by
  have h1 := (rungD_cut h.lo (Nat.le_of_lt h.hi) q).2
  rw [rungD_small (by have := h.lt; omega) hq] at h1
  omega
theorem read_zero {N j : Nat} {tr : Bool} (h : Read N 0 j tr) : N = 0 := by
  rcases h.few with h1 | h1
  · subst h1; have := h.hi; simpa using this
  · omega
theorem Read.start : Read 0 0 0 false := ⟨by simp, by simp, by simp, .inl rfl, by decide⟩
theorem Read.take {N m : Nat} {tr : Bool} (h : Read N m 0 tr) (hm : m < 1000000000000000000) {d : Nat} (hd : d < 10) : Read (10 * N + d) (10 * m + d) 0 tr := by
  have h1 := h.lo; have h2 := h.hi; have h3 := h.tr
  simp only [Nat.pow_zero, Nat.mul_one] at *
  have e : N = m := by omega
  subst e
  refine ⟨by simp, by simp, ?_, .inl rfl, by omega⟩
  simp only [Nat.pow_zero, Nat.mul_one]
  rw [h3]; simp
theorem Read.leave {N m j : Nat} {tr : Bool} (h : Read N m j tr) (hm : 1000000000000000000 <= m) {d : Nat} (hd : d < 10) : Read (10 * N + d) m (j + 1) (tr || decide (d ≠ 0)) := by
  have h1 := h.lo; have h2 := h.hi; have h3 := h.tr; have h4 := h.lt
  have e1 : m * 10 ^ (j + 1) = 10 * (m * 10 ^ j) := by rw [Nat.pow_succ, <- Nat.mul_assoc, Nat.mul_comm]
  have e2 : (m + 1) * 10 ^ (j + 1) = 10 * ((m + 1) * 10 ^ j) := by rw [Nat.pow_succ, <- Nat.mul_assoc, Nat.mul_comm]
  refine ⟨by rw [e1]; omega, by rw [e2]; omega, ?_, .inr hm, h4⟩
  rw [Bool.or_eq_true, decide_eq_true_eq, h3, e1]
  omega
end Go.AD.Fp

set_option maxRecDepth 100000
set_option linter.unusedSimpArgs false
namespace Go.AD.Fp
open Ieee
theorem dbl_least : double.leastPlace = -1074 := by decide
theorem dbl_binade : double.binade = 2 ^ 52 := rfl
theorem dbl_inf : double.infRung = infR := by decide
theorem dbl_sign : double.signWeight = 2 ^ 63 := rfl
theorem cut_rne (neg : Bool) (n drop : Nat) : Toward.even.cut neg n drop = rne n (2 ^ drop) := by
  unfold Toward.cut rne
  simp only [Nat.one_shiftLeft]
  rcases Nat.lt_or_ge (n.log2 + 2) drop with h | h
  · rw [show min drop (n.log2 + 2) = n.log2 + 2 by omega]
    have h1 : n < 2 ^ (n.log2 + 1) := Nat.lt_log2_self
    have h2 : 2 ^ (n.log2 + 2) = 2 * 2 ^ (n.log2 + 1) := by rw [Nat.pow_succ, Nat.mul_comm]
    have h3 : 2 ^ (n.log2 + 2) <= 2 ^ drop := Nat.pow_le_pow_right (by decide) (by omega)
    have a1 : n / 2 ^ (n.log2 + 2) = 0 := Nat.div_eq_of_lt (by omega)
    have a2 : n % 2 ^ (n.log2 + 2) = n := Nat.mod_eq_of_lt (by omega)
    have a3 : n / 2 ^ drop = 0 := Nat.div_eq_of_lt (by omega)
    have a4 : n % 2 ^ drop = n := Nat.mod_eq_of_lt (by omega)
    rw [a1, a2, a3, a4, if_neg (by omega)]
    have : (decide (2 ^ (n.log2 + 2) < 2 * n) || 2 ^ (n.log2 + 2) == 2 * n && 0 % 2 == 1) = false := by
      simp; omega
    rw [this]; rfl
  · rw [show min drop (n.log2 + 2) = drop by omega]
    congr 1
    by_cases h1 : 2 ^ drop < 2 * (n % 2 ^ drop) \/ 2 * (n % 2 ^ drop) = 2 ^ drop /\ n / 2 ^ drop % 2 = 1
    · rw [if_pos h1]
      have : (decide (2 ^ drop < 2 * (n % 2 ^ drop)) || 2 ^ drop == 2 * (n % 2 ^ drop) && n / 2 ^ drop % 2 == 1) = true := by
        simp; omega
      rw [this]; rfl
    · rw [if_neg h1]
      have : (decide (2 ^ drop < 2 * (n % 2 ^ drop)) || 2 ^ drop == 2 * (n % 2 ^ drop) && n / 2 ^ drop % 2 == 1) = false := by
        simp; omega
      rw [this]; rfl
theorem rne_one (n : Nat) : rne n 1 = n := by unfold rne; simp [Nat.mod_one]
theorem log2_shl {m s : Nat} (hm : m ≠ 0) : (m * 2 ^ s).log2 = m.log2 + s := by
  have h1 := Nat.log2_self_le hm
  have h2 : m < 2 ^ (m.log2 + 1) := Nat.lt_log2_self
  have hne : m * 2 ^ s ≠ 0 := Nat.mul_ne_zero hm (Nat.pos_iff_ne_zero.1 (two_pos s))
  have l1 : 2 ^ (m.log2 + s) <= m * 2 ^ s := by rw [Nat.pow_add]; exact Nat.mul_le_mul_right _ h1
  have l2 : m * 2 ^ s < 2 ^ (m.log2 + s + 1) := by
    rw [show m.log2 + s + 1 = (m.log2 + 1) + s by omega, Nat.pow_add]
    exact Nat.mul_lt_mul_of_pos_right h2 (two_pos s)
  have l3 := Nat.log2_self_le hne
  have l4 : m * 2 ^ s < 2 ^ ((m * 2 ^ s).log2 + 1) := Nat.lt_log2_self
  have a := Nat.lt_of_le_of_lt l1 l4
  have b := Nat.lt_of_le_of_lt l3 l2
  have a' := (Nat.pow_lt_pow_iff_right (by decide)).1 a
  have b' := (Nat.pow_lt_pow_iff_right (by decide)).1 b
  omega
theorem nearest_rung (neg : Bool) (mag : Nat) (place : Int) (hp : -1074 <= place) : double.nearest neg mag place = double.word neg (min (rung (mag * 2 ^ (place + 1074).toNat) 1) infR) := by
  unfold Format.nearest
  dsimp only
  by_cases hm : mag = 0
  · rw [if_pos hm, hm, Nat.zero_mul]
    have : rung 0 1 = 0 := by decide
    rw [this]; rfl
  · rw [if_neg hm, dbl_least, dbl_binade, dbl_inf]
    obtain ⟨s, hs⟩ : ∃ s : Nat, place = s - 1074 := ⟨(place + 1074).toNat, by omega⟩
    rw [show (place + 1074).toNat = s by omega]
    have hk : kOf (mag * 2 ^ s) 1 = mag.log2 + s - 52 := by unfold kOf; rw [Nat.div_one, log2_shl hm]
    unfold rung
    rw [hk, Nat.one_mul]
    have hlast : (max (place + ↑mag.log2 - ↑double.fractionBits) (-1074) : Int) = ((mag.log2 + s - 52 : Nat) : Int) - 1074 := by
      show (max (place + ↑mag.log2 - 52) (-1074) : Int) = _
      omega
    rw [hlast]
    have e1 : (((mag.log2 + s - 52 : Nat) : Int) - 1074 - -1074).toNat = mag.log2 + s - 52 := by omega
    rw [e1, cut_rne]
    congr 3
    rcases Nat.lt_or_ge s (mag.log2 + s - 52) with h | h
    · have e2 : (place - (((mag.log2 + s - 52 : Nat) : Int) - 1074)).toNat = 0 := by omega
      have e3 : ((((mag.log2 + s - 52 : Nat) : Int) - 1074) - place).toNat = (mag.log2 + s - 52) - s := by omega
      rw [e2, e3, Nat.shiftLeft_zero]
      have e4 : 2 ^ (mag.log2 + s - 52) = 2 ^ (mag.log2 + s - 52 - s) * 2 ^ s := by rw [<- Nat.pow_add]; congr 1; omega
      rw [e4, rne_scale (two_pos s)]
    · have e2 : (place - (((mag.log2 + s - 52 : Nat) : Int) - 1074)).toNat = s - (mag.log2 + s - 52) := by omega
      have e3 : ((((mag.log2 + s - 52 : Nat) : Int) - 1074) - place).toNat = 0 := by omega
      rw [e2, e3, Nat.pow_zero, rne_one, Nat.shiftLeft_eq]
      have e4 : mag * 2 ^ s = mag * 2 ^ (s - (mag.log2 + s - 52)) * 2 ^ (mag.log2 + s - 52) := by rw [Nat.mul_assoc, <- Nat.pow_add]; congr 2; omega
      rw [e4]
      have := rne_scale (a := mag * 2 ^ (s - (mag.log2 + s - 52))) (b := 1) (two_pos (mag.log2 + s - 52))
      rw [Nat.one_mul, rne_one] at this
      exact this.symm
theorem read_word {neg : Bool} {r : Nat} (h : r < infR) : double.read (double.word neg r) = if r < 2 ^ 52 then .number neg r (-1074) else .number neg (2 ^ 52 + r % 2 ^ 52) (-1074 + (r / 2 ^ 52 - 1 : Nat)) := by
  have hi : infR = 9218868437227405312 := rfl
  have h63 : double.word neg r / double.signWeight % 2 = neg.toNat := by
    unfold Format.word
    rw [dbl_sign]
    cases neg
    · simp; omega
    · simp; omega
  have hm : double.word neg r % double.signWeight = r := by
    unfold Format.word
    rw [dbl_sign]
    cases neg
    · simp; omega
    · simp; omega
  unfold Format.read
  dsimp only
  rw [h63, hm, dbl_binade, dbl_inf, dbl_least]
  have e : (neg.toNat == 1) = neg := by cases neg <;> rfl
  rw [e]
  by_cases h1 : r < 2 ^ 52
  · rw [if_pos h1, if_pos h1]
  · rw [if_neg h1, if_neg h1, if_pos h]
theorem rung_exact {mag s : Nat} (hm : 0 < mag) (h : mag < 2 ^ 53) (hs : s <= 1500) : ∃ k m, kOf (mag * 2 ^ s) 1 = k /\ mag * 2 ^ s = m * 2 ^ k /\ m < 2 ^ 53 /\ (k = 0 \/ 2 ^ 52 <= m) /\ rung (mag * 2 ^ s) 1 = k * 2 ^ 52 + m := by
  have hne : mag ≠ 0 := by omega
  have hk : kOf (mag * 2 ^ s) 1 = mag.log2 + s - 52 := by unfold kOf; rw [Nat.div_one, log2_shl hne]
  have hl : mag.log2 < 53 := (Nat.log2_lt hne).2 h
  have hlo := Nat.log2_self_le hne
  refine ⟨mag.log2 + s - 52, mag * 2 ^ (s - (mag.log2 + s - 52)), hk, ?_, ?_, ?_, ?_⟩
  · rw [Nat.mul_assoc, <- Nat.pow_add]; congr 2; omega
  · rcases Nat.eq_zero_or_pos (mag.log2 + s - 52) with h0 | h0
    · rw [h0, Nat.sub_zero]
      have h1 : mag < 2 ^ (mag.log2 + 1) := Nat.lt_log2_self
      have : mag * 2 ^ s < 2 ^ (mag.log2 + 1) * 2 ^ s := Nat.mul_lt_mul_of_pos_right h1 (two_pos s)
      rw [<- Nat.pow_add] at this
      exact Nat.lt_of_lt_of_le this (Nat.pow_le_pow_right (by decide) (by omega))
    · have h1 : mag < 2 ^ (mag.log2 + 1) := Nat.lt_log2_self
      have : mag * 2 ^ (s - (mag.log2 + s - 52)) < 2 ^ (mag.log2 + 1) * 2 ^ (s - (mag.log2 + s - 52)) := Nat.mul_lt_mul_of_pos_right h1 (two_pos _)
      rw [<- Nat.pow_add] at this
      exact Nat.lt_of_lt_of_le this (Nat.pow_le_pow_right (by decide) (by omega))
  · rcases Nat.eq_zero_or_pos (mag.log2 + s - 52) with h0 | h0
    · exact .inl h0
    · right
      have : 2 ^ mag.log2 * 2 ^ (s - (mag.log2 + s - 52)) <= mag * 2 ^ (s - (mag.log2 + s - 52)) := Nat.mul_le_mul_right _ hlo
      rw [<- Nat.pow_add] at this
      exact Nat.le_trans (Nat.pow_le_pow_right (by decide) (by omega)) this
  · unfold rung
    rw [hk, Nat.one_mul]
    congr 1
    have e4 : mag * 2 ^ s = mag * 2 ^ (s - (mag.log2 + s - 52)) * 2 ^ (mag.log2 + s - 52) := by rw [Nat.mul_assoc, <- Nat.pow_add]; congr 2; omega
    conv => lhs; rw [e4]
    have := rne_scale (a := mag * 2 ^ (s - (mag.log2 + s - 52))) (b := 1) (two_pos (mag.log2 + s - 52))
    rw [Nat.one_mul, rne_one] at this
    exact this
end Go.AD.Fp

set_option maxRecDepth 100000
set_option linter.unusedSimpArgs false
namespace Go.AD.Fp
open Ieee
theorem pw (a b : Nat) : 2 ^ a * 2 ^ b = 2 ^ (a + b) := (Nat.pow_add 2 a b).symm
theorem pw3 (a b c : Nat) : 2 ^ a * 2 ^ b * 2 ^ c = 2 ^ (a + b + c) := by rw [pw, pw]
set_option exponentiation.threshold 10000 in
theorem pwe (a : Nat) : 2 ^ a * e1074 = 2 ^ (a + 1074) := by unfold e1074; exact pw a _
def IsN (w : Nat) (neg : Bool) (V : Nat) : Prop := ∃ mag place, double.read w = .number neg mag place /\ -60 <= place /\ mag < 2 ^ 53 /\ mag * 2 ^ (place + 60).toNat = V * 2 ^ 60
def wordR (neg : Bool) (r : Nat) : Nat := double.word neg (min r infR)
set_option exponentiation.threshold 10000 in
theorem isN_nat {V : Nat} (neg : Bool) (h0 : 0 < V) (h : V < 2 ^ 53) : IsN (wordR neg (rung (V * e1074) 1)) neg V := by
  obtain ⟨k, m, h1, h2, h3, h4, h5⟩ := rung_exact (s := 1074) h0 h (by decide)
  have hk : k <= 1075 := by
    rw [<- h1]; unfold kOf; rw [Nat.div_one, log2_shl (by omega)]
    have : V.log2 < 53 := (Nat.log2_lt (by omega)).2 h
    omega
  have hk2 : 1022 <= k := by
    have a1 : 1 * 2 ^ 1074 <= V * 2 ^ 1074 := Nat.mul_le_mul_right (2 ^ 1074) h0
    have a2 : m * 2 ^ k < 2 ^ 53 * 2 ^ k := Nat.mul_lt_mul_of_pos_right h3 (two_pos k)
    rw [Nat.one_mul, h2] at a1
    rw [<- Nat.pow_add] at a2
    have := (Nat.pow_lt_pow_iff_right (a := 2) (by decide)).1 (Nat.lt_of_le_of_lt a1 a2)
    omega
  have hm : 2 ^ 52 <= m := by omega
  have hi : infR = 9218868437227405312 := rfl
  have e52 : (2 : Nat) ^ 52 = 4503599627370496 := rfl
  have e53 : (2 : Nat) ^ 53 = 9007199254740992 := rfl
  have hr : k * 2 ^ 52 + m < infR := by omega
  unfold wordR
  have h5' : rung (V * e1074) 1 = k * 2 ^ 52 + m := h5
  rw [h5', Nat.min_eq_left (Nat.le_of_lt hr)]
  have hw := read_word (neg := neg) hr
  rw [if_neg (by omega)] at hw
  have q1 : (k * 2 ^ 52 + m) / 2 ^ 52 = k + 1 := by omega
  have q2 : (k * 2 ^ 52 + m) % 2 ^ 52 = m - 2 ^ 52 := by omega
  rw [q1, q2] at hw
  refine ⟨_, _, hw, by omega, by omega, ?_⟩
  rw [show 2 ^ 52 + (m - 2 ^ 52) = m by omega]
  have e3 : ((-1074 : Int) + ((k + 1 - 1 : Nat) : Int) + 60).toNat = k - 1014 := by omega
  rw [e3]
  refine Nat.eq_of_mul_eq_mul_right (two_pos 1014) ?_
  rw [Nat.mul_assoc, <- Nat.pow_add, Nat.mul_assoc, <- Nat.pow_add, show k - 1014 + 1014 = k by omega]
  exact h2.symm
theorem rung_cross {a b c d : Nat} (hb : 0 < b) (hd : 0 < d) (h : a * d = c * b) : rung a b = rung c d :=
  Nat.le_antisymm (rung_mono hb hd (Nat.le_of_eq h)) (rung_mono hd hb (Nat.le_of_eq h.symm))
theorem write_num (neg : Bool) (mag : Nat) (place : Int) (hp : -1074 <= place) : double.write (.number neg mag place) = wordR neg (rung (mag * 2 ^ (place + 1074).toNat) 1) := nearest_rung neg mag place hp
set_option exponentiation.threshold 10000 in
theorem mul_isN {x y V W : Nat} {s t : Bool} (hx : IsN x s V) (hy : IsN y t W) : double.mul x y = some (wordR (s ^^ t) (rung (V * W * e1074) 1)) := by
  obtain ⟨m, i, h1, h2, h3, h4⟩ := hx
  obtain ⟨n, j, k1, k2, k3, k4⟩ := hy
  unfold Format.mul
  rw [h1, k1]
  simp only [Datum.product, Option.map_some]
  rw [write_num _ _ _ (by omega)]
  congr 3
  have e : m * n * 2 ^ (i + j + 1074).toNat = V * W * 2 ^ 1074 := by
    rw [show (i + j + 1074).toNat = (i + 60).toNat + (j + 60).toNat + 954 by omega, <- pw3 (i + 60).toNat (j + 60).toNat 954]
    have e2 : m * n * (2 ^ (i + 60).toNat * 2 ^ (j + 60).toNat * 2 ^ 954) = (m * 2 ^ (i + 60).toNat) * (n * 2 ^ (j + 60).toNat) * 2 ^ 954 := by
      simp only [Nat.mul_assoc, Nat.mul_left_comm, Nat.mul_comm]
    rw [e2, h4, k4]
    have e3 : V * 2 ^ 60 * (W * 2 ^ 60) * 2 ^ 954 = V * W * (2 ^ 60 * 2 ^ 60 * 2 ^ 954) := by
      simp only [Nat.mul_assoc, Nat.mul_left_comm, Nat.mul_comm]
    rw [e3, pw3 60 60 954]
  exact e
theorem sticky_rne {D n j : Nat} (hn : 0 < n) (hj : 1 <= j) : rne (2 * (D / n) + if D % n = 0 then 0 else 1) (2 * 2 ^ j) = rne D (n * 2 ^ j) := by
  have key : ∀ i, i + 1 <= rne (2 * (D / n) + if D % n = 0 then 0 else 1) (2 * 2 ^ j) ↔ i + 1 <= rne D (n * 2 ^ j) := by
    intro i
    rw [le_rne (by have := two_pos j; omega), le_rne (Nat.mul_pos hn (two_pos j))]
    obtain ⟨c, hc⟩ : ∃ c, (2 * i + 1) * 2 ^ j = 2 * c := by
      obtain ⟨k, rfl⟩ : ∃ k, j = k + 1 := ⟨j - 1, by omega⟩
      exact ⟨(2 * i + 1) * 2 ^ k, by rw [Nat.pow_succ, <- Nat.mul_assoc, Nat.mul_comm]⟩
    have e1 : (2 * i + 1) * (2 * 2 ^ j) = 2 * (2 * c) := by rw [Nat.mul_left_comm, hc]
    have e2 : (2 * i + 1) * (n * 2 ^ j) = 2 * (c * n) := by rw [Nat.mul_left_comm, hc, Nat.mul_comm, Nat.mul_assoc]
    rw [e1, e2]
    have hd := Nat.div_add_mod D n
    have hm := Nat.mod_lt D hn
    generalize D / n = q at *
    generalize D % n = r at *
    rw [Nat.mul_comm] at hd
    rcases Nat.lt_trichotomy c q with h | h | h
    · have : c * n + n <= q * n := by rw [<- Nat.succ_mul]; exact Nat.mul_le_mul_right n h
      constructor
      · intro _; exact .inl (by omega)
      · intro _; split <;> omega
    · subst h
      by_cases hr : r = 0
      · rw [if_pos hr]; omega
      · rw [if_neg hr]; omega
    · have : q * n + n <= c * n := by rw [<- Nat.succ_mul]; exact Nat.mul_le_mul_right n h
      constructor
      · intro h2; exfalso; split at h2 <;> omega
      · intro h2; omega
  have h1 := fun i => (key i).1
  have h2 := fun i => (key i).2
  generalize rne (2 * (D / n) + if D % n = 0 then 0 else 1) (2 * 2 ^ j) = a at *
  generalize rne D (n * 2 ^ j) = b at *
  rcases Nat.lt_trichotomy a b with h | h | h
  · have := h2 a h; omega
  · exact h
  · have := h1 b h; omega
theorem sticky_rung {D n q : Nat} (hn : 0 < n) (hQ : 2 ^ 53 <= D / n) : rung ((2 * (D / n) + if D % n = 0 then 0 else 1) * 2 ^ q) 1 = rung (D * 2 ^ (q + 1)) n := by
  have hne : D / n ≠ 0 := by omega
  have hl : 53 <= (D / n).log2 := (Nat.le_log2 hne).2 hQ
  have lo := Nat.log2_self_le hne
  have hi : D / n < 2 ^ ((D / n).log2 + 1) := Nat.lt_log2_self
  have hd := Nat.div_add_mod D n
  have hm := Nat.mod_lt D hn
  obtain ⟨j, hj⟩ : ∃ j, (D / n).log2 = 52 + j := ⟨(D / n).log2 - 52, by omega⟩
  have hst : (if D % n = 0 then 0 else 1) <= 1 := by split <;> omega
  have hs := sticky_rne (D := D) hn (j := j) (by omega)
  generalize (if D % n = 0 then 0 else 1) = st at *
  generalize D / n = Q at *
  rw [hj] at lo hi
  have hk1 : rung ((2 * Q + st) * 2 ^ q) 1 = (q + 1 + j) * 2 ^ 52 + rne ((2 * Q + st) * 2 ^ q) (1 * 2 ^ (q + 1 + j)) := by
    refine rung_k (by decide) ?_ (.inr ?_)
    · rw [Nat.one_mul, show 53 + (q + 1 + j) = (1 + (52 + j + 1)) + q by omega, Nat.pow_add _ _ q]
      refine Nat.mul_lt_mul_of_pos_right ?_ (two_pos q)
      rw [Nat.pow_add]
      omega
    · rw [Nat.one_mul, show 52 + (q + 1 + j) = (1 + (52 + j)) + q by omega, Nat.pow_add _ _ q]
      refine Nat.mul_le_mul_right _ ?_
      rw [Nat.pow_add]
      omega
  have hk2 : rung (D * 2 ^ (q + 1)) n = (q + 1 + j) * 2 ^ 52 + rne (D * 2 ^ (q + 1)) (n * 2 ^ (q + 1 + j)) := by
    refine rung_k hn ?_ (.inr ?_)
    · rw [show 53 + (q + 1 + j) = (52 + j + 1) + (q + 1) by omega, Nat.pow_add _ _ (q + 1), <- Nat.mul_assoc]
      refine Nat.mul_lt_mul_of_pos_right ?_ (two_pos _)
      have : n * (Q + 1) <= n * 2 ^ (52 + j + 1) := Nat.mul_le_mul_left n hi
      rw [Nat.mul_add, Nat.mul_one] at this
      omega
    · rw [show 52 + (q + 1 + j) = (52 + j) + (q + 1) by omega, Nat.pow_add _ _ (q + 1), <- Nat.mul_assoc]
      refine Nat.mul_le_mul_right _ ?_
      have : n * 2 ^ (52 + j) <= n * Q := Nat.mul_le_mul_left n lo
      omega
  rw [hk1, hk2]
  congr 1
  have r1 : rne ((2 * Q + st) * 2 ^ q) (1 * 2 ^ (q + 1 + j)) = rne (2 * Q + st) (2 * 2 ^ j) := by
    have e : 1 * 2 ^ (q + 1 + j) = 2 * 2 ^ j * 2 ^ q := by
      rw [Nat.one_mul, show q + 1 + j = 1 + j + q by omega, Nat.pow_add, Nat.pow_add]
    rw [e, rne_scale (two_pos q)]
  have r2 : rne (D * 2 ^ (q + 1)) (n * 2 ^ (q + 1 + j)) = rne D (n * 2 ^ j) := by
    have e : n * 2 ^ (q + 1 + j) = n * 2 ^ j * 2 ^ (q + 1) := by
      rw [Nat.mul_assoc, <- Nat.pow_add]; congr 2; omega
    rw [e, rne_scale (two_pos _)]
  rw [r1, r2]
  exact hs
theorem div_isN {x y V W : Nat} {s t : Bool} (hx : IsN x s V) (hy : IsN y t W) (hV : 0 < V) (hW : 0 < W) (hWb : W < 2 ^ 200) : double.div x y = some (wordR (s ^^ t) (rung (V * e1074) W)) := by
  obtain ⟨m, i, h1, h2, h3, h4⟩ := hx
  obtain ⟨n, j, k1, k2, k3, k4⟩ := hy
  have hm : m ≠ 0 := by intro e; rw [e, Nat.zero_mul] at h4; have := Nat.mul_pos hV (two_pos 60); omega
  have hn : n ≠ 0 := by intro e; rw [e, Nat.zero_mul] at k4; have := Nat.mul_pos hW (two_pos 60); omega
  have lm : m.log2 < 53 := (Nat.log2_lt hm).2 h3
  have ln : n.log2 < 53 := (Nat.log2_lt hn).2 k3
  have hj : j < 200 := by
    have a1 : 1 * 2 ^ (j + 60).toNat <= n * 2 ^ (j + 60).toNat := Nat.mul_le_mul_right _ (by omega)
    have a2 : W * 2 ^ 60 < 2 ^ 200 * 2 ^ 60 := Nat.mul_lt_mul_of_pos_right hWb (two_pos 60)
    rw [Nat.one_mul, k4] at a1
    rw [<- Nat.pow_add] at a2
    have := (Nat.pow_lt_pow_iff_right (a := 2) (by decide)).1 (Nat.lt_of_le_of_lt a1 a2)
    omega
  unfold Format.div
  rw [h1, k1]
  simp only [Datum.quotient, if_neg hn, Option.map_some]
  have e54 : double.fractionBits + 2 = 54 := rfl
  rw [e54]
  obtain ⟨mr, hmr⟩ : ∃ mr, mr = 54 + n.log2 - m.log2 := ⟨_, rfl⟩
  rw [<- hmr, Nat.shiftLeft_eq]
  have hst : ((m * 2 ^ mr % n != 0) : Bool).toNat = if m * 2 ^ mr % n = 0 then 0 else 1 := by
    by_cases h : m * 2 ^ mr % n = 0 <;> simp [h]
  rw [hst]
  have hQ : 2 ^ 53 <= m * 2 ^ mr / n := by
    rw [Nat.le_div_iff_mul_le (by omega)]
    have a1 : n < 2 ^ (n.log2 + 1) := Nat.lt_log2_self
    have a2 := Nat.log2_self_le hm
    have a3 : 2 ^ m.log2 * 2 ^ mr <= m * 2 ^ mr := Nat.mul_le_mul_right _ a2
    rw [<- Nat.pow_add, show m.log2 + mr = 53 + (n.log2 + 1) by omega, Nat.pow_add] at a3
    have a4 : 2 ^ 53 * n <= 2 ^ 53 * 2 ^ (n.log2 + 1) := Nat.mul_le_mul_left _ (Nat.le_of_lt a1)
    omega
  obtain ⟨q, hq⟩ : ∃ q : Nat, i - j - (mr : Int) - 1 + 1074 = q := ⟨(i - j - (mr : Int) - 1 + 1074).toNat, by omega⟩
  rw [write_num _ _ _ (by omega), hq, Int.toNat_natCast, sticky_rung (by omega) hQ]
  suffices h : rung (m * 2 ^ mr * 2 ^ (q + 1)) n = rung (V * e1074) W by rw [h]
  refine rung_cross (by omega) hW ?_
  refine Nat.eq_of_mul_eq_mul_right (two_pos 60) ?_
  have l1 : m * 2 ^ mr * 2 ^ (q + 1) * W * 2 ^ 60 = m * (2 ^ mr * 2 ^ (q + 1)) * (W * 2 ^ 60) := by simp only [Nat.mul_assoc, Nat.mul_left_comm, Nat.mul_comm]
  have l2 : V * e1074 * n * 2 ^ 60 = (V * 2 ^ 60) * e1074 * n := by simp only [Nat.mul_assoc, Nat.mul_left_comm, Nat.mul_comm]
  rw [l1, l2, <- k4, <- h4, <- Nat.pow_add]
  have l3 : m * 2 ^ (mr + (q + 1)) * (n * 2 ^ (j + 60).toNat) = m * n * (2 ^ (mr + (q + 1)) * 2 ^ (j + 60).toNat) := by simp only [Nat.mul_assoc, Nat.mul_left_comm, Nat.mul_comm]
  have l4 : m * 2 ^ (i + 60).toNat * e1074 * n = m * n * (2 ^ (i + 60).toNat * e1074) := by simp only [Nat.mul_assoc, Nat.mul_left_comm, Nat.mul_comm]
  rw [l3, l4]
  rw [pw, pwe]
  have : mr + (q + 1) + (j + 60).toNat = (i + 60).toNat + 1074 := by omega
  rw [this]
end Go.AD.Fp

set_option maxRecDepth 100000
set_option linter.unusedSimpArgs false
namespace Go.AD.Fp
open Ieee
def sgn (neg : Bool) (n : Nat) : Int := if neg = true then -(n : Int) else (n : Int)
def e4000 : Nat := 2 ^ 4000
theorem pow_le2 {a b : Nat} (h : a <= b) : 2 ^ a <= 2 ^ b := Nat.pow_le_pow_right (by decide) h
set_option exponentiation.threshold 10000 in
theorem le_e4000 {n : Nat} (h : n <= 4000) : 2 ^ n <= e4000 := pow_le2 h
def fvD : Datum -> Int
  | .number neg mag place => sgn neg (mag * 2 ^ (place + 1074).toNat)
  | .infinity neg => sgn neg e4000
  | .nan _ _ => 0
def fvZ (w : Nat) : Int := fvD (double.read w)
def isNaNw (w : Nat) : Bool := (double.read w).isNaN
def Fit : Datum -> Prop
  | .number _ mag place => mag < 2 ^ 53 /\ -1074 <= place /\ place <= 2000
  | _ => True
theorem read_fit (w : Nat) : Fit (double.read w) := by
  unfold Format.read
  dsimp only
  rw [dbl_sign, dbl_binade, dbl_inf, dbl_least]
  have hi : infR = 9218868437227405312 := rfl
  split
  · exact ⟨by omega, by decide, by decide⟩
  · split
    · refine ⟨?_, ?_, ?_⟩
      · omega
      · omega
      · omega
    · split
      · trivial
      · trivial
theorem signed_sgn (neg : Bool) (m u : Nat) : signed neg m u = sgn neg (m * 2 ^ u) := by
  unfold signed sgn
  rw [Nat.shiftLeft_eq]
theorem compare_scale (x y : Int) {c : Int} (hc : 0 < c) : compare (x * c) (y * c) = compare x y := by
  rcases Int.lt_trichotomy x y with h | h | h
  · rw [Int.compare_eq_lt.2 h, Int.compare_eq_lt.2 (Int.mul_lt_mul_of_pos_right h hc)]
  · subst h; rw [Int.compare_eq_eq.2 rfl, Int.compare_eq_eq.2 rfl]
  · rw [Int.compare_eq_gt.2 h, Int.compare_eq_gt.2 (Int.mul_lt_mul_of_pos_right h hc)]
theorem sgn_scale (neg : Bool) (a b : Nat) : sgn neg (a * b) = sgn neg a * (b : Int) := by
  unfold sgn
  cases neg <;> simp [Int.neg_mul]
theorem sgn_lt {neg : Bool} {a : Nat} {M : Int} (h : (a : Int) < M) : -M < sgn neg a /\ sgn neg a < M := by
  unfold sgn
  cases neg <;> simp <;> omega
theorem order_fv {a b : Datum} (ha : Fit a) (hb : Fit b) (na : a.isNaN = false) (nb : b.isNaN = false) : a.order b = some (compare (fvD a) (fvD b)) := by
  have big : ∀ {neg : Bool} {m : Nat} {p : Int}, Fit (.number neg m p) -> -((e4000 : Nat) : Int) < fvD (.number neg m p) /\ fvD (.number neg m p) < ((e4000 : Nat) : Int) := by
    intro neg m p hf
    obtain ⟨h1, h2, h3⟩ := hf
    refine sgn_lt ?_
    have : m * 2 ^ (p + 1074).toNat < 2 ^ 53 * 2 ^ (p + 1074).toNat := Nat.mul_lt_mul_of_pos_right h1 (two_pos _)
    rw [pw] at this
    have h4 : (2 : Nat) ^ (53 + (p + 1074).toNat) <= e4000 := le_e4000 (by omega)
    exact Int.ofNat_lt.2 (Nat.lt_of_lt_of_le this h4)
  have pos : (0 : Int) < ((e4000 : Nat) : Int) := Int.ofNat_lt.2 (Nat.lt_of_lt_of_le (two_pos 0) (le_e4000 (by decide)))
  cases a with
  | nan => cases na
  | infinity s =>
    cases b with
    | nan => cases nb
    | infinity t =>
      simp only [Datum.order, fvD, sgn]
      congr 1
      cases s <;> cases t <;> simp only [Bool.toNat_true, Bool.toNat_false, if_true, if_false, Bool.false_eq_true]
      · rw [Int.compare_eq_eq.2 rfl]; rfl
      · rw [Int.compare_eq_gt.2 (by omega)]; rfl
      · rw [Int.compare_eq_lt.2 (by omega)]; rfl
      · rw [Int.compare_eq_eq.2 rfl]; rfl
    | number t n j =>
      have hb := big hb
      simp only [Datum.order]
      congr 1
      cases s
      · rw [if_neg (by decide), Int.compare_eq_gt.2 (show fvD (.number t n j) < fvD (.infinity false) from hb.2)]
      · rw [if_pos rfl, Int.compare_eq_lt.2 (show fvD (.infinity true) < fvD (.number t n j) from hb.1)]
  | number s m i =>
    cases b with
    | nan => cases nb
    | infinity t =>
      have ha := big ha
      simp only [Datum.order]
      congr 1
      cases t
      · rw [if_neg (by decide), Int.compare_eq_lt.2 (show fvD (.number s m i) < fvD (.infinity false) from ha.2)]
      · rw [if_pos rfl, Int.compare_eq_gt.2 (show fvD (.infinity true) < fvD (.number s m i) from ha.1)]
    | number t n j =>
      obtain ⟨_, i1, i2⟩ := ha
      obtain ⟨_, j1, j2⟩ := hb
      simp only [Datum.order, signed_sgn, fvD]
      congr 1
      have e1 : m * 2 ^ (i + 1074).toNat = m * 2 ^ (i - min i j).toNat * 2 ^ (min i j + 1074).toNat := by
        rw [Nat.mul_assoc, pw]; congr 2; omega
      have e2 : n * 2 ^ (j + 1074).toNat = n * 2 ^ (j - min i j).toNat * 2 ^ (min i j + 1074).toNat := by
        rw [Nat.mul_assoc, pw]; congr 2; omega
      rw [e1, e2, sgn_scale _ (m * 2 ^ (i - min i j).toNat), sgn_scale _ (n * 2 ^ (j - min i j).toNat), compare_scale _ _ (Int.ofNat_lt.2 (two_pos _))]
theorem order_w {x y : Nat} (hx : isNaNw x = false) (hy : isNaNw y = false) : double.order x y = some (compare (fvZ x) (fvZ y)) :=
  order_fv (read_fit x) (read_fit y) hx hy
theorem order_nan {x y : Nat} (h : isNaNw x = true \/ isNaNw y = true) : double.order x y = none := by
  unfold Format.order isNaNw at *
  rcases h with h | h
  · cases e : double.read x with
    | nan => cases double.read y <;> rfl
    | _ => rw [e] at h; cases h
  · cases e : double.read y with
    | nan => cases double.read x <;> rfl
    | _ => rw [e] at h; cases h
end Go.AD.Fp

set_option maxRecDepth 100000
set_option linter.unusedSimpArgs false
namespace Go.AD.Fp
def sc (D : List Nat) (dp : Int) : Nat := n10 D * 10 ^ (dp + 6000 - D.length).toNat
theorem ten_pos (n : Nat) : 0 < 10 ^ n := Nat.pow_pos (by decide)
theorem tw (a b : Nat) : 10 ^ a * 10 ^ b = 10 ^ (a + b) := (Nat.pow_add 10 a b).symm
def trimZ (l : List Nat) : List Nat := (l.reverse.dropWhile (fun d => d == 0)).reverse
theorem trimZ_spec (l : List Nat) : ∃ k, l = trimZ l ++ List.replicate k 0 := by
  unfold trimZ
  have h := List.takeWhile_append_dropWhile (p := fun d => d == 0) (l := l.reverse)
  refine ⟨(l.reverse.takeWhile (fun d => d == 0)).length, ?_⟩
  have h2 : l.reverse.takeWhile (fun d => d == 0) = List.replicate (l.reverse.takeWhile (fun d => d == 0)).length 0 := by
    rw [List.eq_replicate_iff]
    refine ⟨rfl, fun b hb => ?_⟩
    have : ∀ (m : List Nat) b, b ∈ m.takeWhile (fun d => d == 0) -> b = 0 := by
      intro m
      induction m with
      | nil => intro b hb; cases hb
      | cons x m ih =>
        intro b hb
        rw [List.takeWhile_cons] at hb
        split at hb
        · rename_i hx
          rcases List.mem_cons.1 hb with rfl | hb
          · simpa using hx
          · exact ih b hb
        · cases hb
    exact this _ b hb
  have h3 := congrArg List.reverse h
  rw [List.reverse_append, List.reverse_reverse, h2, List.reverse_replicate] at h3
  exact h3.symm
theorem trimZ_last {l : List Nat} (h : trimZ l ≠ []) : (trimZ l).getLast h ≠ 0 := by
  unfold trimZ at *
  rw [List.getLast_reverse]
  have : ∀ (m : List Nat) (hm : m.dropWhile (fun d => d == 0) ≠ []), (m.dropWhile (fun d => d == 0)).head hm ≠ 0 := by
    intro m
    induction m with
    | nil => intro hm; exact absurd rfl hm
    | cons x m ih =>
      intro hm
      by_cases hx : (x == 0) = true
      · have e : (x :: m).dropWhile (fun d => d == 0) = m.dropWhile (fun d => d == 0) := by rw [List.dropWhile_cons, if_pos hx]
        simp only [e] at hm ⊢
        exact ih hm
      · have e : (x :: m).dropWhile (fun d => d == 0) = x :: m := by rw [List.dropWhile_cons, if_neg hx]
        simp only [e]
        simpa using hx
  exact this _ _
theorem n10_trim (l : List Nat) : ∃ k, l.length = (trimZ l).length + k /\ n10 l = n10 (trimZ l) * 10 ^ k := by
  obtain ⟨k, hk⟩ := trimZ_spec l
  refine ⟨k, ?_, ?_⟩
  · have := congrArg List.length hk
    rwa [List.length_append, List.length_replicate] at this
  · have := congrArg n10 hk
    rw [n10_app, n10_zeros, List.length_replicate] at this
    omega
theorem sc_trim {l : List Nat} {dp : Int} (h : (l.length : Int) <= dp + 6000) : sc (trimZ l) dp = sc l dp := by
  obtain ⟨k, h1, h2⟩ := n10_trim l
  unfold sc
  rw [h2, Nat.mul_assoc, tw]
  congr 2
  omega
structure Nrm0 (D : List Nat) : Prop where
  dg : Dg D
  few : D.length <= 800
  ne : D ≠ []
  hd : D.head? ≠ some 0
structure Nrm (D : List Nat) : Prop extends Nrm0 D where
  la : D.getLast? ≠ some 0
theorem Nrm0.ge {D : List Nat} (h : Nrm0 D) : 10 ^ (D.length - 1) <= n10 D := by
  cases D with
  | nil => exact absurd rfl h.ne
  | cons d l =>
    refine n10_ge ?_
    have := h.hd
    simp at this
    omega
theorem Nrm0.sc_lt {D : List Nat} (h : Nrm0 D) {dp : Int} (h1 : -2000 <= dp) : sc D dp < 10 ^ (dp + 6000).toNat := by
  have := n10_lt h.dg
  have hf := h.few
  unfold sc
  have e : 10 ^ (dp + 6000).toNat = 10 ^ D.length * 10 ^ (dp + 6000 - D.length).toNat := by rw [tw]; congr 1; omega
  rw [e]
  exact Nat.mul_lt_mul_of_pos_right this (ten_pos _)
theorem Nrm0.sc_ge {D : List Nat} (h : Nrm0 D) {dp : Int} (h1 : -2000 <= dp) : 10 ^ (dp + 5999).toNat <= sc D dp := by
  have := h.ge
  have hf := h.few
  have hl : 0 < D.length := List.length_pos_iff.2 h.ne
  unfold sc
  have e : 10 ^ (dp + 5999).toNat = 10 ^ (D.length - 1) * 10 ^ (dp + 6000 - D.length).toNat := by rw [tw]; congr 1; omega
  rw [e]
  exact Nat.mul_le_mul_right _ this
structure Cut (X : Nat) (D : List Nat) (dp : Int) (tr tr0 : Bool) : Prop where
  nrm : Nrm D
  lo : sc D dp <= X
  tr : tr = (tr0 || decide (sc D dp ≠ X))
  grid : ∀ c, c * 10 ^ (dp + 5200).toNat <= X -> c * 10 ^ (dp + 5200).toNat <= sc D dp
theorem getLast?_of {l : List Nat} (h : l ≠ []) : l.getLast? = some (l.getLast h) := List.getLast?_eq_some_getLast h
theorem nrm_trim {l : List Nat} (h1 : Dg l) (h2 : l.length <= 800) (h3 : l.head? ≠ some 0) (h4 : l ≠ []) : Nrm (trimZ l) := by
  obtain ⟨k, hk⟩ := trimZ_spec l
  have hne : trimZ l ≠ [] := by
    intro e
    rw [e, List.nil_append] at hk
    cases k with
    | zero => exact h4 hk
    | succ k => rw [hk] at h3; exact h3 rfl
  refine ⟨⟨?_, ?_, hne, ?_⟩, ?_⟩
  · rw [hk] at h1; exact h1.left
  · have := congrArg List.length hk
    rw [List.length_append] at this
    omega
  · cases hT : trimZ l with
    | nil => exact absurd hT hne
    | cons d m => rw [hk, hT] at h3; exact h3
  · rw [getLast?_of hne]
    exact fun e => trimZ_last hne (Option.some.inj e)
theorem cut_full {o : List Nat} {dp : Int} {tr tr0 : Bool} (h1 : Dg o) (h3 : o.head? ≠ some 0) (h4 : o ≠ []) (hp : -2000 <= dp) (ho : (o.length : Int) <= dp + 6000)
    (ht : tr = (tr0 || decide (n10 (o.drop 800) ≠ 0))) : Cut (sc o dp) (trimZ (o.take 800)) dp tr tr0 := by
  have hlt : (o.take 800).length <= 800 := by rw [List.length_take]; omega
  have hcat : n10 o = n10 (o.take 800) * 10 ^ (o.drop 800).length + n10 (o.drop 800) := by
    conv => lhs; rw [<- List.take_append_drop 800 o]
    exact n10_app _ _
  have hr : n10 (o.drop 800) < 10 ^ (o.drop 800).length := n10_lt (by
    have := h1; rw [<- List.take_append_drop 800 o] at this; exact this.right)
  have hs : sc (trimZ (o.take 800)) dp = sc (o.take 800) dp := sc_trim (by omega)
  have hsc : sc o dp = sc (o.take 800) dp + n10 (o.drop 800) * 10 ^ (dp + 6000 - o.length).toNat := by
    unfold sc
    rw [hcat, Nat.add_mul, Nat.mul_assoc, tw]
    congr 3
    rw [List.length_drop, List.length_take]
    omega
  have hlen : (o.drop 800).length = o.length - 800 := List.length_drop ..
  refine ⟨nrm_trim ?_ hlt ?_ ?_, ?_, ?_, ?_⟩
  · have := h1; rw [<- List.take_append_drop 800 o] at this; exact this.left
  · cases o with
    | nil => exact absurd rfl h4
    | cons d l => exact h3
  · cases o with
    | nil => exact absurd rfl h4
    | cons d l => intro h; cases h
  · rw [hs, hsc]; omega
  · rw [ht, hs]
    congr 1
    rw [decide_eq_decide]
    have hp10 := ten_pos (dp + 6000 - o.length).toNat
    constructor
    · intro h e
      rw [hsc] at e
      have : 0 < n10 (o.drop 800) * 10 ^ (dp + 6000 - o.length).toNat := Nat.mul_pos (by omega) hp10
      omega
    · intro h e
      rw [hsc, e] at h
      omega
  · intro c hc
    rw [hs]
    rcases Nat.lt_or_ge 800 o.length with hl | hl
    · have e1 : sc (o.take 800) dp = n10 (o.take 800) * 10 ^ (dp + 5200).toNat := by
        unfold sc
        congr 2
        rw [List.length_take]
        omega
      rw [e1]
      refine Nat.mul_le_mul_right _ ?_
      have e2 : n10 (o.drop 800) * 10 ^ (dp + 6000 - o.length).toNat < 10 ^ (dp + 5200).toNat := by
        have e3 : 10 ^ (dp + 5200).toNat = 10 ^ (o.drop 800).length * 10 ^ (dp + 6000 - o.length).toNat := by rw [tw]; congr 1; omega
        rw [e3]
        exact Nat.mul_lt_mul_of_pos_right hr (ten_pos _)
      rw [hsc, e1] at hc
      have : c * 10 ^ (dp + 5200).toNat < (n10 (o.take 800) + 1) * 10 ^ (dp + 5200).toNat := by rw [Nat.add_mul]; omega
      exact Nat.lt_succ_iff.1 (Nat.lt_of_mul_lt_mul_right this)
    · have : o.drop 800 = [] := List.drop_eq_nil_of_le hl
      rw [this, n10_nil, Nat.zero_mul, Nat.add_zero] at hsc
      omega
structure Inv (A0 : Nat) (D : List Nat) (dp : Int) (tr : Bool) (s C : Int) : Prop where
  nrm : Nrm0 D
  ex : ∃ Y, Y * 2 ^ (-s).toNat = A0 * 2 ^ s.toNat /\ sc D dp <= Y /\ (tr = true ↔ sc D dp ≠ Y) /\
    ∀ J : Int, J <= C -> ∀ c : Nat, c * 2 ^ (s - J).toNat * 10 ^ 6000 <= Y * 2 ^ (J - s).toNat -> c * 2 ^ (s - J).toNat * 10 ^ 6000 <= sc D dp * 2 ^ (J - s).toNat
theorem Inv.start {D : List Nat} (h : Nrm0 D) (dp C : Int) : Inv (sc D dp) D dp false 0 C :=
  ⟨h, sc D dp, by simp, Nat.le_refl _, by simp, fun J _ c hc => hc⟩
theorem Inv.wk {A0 : Nat} {D : List Nat} {dp : Int} {tr : Bool} {s C C' : Int} (h : Inv A0 D dp tr s C) (hC : C' <= C) : Inv A0 D dp tr s C' := by
  obtain ⟨Y, h1, h2, h3, h4⟩ := h.ex
  exact ⟨h.nrm, Y, h1, h2, h3, fun J hJ => h4 J (by omega)⟩
end Go.AD.Fp

set_option maxRecDepth 100000
set_option linter.unusedSimpArgs false
namespace Go.AD.Fp
theorem lepow {E Y a b a' b' : Nat} (h : E * 2 ^ a <= Y * 2 ^ b) (e : a + b' = a' + b) : E * 2 ^ a' <= Y * 2 ^ b' := by
  refine Nat.le_of_mul_le_mul_right ?_ (two_pos b)
  rw [Nat.mul_assoc, pw, Nat.mul_assoc, pw, <- e, Nat.add_comm b' b, <- pw, <- pw, <- Nat.mul_assoc, <- Nat.mul_assoc]
  exact Nat.mul_le_mul_right _ h
theorem Inv.step {A0 X : Nat} {D D' : List Nat} {dp dp' : Int} {tr tr' : Bool} {s C C' : Int} (h : Inv A0 D dp tr s C) (k : Int) (hX : X * 2 ^ (-k).toNat = sc D dp * 2 ^ k.toNat) (hc : Cut X D' dp' tr' tr)
    (hd : 2 ^ 3000 ∣ A0) (hs : -3000 <= s + k) (hp1 : -2000 <= dp') (hp2 : dp' <= 800) (hC : C' <= C) (hC2 : C' <= s + k + 800 - dp') : Inv A0 D' dp' tr' (s + k) C' := by
  obtain ⟨Y, h1, h2, h3, h4⟩ := h.ex
  obtain ⟨Y', h1'⟩ : ∃ Y', Y' * 2 ^ (-(s + k)).toNat = A0 * 2 ^ (s + k).toNat := by
    have : 2 ^ (-(s + k)).toNat ∣ A0 * 2 ^ (s + k).toNat := Nat.dvd_trans (Nat.dvd_trans (Nat.pow_dvd_pow 2 (by omega)) hd) (Nat.dvd_mul_right ..)
    obtain ⟨z, hz⟩ := this
    exact ⟨z, by rw [hz, Nat.mul_comm]⟩
  have hr : Y' * 2 ^ (-k).toNat = Y * 2 ^ k.toNat := by
    refine Nat.eq_of_mul_eq_mul_right (two_pos ((-(s + k)).toNat + (-s).toNat)) ?_
    have l : Y' * 2 ^ (-k).toNat * 2 ^ ((-(s + k)).toNat + (-s).toNat) = Y' * 2 ^ (-(s + k)).toNat * 2 ^ ((-k).toNat + (-s).toNat) := by
      rw [Nat.mul_assoc, pw, Nat.mul_assoc, pw]; congr 2; omega
    have r : Y * 2 ^ k.toNat * 2 ^ ((-(s + k)).toNat + (-s).toNat) = Y * 2 ^ (-s).toNat * 2 ^ (k.toNat + (-(s + k)).toNat) := by
      rw [Nat.mul_assoc, pw, Nat.mul_assoc, pw]; congr 2; omega
    rw [l, r, h1', h1, Nat.mul_assoc, pw, Nat.mul_assoc, pw]
    congr 2
    omega
  have hXY : X <= Y' := by
    refine Nat.le_of_mul_le_mul_right ?_ (two_pos (-k).toNat)
    rw [hX, hr]
    exact Nat.mul_le_mul_right _ h2
  refine ⟨hc.nrm.toNrm0, Y', h1', Nat.le_trans hc.lo hXY, ?_, ?_⟩
  · rw [hc.tr, Bool.or_eq_true, decide_eq_true_eq, h3]
    have hlo := hc.lo
    constructor
    · rintro (g | g)
      · have : X ≠ Y' := by
          intro e
          subst e
          rw [hX] at hr
          exact g (Nat.eq_of_mul_eq_mul_right (two_pos _) hr)
        omega
      · omega
    · intro g
      by_cases e : sc D dp = Y
      · right
        have : X = Y' := by
          refine Nat.eq_of_mul_eq_mul_right (two_pos (-k).toNat) ?_
          rw [hX, hr, e]
        omega
      · exact .inl e
  · intro J hJ c hcY
    have a1 : c * 2 ^ (s + k - J).toNat * 10 ^ 6000 * 2 ^ (-k).toNat <= Y * 2 ^ (k.toNat + (J - (s + k)).toNat) := by
      have := Nat.mul_le_mul_right (2 ^ (-k).toNat) hcY
      refine Nat.le_trans this (Nat.le_of_eq ?_)
      rw [Nat.mul_right_comm, hr, Nat.mul_assoc, pw]
    have a2 : c * 10 ^ 6000 * 2 ^ ((s + k - J).toNat + (-k).toNat) <= Y * 2 ^ (k.toNat + (J - (s + k)).toNat) := by
      rw [<- pw, <- Nat.mul_assoc]
      refine Nat.le_trans (Nat.le_of_eq ?_) a1
      rw [Nat.mul_right_comm c]
    have a3 : c * 10 ^ 6000 * 2 ^ (s - J).toNat <= Y * 2 ^ (J - s).toNat := lepow a2 (by omega)
    have a4 := h4 J (by omega) c (by rw [Nat.mul_right_comm]; exact a3)
    rw [Nat.mul_right_comm] at a4
    have a5 : c * 10 ^ 6000 * 2 ^ ((s + k - J).toNat + (-k).toNat) <= sc D dp * 2 ^ (k.toNat + (J - (s + k)).toNat) := lepow a4 (by omega)
    have a6 : c * 2 ^ (s + k - J).toNat * 10 ^ 6000 <= X * 2 ^ (J - (s + k)).toNat := by
      refine Nat.le_of_mul_le_mul_right ?_ (two_pos (-k).toNat)
      rw [Nat.mul_right_comm X, hX, Nat.mul_assoc (sc D dp), pw]
      refine Nat.le_trans (Nat.le_of_eq ?_) a5
      rw [<- pw, <- Nat.mul_assoc, Nat.mul_right_comm c]
    obtain ⟨j, hj⟩ : ∃ j, (J - (s + k)).toNat = j := ⟨_, rfl⟩
    obtain ⟨m, hm⟩ : ∃ m, (s + k - J).toNat = m := ⟨_, rfl⟩
    rw [hj] at a6 ⊢
    rw [hm] at a6 ⊢
    have e10 : 10 ^ 6000 = 5 ^ j * 10 ^ (800 - dp' - j).toNat * 10 ^ (dp' + 5200).toNat * 2 ^ j := by
      have e5 : (10 : Nat) ^ j = 5 ^ j * 2 ^ j := by rw [<- Nat.mul_pow]
      have e6 : 5 ^ j * 10 ^ (800 - dp' - j).toNat * 10 ^ (dp' + 5200).toNat * 2 ^ j = 10 ^ j * (10 ^ (800 - dp' - j).toNat * 10 ^ (dp' + 5200).toNat) := by
        rw [e5]
        simp only [Nat.mul_assoc, Nat.mul_left_comm, Nat.mul_comm]
      rw [e6, tw, tw]
      congr 1
      omega
    have e7 : c * 2 ^ m * 10 ^ 6000 = c * 2 ^ m * (5 ^ j * 10 ^ (800 - dp' - j).toNat) * 10 ^ (dp' + 5200).toNat * 2 ^ j := by
      rw [e10]
      simp only [Nat.mul_assoc]
    rw [e7] at a6 ⊢
    exact Nat.mul_le_mul_right _ (hc.grid _ (Nat.le_of_mul_le_mul_right a6 (two_pos j)))
def rneT (x B : Nat) (tr : Bool) : Nat := x / B + if B < 2 * (x % B) \/ (2 * (x % B) = B /\ (tr = true \/ x / B % 2 = 1)) then 1 else 0
theorem le_rneT {a b n : Nat} {tr : Bool} (hb : 0 < b) : n + 1 <= rneT a b tr ↔ (2 * n + 1) * b < 2 * a \/ ((2 * n + 1) * b = 2 * a /\ (tr = true \/ n % 2 = 1)) := by
  unfold rneT
  obtain ⟨h1, h2⟩ := div_facts (a := a) hb
  generalize a / b = q at *
  generalize a % b = r at *
  subst h1
  have e1 : (2 * n + 1) * b = 2 * (b * n) + b := by rw [Nat.add_mul, Nat.one_mul, Nat.mul_assoc, Nat.mul_comm n b]
  rw [e1]
  have e2 : 2 * (b * q + r) = 2 * (b * q) + 2 * r := Nat.mul_add ..
  rw [e2]
  rcases Nat.lt_trichotomy n q with h | h | h
  · have : b * n + b <= b * q := by rw [<- Nat.mul_succ]; exact Nat.mul_le_mul_left b h
    constructor
    · intro _; exact .inl (by omega)
    · intro _; split <;> omega
  · subst h
    constructor
    · intro h
      split at h
      · rename_i h3
        rcases h3 with h3 | ⟨h3, h4⟩
        · exact .inl (by omega)
        · exact .inr ⟨by omega, h4⟩
      · omega
    · intro h
      rw [if_pos (by rcases h with h | ⟨h, h4⟩
                     · exact .inl (by omega)
                     · exact .inr ⟨by omega, h4⟩)]
      exact Nat.le_refl _
  · have : b * q + b <= b * n := by rw [<- Nat.mul_succ]; exact Nat.mul_le_mul_left b h
    constructor
    · intro h
      split at h
      · have : n = q := by omega
        omega
      · omega
    · intro h; omega
set_option exponentiation.threshold 10000 in
theorem Inv.round {A0 : Nat} {D : List Nat} {dp : Int} {tr : Bool} {s C : Int} (h : Inv A0 D dp tr s C) (hC : s + 1 <= C) : rneT (sc D dp) (10 ^ 6000) tr = rne (A0 * 2 ^ s.toNat) (10 ^ 6000 * 2 ^ (-s).toNat) := by
  obtain ⟨Y, h1, h2, h3, h4⟩ := h.ex
  have hB : 0 < 10 ^ 6000 := ten_pos _
  rw [<- h1, rne_scale (two_pos _)]
  have key : ∀ n, n + 1 <= rneT (sc D dp) (10 ^ 6000) tr ↔ n + 1 <= rne Y (10 ^ 6000) := by
    intro n
    rw [le_rneT hB, le_rne hB]
    have ht := h4 (s + 1) hC (2 * n + 1)
    rw [show (s - (s + 1)).toNat = 0 by omega, show (s + 1 - s).toNat = 1 by omega, Nat.pow_zero, Nat.mul_one, Nat.pow_one] at ht
    generalize (2 * n + 1) * 10 ^ 6000 = M at *
    generalize sc D dp = x at *
    constructor
    · rintro (g | ⟨g, g2⟩)
      · exact .inl (by omega)
      · by_cases e : x = Y
        · subst e
          rcases g2 with g2 | g2
          · exact absurd rfl (h3.1 g2)
          · exact .inr ⟨g, g2⟩
        · exact .inl (by omega)
    · rintro (g | ⟨g, g2⟩)
      · have := ht (by omega)
        rcases Nat.lt_or_eq_of_le this with k | k
        · exact .inl (by omega)
        · exact .inr ⟨by omega, .inl (h3.2 (by omega))⟩
      · have := ht (by omega)
        exact .inr ⟨by omega, .inr g2⟩
  have k1 := fun n => (key n).1
  have k2 := fun n => (key n).2
  generalize rneT (sc D dp) (10 ^ 6000) tr = a at *
  generalize rne Y (10 ^ 6000) = b at *
  rcases Nat.lt_trichotomy a b with g | g | g
  · have := k2 a g; omega
  · exact g
  · have := k1 b g; omega
end Go.AD.Fp

set_option maxRecDepth 100000
set_option linter.unusedSimpArgs false
namespace Go.AD.Fp
def packB (m : Nat) (exp : Int) : Nat :=
  if 1024 <= exp then 9218868437227405312 else if m = 9007199254740992 then (if 1024 <= exp + 1 then 9218868437227405312 else (exp + 1 + 1023).toNat * 4503599627370496)
  else if m < 4503599627370496 then m else (exp + 1023).toNat * 4503599627370496 + (m - 4503599627370496)
theorem packB_arith {k m : Nat} (m1 : m <= 9007199254740992) (m2 : k = 0 \/ 4503599627370496 <= m) : packB m ((k : Int) - 1022) = min (k * 4503599627370496 + m) 9218868437227405312 := by
  unfold packB
  split
  · omega
  · split
    · split
      · omega
      · have : ((k : Int) - 1022 + 1 + 1023).toNat = k + 2 := by omega
        rw [this]; omega
    · split
      · omega
      · have : ((k : Int) - 1022 + 1023).toNat = k + 1 := by omega
        rw [this]; omega
def e6000 : Nat := 10 ^ 6000
set_option exponentiation.threshold 10000 in
theorem e6000_pos : 0 < e6000 := ten_pos _
theorem rne_cross {a b c d : Nat} (hb : 0 < b) (hd : 0 < d) (h : a * d = c * b) : rne a b = rne c d := by
  rw [<- rne_scale (a := a) (b := b) hd, h, Nat.mul_comm b d, rne_scale hb]
theorem ltpow {E Y a b a' b' : Nat} (h : E * 2 ^ a < Y * 2 ^ b) (e : a + b' = a' + b) : E * 2 ^ a' < Y * 2 ^ b' := by
  rcases Nat.lt_or_ge (E * 2 ^ a') (Y * 2 ^ b') with g | g
  · exact g
  · have := lepow (a' := b) (b' := a) g (by omega)
    omega
set_option exponentiation.threshold 10000 in
theorem packB_eq {A B : Nat} {s1 s : Int} (hB : 0 < B) (h1 : B * 2 ^ (-s1).toNat <= 2 * (A * 2 ^ s1.toNat)) (h2 : A * 2 ^ s1.toNat < B * 2 ^ (-s1).toNat) (hs : s = min (s1 + 53) 1074) :
    packB (rne (A * 2 ^ s.toNat) (B * 2 ^ (-s).toNat)) (max (-s1 - 1) (-1022)) = min (rung (A * e1074) B) infR := by
  obtain ⟨k, hk⟩ : ∃ k : Nat, s = 1074 - (k : Int) := ⟨(1074 - s).toNat, by omega⟩
  have l1 : A * e1074 < B * 2 ^ (53 + k) := by
    unfold e1074
    have h3 : A * 2 ^ s1.toNat < B * 2 ^ (-s1).toNat := h2
    have h4 : A * 2 ^ 1074 < B * 2 ^ (1074 - s1).toNat \/ 1074 < s1 := by
      rcases (show s1 <= 1074 \/ 1074 < s1 by omega) with g | g
      · exact .inl (ltpow (a' := 1074) h3 (by omega))
      · exact .inr g
    rcases h4 with h4 | h4
    · exact Nat.lt_of_lt_of_le h4 (Nat.mul_le_mul_left B (pow_le2 (by omega)))
    · have h5 : A * 2 ^ 1074 <= A * 2 ^ s1.toNat := Nat.mul_le_mul_left A (pow_le2 (by omega))
      have h6 : B * 2 ^ (-s1).toNat <= B * 2 ^ (53 + k) := Nat.mul_le_mul_left B (pow_le2 (by omega))
      omega
  have l2 : k = 0 \/ B * 2 ^ (52 + k) <= A * e1074 := by
    rcases Nat.eq_zero_or_pos k with g | g
    · exact .inl g
    · right
      unfold e1074
      have h3 : B * 2 ^ (-s1).toNat <= A * 2 ^ (s1.toNat + 1) := by rw [Nat.pow_succ, <- Nat.mul_assoc, Nat.mul_comm _ 2]; exact h1
      exact lepow (a' := 52 + k) (b' := 1074) h3 (by omega)
  have em : rne (A * 2 ^ s.toNat) (B * 2 ^ (-s).toNat) = rne (A * e1074) (B * 2 ^ k) := by
    refine rne_cross (Nat.mul_pos hB (two_pos _)) (Nat.mul_pos hB (two_pos _)) ?_
    have a1 : A * 2 ^ s.toNat * (B * 2 ^ k) = A * B * 2 ^ (s.toNat + k) := by rw [<- pw]; simp only [Nat.mul_assoc, Nat.mul_left_comm, Nat.mul_comm]
    have a2 : A * e1074 * (B * 2 ^ (-s).toNat) = A * B * 2 ^ ((-s).toNat + 1074) := by rw [<- pwe]; simp only [Nat.mul_assoc, Nat.mul_left_comm, Nat.mul_comm]
    rw [a1, a2]
    congr 2
    omega
  have hr := rung_k hB l1 l2
  have hbk : 0 < B * 2 ^ k := Nat.mul_pos hB (two_pos k)
  have m1 : rne (A * e1074) (B * 2 ^ k) <= 2 ^ 53 := rne_le hbk (by rw [<- pow_split]; exact Nat.le_of_lt l1)
  have m2 : k = 0 \/ 2 ^ 52 <= rne (A * e1074) (B * 2 ^ k) := by
    rcases l2 with g | g
    · exact .inl g
    · exact .inr (le_rne' hbk (by rw [<- pow_split]; exact g))
  rw [em, hr]
  have he : max (-s1 - 1) (-1022) = (k : Int) - 1022 := by omega
  rw [he]
  exact packB_arith m1 m2
set_option exponentiation.threshold 10000 in
theorem rungD_sc {D : List Nat} {dp : Int} (h : (D.length : Int) <= dp + 6000) : rungD (n10 D) (dp - D.length) = min (rung (sc D dp * e1074) e6000) infR := by
  have e : tn (dp - D.length) * e6000 = 10 ^ (dp + 6000 - D.length).toNat * td (dp - D.length) := by
    unfold tn td e6000
    rw [tw, tw]
    have : (dp - ↑D.length).toNat + 6000 = (dp + 6000 - ↑D.length).toNat + (-(dp - ↑D.length)).toNat := by omega
    rw [this]
  have key : ∀ U V : Nat, 0 < V -> tn (dp - D.length) * V = 10 ^ (dp + 6000 - D.length).toNat * td (dp - D.length) -> rung (n10 D * tn (dp - D.length) * U) (td (dp - D.length)) = rung (sc D dp * U) V := by
    intro U V hV e
    refine rung_cross (td_pos _) hV ?_
    have a1 : n10 D * tn (dp - D.length) * U * V = n10 D * U * (tn (dp - D.length) * V) := by simp only [Nat.mul_assoc, Nat.mul_left_comm, Nat.mul_comm]
    rw [a1, e]
    unfold sc
    simp only [Nat.mul_assoc, Nat.mul_left_comm, Nat.mul_comm]
  unfold rungD
  rw [key e1074 e6000 e6000_pos e]
theorem rungD_tiny1 : rungD 1 (-330) = 0 := by decide +kernel
theorem rungD_tiny2 {n m : Nat} {q : Int} (hn : n <= 10 ^ m) (h : q + m <= -330) : rungD n q = 0 := by
  have h1 : rungD (1 * 10 ^ m) q = 0 := by
    rw [rungD_zeros]
    exact Nat.le_zero.1 (by rw [<- rungD_tiny1]; exact rungD_mono_p h)
  rw [Nat.one_mul] at h1
  exact Nat.le_zero.1 (by rw [<- h1]; exact rungD_mono_d hn)
theorem slow_tiny {D : List Nat} {dp : Int} (h : Dg D) (hd : dp < -330) : rungD (n10 D) (dp - D.length) = 0 :=
  rungD_tiny2 (m := D.length) (Nat.le_of_lt (n10_lt h)) (by omega)
theorem slow_huge {D : List Nat} {dp : Int} (h : Nrm0 D) (hd : 310 < dp) : rungD (n10 D) (dp - D.length) = infR := by
  have h1 := h.ge
  have hl : 0 < D.length := List.length_pos_iff.2 h.ne
  have h2 : rungD (1 * 10 ^ (D.length - 1)) (dp - D.length) = infR := by
    rw [rungD_zeros]
    exact rungD_inf (by decide) (by omega)
  rw [Nat.one_mul] at h2
  exact Nat.le_antisymm (rungD_le ..) (by rw [<- h2]; exact rungD_mono_d h1)
end Go.AD.Fp

set_option maxRecDepth 100000
set_option linter.unusedSimpArgs false
namespace Go.AD.Fp
def IsV (D : List Nat) (p : Int) (a b : Nat) : Prop := n10 D * tn (p - D.length) * b = a * td (p - D.length)
theorem shift_iff {n k a b : Nat} {q : Int} : n * 10 ^ k * tn q * b = a * td q ↔ n * tn (q + k) * b = a * td (q + k) := by
  have e := ten_split q k
  have hq := td_pos q
  have hqk := td_pos (q + k)
  have l1 : n * 10 ^ k * tn q * b * td (q + k) = n * b * (10 ^ k * tn q * td (q + k)) := by simp only [Nat.mul_assoc, Nat.mul_left_comm, Nat.mul_comm]
  have l2 : n * tn (q + k) * b * td q = n * b * (tn (q + k) * td q) := by simp only [Nat.mul_assoc, Nat.mul_left_comm, Nat.mul_comm]
  constructor
  · intro h
    refine Nat.eq_of_mul_eq_mul_right hq ?_
    rw [l2, e, <- l1, h, Nat.mul_right_comm]
  · intro h
    refine Nat.eq_of_mul_eq_mul_right hqk ?_
    rw [l1, <- e, <- l2, h, Nat.mul_right_comm]
theorem IsV.trim {l : List Nat} {p : Int} {a b : Nat} (h : IsV l p a b) : IsV (trimZ l) p a b := by
  obtain ⟨k, h1, h2⟩ := n10_trim l
  unfold IsV at *
  rw [h2] at h
  have := shift_iff.1 h
  rw [show p - (l.length : Int) + k = p - (trimZ l).length by omega] at this
  exact this
theorem IsV.nil {p : Int} {a b : Nat} (h : IsV [] p a b) : a = 0 := by
  unfold IsV at h
  rw [n10_nil, Nat.zero_mul, Nat.zero_mul] at h
  have := td_pos (p - (([] : List Nat).length : Int))
  rcases Nat.mul_eq_zero.1 h.symm with g | g
  · exact g
  · omega
theorem IsV.double {D E : List Nat} {p p' : Int} {a b : Nat} (h : IsV D p a b) (h1 : n10 E = 2 * n10 D) (h2 : p' - E.length = p - D.length) : IsV E p' (2 * a) b := by
  unfold IsV at *
  rw [h1, h2, Nat.mul_assoc 2, Nat.mul_assoc 2, h, Nat.mul_assoc]
theorem IsV.half {D E : List Nat} {p p' : Int} {a b t : Nat} (h : IsV D p a b) (h1 : 2 * n10 E = n10 D * 10 ^ t) (h2 : p' - E.length = p - D.length - t) : IsV E p' a (2 * b) := by
  unfold IsV at *
  rw [h2]
  have e : n10 D * 10 ^ t * tn (p - D.length - t) * b = a * td (p - D.length - t) := by
    rw [shift_iff, show p - (D.length : Int) - t + t = p - D.length by omega]
    exact h
  rw [<- h1] at e
  rw [<- e]
  simp only [Nat.mul_assoc, Nat.mul_left_comm, Nat.mul_comm]
end Go.AD.Fp

set_option maxRecDepth 100000
set_option linter.unusedSimpArgs false
namespace Go.AD.Fp
end Go.AD.Fp

set_option maxRecDepth 100000
set_option linter.unusedSimpArgs false
namespace Go.AD.Fp
end Go.AD.Fp

set_option maxRecDepth 100000
set_option linter.unusedSimpArgs false
namespace Go.AD.Fp
theorem topAll : ∀ i : Nat, i < 656 -> numP ((i : Int) - 345) * 1000 <= 999 * (2 ^ 128 * denP ((i : Int) - 345)) := by decide +kernel
theorem topOf {p : Int} (h1 : -345 <= p) (h2 : p <= 310) : numP p * 1000 <= 999 * (2 ^ 128 * denP p) := by
  have := topAll (p + 345).toNat (by omega)
  rwa [show (((p + 345).toNat : Nat) : Int) - 345 = p by omega] at this
theorem upper2 {d c k : Nat} {p : Int} (h1 : -345 <= p) (h2 : p <= 310) (hi : d < 2 ^ c) (h : (c : Int) + lpZ p + 1075 <= k) : d * tn p * e1074 * 1000 <= 999 * (td p * 2 ^ k) := by
  have f2 := topOf h1 h2
  unfold numP denP at f2
  change tn p * _ * 1000 <= _ at f2
  change _ <= 999 * (2 ^ 128 * (td p * _)) at f2
  generalize tn p = T at *
  generalize td p = D at *
  refine Nat.le_of_mul_le_mul_right ?_ (two_pos (127 - lpZ p).toNat)
  have e1 : d * T * e1074 * 1000 * 2 ^ (127 - lpZ p).toNat = d * (T * 2 ^ (127 - lpZ p).toNat * 1000) * e1074 := by
    simp only [Nat.mul_assoc, Nat.mul_left_comm, Nat.mul_comm]
  have e2 : 999 * (D * 2 ^ k) * 2 ^ (127 - lpZ p).toNat = 999 * D * 2 ^ (k + (127 - lpZ p).toNat) := by rw [<- pw]; simp only [Nat.mul_assoc, Nat.mul_left_comm, Nat.mul_comm]
  have e3 : 2 ^ c * (999 * (2 ^ 128 * (D * 2 ^ (lpZ p - 127).toNat))) * e1074 = 999 * D * 2 ^ (c + 128 + (lpZ p - 127).toNat + 1074) := by
    rw [<- pwe, <- pw, <- pw]
    simp only [Nat.mul_assoc, Nat.mul_left_comm, Nat.mul_comm]
  rw [e1, e2]
  have s1 : d * (T * 2 ^ (127 - lpZ p).toNat * 1000) <= 2 ^ c * (999 * (2 ^ 128 * (D * 2 ^ (lpZ p - 127).toNat))) := Nat.mul_le_mul (Nat.le_of_lt hi) f2
  have s2 := Nat.mul_le_mul_right e1074 s1
  rw [e3] at s2
  refine Nat.le_trans s2 (Nat.mul_le_mul_left _ (pow_le2 ?_))
  omega
theorem unr_le {a b n : Nat} (hb : 0 < b) (h : a * 1000 <= 999 * (b * n)) : unr a b * 1000 <= 999 * (4 * n) + 1000 := by
  unfold unr
  have h1 : 2 * a / b * b <= 2 * a := Nat.div_mul_le_self ..
  have h2 : 2 * a / b * 1000 <= 999 * (2 * n) := by
    refine Nat.le_of_mul_le_mul_right ?_ hb
    have e1 : 2 * a / b * 1000 * b = 2 * a / b * b * 1000 := Nat.mul_right_comm ..
    have e2 : 999 * (2 * n) * b = 2 * (999 * (b * n)) := by simp only [Nat.mul_assoc, Nat.mul_left_comm, Nat.mul_comm]
    rw [e1, e2]
    have := Nat.mul_le_mul_right 1000 h1
    omega
  split <;> omega
theorem uN_small {d : Nat} {p : Int} (hd : 0 < d) (hd2 : d < 2 ^ 64) (h1 : -345 <= p) (h2 : p <= 310) (hs : sZ d p < 64) : uN d p < 72056494526300160 := by
  have hi := (Nat.log2_lt (show d ≠ 0 by omega)).1 (Nat.lt_succ_self d.log2)
  have ee : expZ d p = min 1074 (53 - (d.log2 + 1 : Nat) - lpZ p) := rfl
  obtain ⟨eu, _⟩ := u_eq hd hd2 h1 h2 hs
  rw [eu]
  have hB := td_pos p
  have hb : 0 < td p * 2 ^ (1074 - expZ d p).toNat := Nat.mul_pos hB (two_pos _)
  have := upper2 (c := d.log2.succ) (k := 54 + (1074 - expZ d p).toNat) h1 h2 hi (by omega)
  have e : td p * 2 ^ (54 + (1074 - expZ d p).toNat) = td p * 2 ^ (1074 - expZ d p).toNat * 18014398509481984 := by
    rw [Nat.pow_add, Nat.mul_left_comm, Nat.mul_comm]
  rw [e] at this
  have h3 := unr_le hb this
  unfold e1074 at h3
  omega
def mN (d : Nat) (p : Int) : Nat := if 2 ^ 55 - 2 <= uN d p then rndU (halfU (uN d p)) else rndU (uN d p)
theorem rnd_lt {u n : Nat} (h : u + 2 < 4 * n) : rndU u < n := by unfold rndU; omega
theorem half_le {u : Nat} : halfU u <= u / 2 + 1 := by unfold halfU; split <;> omega
theorem mN_lt {d : Nat} {p : Int} (hd : 0 < d) (hd2 : d < 2 ^ 64) (h1 : -345 <= p) (h2 : p <= 310) (hs : sZ d p < 64) : mN d p < 9007199254740992 := by
  have := uN_small hd hd2 h1 h2 hs
  have hh := half_le (u := uN d p)
  unfold mN
  split
  · exact rnd_lt (by omega)
  · exact rnd_lt (by omega)
end Go.AD.Fp
