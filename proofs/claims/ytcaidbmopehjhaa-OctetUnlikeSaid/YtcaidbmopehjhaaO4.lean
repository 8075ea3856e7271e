/- octet: what stands at the beginning of a text. -/
import Derived.Test.YtcaidbmopehjhaaO3
set_option linter.unusedVariables false
set_option maxRecDepth 100000
namespace Go.AD
open Go.Proofs
def at0 (s : List UInt8) (i : Nat) : Nat := (s.getD i 0).toNat
def decS (s : List UInt8) : Nat × Nat := Lib.decodeN s.length (at0 s 0) (at0 s 1) (at0 s 2) (at0 s 3)
/-- Number and length; 0 and 0: no right encoding. -/
def firstS (s : List UInt8) : Nat × Nat := if 128 ≤ at0 s 0 ∧ (decS s).2 = 1 then (0, 0) else decS s
def vf (s : List UInt8) (v : Nat) : Nat → Nat
  | 0 => v
  | i + 1 => if i = 0 then v else vf s v i * 64 + at0 s i - 128
def contUp (s : List UInt8) : Nat → Bool
  | 0 => true
  | i + 1 => contUp s i && (i == 0 || (decide (128 ≤ at0 s i) && decide (at0 s i < 192)))
theorem vf1 (s : List UInt8) (v : Nat) : vf s v 1 = v := rfl
theorem at0_lt (s : List UInt8) (i : Nat) : at0 s i < 256 := u8lt _
def okV (least v : Nat) : Prop := least ≤ v ∧ v ≤ 1114111 ∧ ¬ (55296 ≤ v ∧ v < 57344)
instance (least v : Nat) : Decidable (okV least v) := by unfold okV; infer_instance
def endS (s : List UInt8) (n least v : Nat) : Nat × Nat := if s.length < n then (0, 0) else if contUp s n = true ∧ okV least (vf s v n) then (vf s v n, n) else (0, 0)
theorem first_of (s : List UInt8) (n least v : Nat) (h : 128 ≤ at0 s 0) (hn : n ≠ 1) (hd : decS s = if n ≤ s.length ∧ contUp s n = true ∧ okV least v then (v, n) else (65533, 1)) (v0 : Nat) (hv0 : contUp s n = true → vf s v0 n = v) : firstS s = endS s n least v0 := by
  unfold firstS endS
  rw [hd]
  by_cases h1 : s.length < n
  · rw [if_neg (c := n ≤ s.length ∧ _) (by omega), if_pos h1, if_pos ⟨h, rfl⟩]
  · rw [if_neg h1]
    by_cases h2 : contUp s n = true
    · rw [hv0 h2]
      by_cases h3 : okV least v
      · rw [if_pos (c := n ≤ s.length ∧ _) ⟨by omega, h2, h3⟩, if_neg (by simp; omega), if_pos ⟨h2, h3⟩]
      · rw [if_neg (c := n ≤ s.length ∧ _) (fun h => h3 h.2.2), if_pos ⟨h, rfl⟩, if_neg (fun h => h3 h.2)]
    · rw [if_neg (c := n ≤ s.length ∧ _) (fun h => h2 h.2.1), if_pos ⟨h, rfl⟩, if_neg (fun h => h2 h.1)]
theorem cont2 (s : List UInt8) : (contUp s 2 = true) = (128 ≤ at0 s 1 ∧ at0 s 1 < 192) := by simp [contUp]
theorem cont3 (s : List UInt8) : (contUp s 3 = true) = ((128 ≤ at0 s 1 ∧ at0 s 1 < 192) ∧ 128 ≤ at0 s 2 ∧ at0 s 2 < 192) := by simp [contUp]
theorem cont4 (s : List UInt8) : (contUp s 4 = true) = (((128 ≤ at0 s 1 ∧ at0 s 1 < 192) ∧ 128 ≤ at0 s 2 ∧ at0 s 2 < 192) ∧ 128 ≤ at0 s 3 ∧ at0 s 3 < 192) := by simp [contUp]
theorem first2 (s : List UInt8) (h : 192 ≤ at0 s 0) (h' : at0 s 0 < 224) : firstS s = endS s 2 128 (at0 s 0 - 192) := by
  have b0 := at0_lt s 0; have b1 := at0_lt s 1; have b2 := at0_lt s 2; have b3 := at0_lt s 3
  refine first_of s 2 128 (at0 s 0 % 32 * 64 + at0 s 1 % 64) (by omega) (by omega) ?_ _ ?_
  · unfold decS Lib.decodeN okV
    simp only [cont2]
    repeat' split
    all_goals first | rfl | (exfalso; omega)
  · rw [cont2]; intro hc; simp only [vf]; rw [if_neg (by omega), if_pos trivial]; omega
theorem first3 (s : List UInt8) (h : 224 ≤ at0 s 0) (h' : at0 s 0 < 240) : firstS s = endS s 3 2048 (at0 s 0 - 224) := by
  have b0 := at0_lt s 0; have b1 := at0_lt s 1; have b2 := at0_lt s 2; have b3 := at0_lt s 3
  refine first_of s 3 2048 (at0 s 0 % 16 * 4096 + at0 s 1 % 64 * 64 + at0 s 2 % 64) (by omega) (by omega) ?_ _ ?_
  · unfold decS Lib.decodeN okV
    simp only [cont3]
    repeat' split
    all_goals first | rfl | (exfalso; omega)
  · rw [cont3]; intro hc; simp only [vf]; rw [if_neg (by omega), if_neg (by omega), if_pos trivial]; omega
theorem first4 (s : List UInt8) (h : 240 ≤ at0 s 0) (h' : at0 s 0 < 248) : firstS s = endS s 4 65536 (at0 s 0 - 240) := by
  have b0 := at0_lt s 0; have b1 := at0_lt s 1; have b2 := at0_lt s 2; have b3 := at0_lt s 3
  refine first_of s 4 65536 (at0 s 0 % 8 * 262144 + at0 s 1 % 64 * 4096 + at0 s 2 % 64 * 64 + at0 s 3 % 64) (by omega) (by omega) ?_ _ ?_
  · unfold decS Lib.decodeN okV
    simp only [cont4]
    repeat' split
    all_goals first | rfl | (exfalso; omega)
  · rw [cont4]; intro hc; simp only [vf]; rw [if_neg (by omega), if_neg (by omega), if_neg (by omega), if_pos trivial]; omega
theorem first1 (s : List UInt8) (h : at0 s 0 < 128) : firstS s = (at0 s 0, 1) := by
  unfold firstS decS Lib.decodeN
  rw [if_neg (by omega), if_pos h]
theorem first0 (s : List UInt8) (h : 128 ≤ at0 s 0) (h' : at0 s 0 < 192 ∨ 248 ≤ at0 s 0) : firstS s = (0, 0) := by
  have b0 := at0_lt s 0
  have : decS s = (65533, 1) := by
    unfold decS Lib.decodeN
    repeat' split
    all_goals first | rfl | (exfalso; omega)
  unfold firstS
  rw [this, if_pos ⟨h, rfl⟩]
def T41 : Tr := fun args σ K _ => ∃ s : List UInt8, args = [.pv (.str s)] ∧ 0 < s.length ∧ K (.tuple [.pv (.int .i64 (firstS s).1), .pv (.int .i64 (firstS s).2)]) σ
theorem T41_ok {env : Env} (args : List AV) (σ : AS) (K : AV → AS → Prop) (X : PV → AS → Prop) (h : T41 args σ K X) : bodyD PA env an41 Try.f41 args σ K X := by
  obtain ⟨s, rfl, hs, h⟩ := h
  rw [← S41_eq env, S41]
  have b0 := at0_lt s 0
  have j14 : ∀ (n least v : Nat), n ≤ 4 → 2 ≤ n → least ≤ 65536 → v < 32 → firstS s = endS s n least v → J41_14 env (.pv (.str s)) (.pv (.int .i64 n)) (.pv (.int .i64 least)) (.pv (.int .i64 v)) σ K X := by
    intro n least v hn hn2 hl hv he
    have bad : endS s n least v = (0, 0) → K (.tuple [.pv (.int .i64 0), .pv (.int .i64 0)]) σ := by
      intro e; rw [he, e] at h; exact h
    unfold J41_14
    simp only [go_sem, nLt]
    split
    · rename_i h1
      exact retV_self (bad (by unfold endS; rw [if_pos h1]))
    · rename_i h1
      refine lp41_17 (fun (i : Nat) _ => n - i) (fun i τ => τ = σ ∧ 1 ≤ i ∧ i ≤ n ∧ contUp s i = true ∧ vf s v i < 32 * 64 ^ (i - 1)) (fun i => .pv (.int .i64 (vf s v i))) (fun i => .pv (.int .i64 i)) 1 ⟨rfl, by omega, by omega, rfl, by simpa [vf] using hv⟩ ?_
      rintro i τ ⟨rfl, hi1, hin, hc, hvb⟩
      have hp : 64 ^ (i - 1) ≤ 64 ^ 3 := Nat.pow_le_pow_right (by omega) (by omega)
      unfold L41_17
      simp only [go_sem, nLt]
      split
      · rename_i hlt
        have b := at0_lt s i
        have hw : ∀ K, convD PA τ 5 3 (.pv (.int .u8 ((s.getD i 0).toNat : Int))) K = K (.pv (.int .i64 (at0 s i))) := by
          intro K
          rw [cvI (by rw [Try.underlying5]; rfl) Try.underlying3, wrap64 (by omega) (by have := u8lt (s.getD i 0); omega)]
          rfl
        rw [ix9 (by omega), hw]
        simp only [go_sem]
        have stop : (at0 s i < 128 ∨ 192 ≤ at0 s i) → K (.tuple [.pv (.int .i64 0), .pv (.int .i64 0)]) τ := by
          intro hbad
          apply bad
          unfold endS
          rw [if_neg h1, if_neg]
          rintro ⟨hcn, _⟩
          have mono : ∀ m, i < m → contUp s m = true → 128 ≤ at0 s i ∧ at0 s i < 192 := by
            intro m
            induction m with
            | zero => intro h; omega
            | succ m ih =>
              intro hm hcm
              simp only [contUp, Bool.and_eq_true, Bool.or_eq_true, beq_iff_eq, decide_eq_true_eq] at hcm
              rcases Nat.lt_or_eq_of_le (Nat.lt_succ_iff.1 hm) with h | h
              · exact ih h hcm.1
              · subst h
                rcases hcm.2 with h | h
                · omega
                · exact h
          have := mono n hlt hcn
          omega
        split
        · exact retV_self (stop (by omega))
        split
        · exact retV_self (stop (by omega))
        · have hvv : vf s v (i + 1) = vf s v i * 64 + at0 s i - 128 := by rw [vf, if_neg (by omega)]
          have hpe : 64 ^ (i + 1 - 1) = 64 ^ (i - 1) * 64 := by rw [← Nat.pow_succ]; congr 1; omega
          unfold J41_22
          simp (disch := omega) only [go_sem]
          refine back (i + 1) ?_ (by omega) ⟨rfl, by omega, by omega, ?_, ?_⟩
          · rw [hvv]
          · simp only [contUp, hc, Bool.true_and, Bool.or_eq_true, Bool.and_eq_true, beq_iff_eq, decide_eq_true_eq]; omega
          · rw [hvv, hpe]; omega
      · rename_i hge
        have hin : i = n := by omega
        subst hin
        have stop : ¬ okV least (vf s v i) → K (.tuple [.pv (.int .i64 0), .pv (.int .i64 0)]) τ := by
          intro hb
          apply bad
          unfold endS
          rw [if_neg h1, if_neg (fun h => hb h.2)]
        have good : okV least (vf s v i) → K (.tuple [.pv (.int .i64 (vf s v i)), .pv (.int .i64 i)]) τ := by
          intro hb
          rw [he] at h
          unfold endS at h
          rwa [if_neg h1, if_pos ⟨hc, hb⟩] at h
        unfold okV at stop good
        unfold J41_25
        split
        · exact retV_self (stop (by omega))
        split
        · exact retV_self (stop (by omega))
        split
        · split
          · exact retV_self (stop (by omega))
          · exact retV_self (good (by omega))
        · exact retV_self (good (by omega))
  have hw : ∀ K, convD PA σ 5 3 (.pv (.int .u8 ((s.getD 0 0).toNat : Int))) K = K (.pv (.int .i64 (at0 s 0))) := by
    intro K
    rw [cvI (by rw [Try.underlying5]; rfl) Try.underlying3, wrap64 (by omega) (by have := u8lt (s.getD 0 0); omega)]
    rfl
  rw [show (.pv (.int .i64 0) : AV) = .pv (.int .i64 (0 : Nat)) from rfl, ix9 hs, hw]
  have zero : firstS s = (0, 0) → K (.tuple [.pv (.int .i64 0), .pv (.int .i64 0)]) σ := by
    intro e; rw [e] at h; exact h
  have bad : (at0 s 0 < 192 ∨ 248 ≤ at0 s 0) → 128 ≤ at0 s 0 → K (.tuple [.pv (.int .i64 0), .pv (.int .i64 0)]) σ := fun h1 h2 => zero (first0 s h2 h1)
  have j13 : ∀ b : Bool, (b = true ↔ 240 ≤ at0 s 0 ∧ at0 s 0 < 248) → (240 ≤ at0 s 0 ∨ at0 s 0 < 192) → 128 ≤ at0 s 0 → J41_13 env (.pv (.str s)) (.pv (.int .i64 (at0 s 0))) (.pv (.bool b)) σ K X := by
    intro b hb h1 h2
    unfold J41_13
    simp only [go_sem]
    split
    · rename_i e
      have := hb.1 e
      rw [wrap64 (by omega) (by omega), show (at0 s 0 : Int) - 240 = ((at0 s 0 - 240 : Nat) : Int) by omega]
      exact j14 4 65536 _ (by omega) (by omega) (by omega) (by omega) (first4 s this.1 this.2)
    · rename_i e
      have : ¬ (240 ≤ at0 s 0 ∧ at0 s 0 < 248) := fun h => e (hb.2 h)
      exact retV_self (bad (by omega) h2)
  have j11 : ∀ b : Bool, (b = true ↔ 224 ≤ at0 s 0 ∧ at0 s 0 < 240) → (224 ≤ at0 s 0 ∨ at0 s 0 < 192) → 128 ≤ at0 s 0 → J41_11 env (.pv (.str s)) (.pv (.int .i64 (at0 s 0))) (.pv (.bool b)) σ K X := by
    intro b hb h1 h2
    unfold J41_11
    simp only [go_sem]
    split
    · rename_i e
      have := hb.1 e
      rw [wrap64 (by omega) (by omega), show (at0 s 0 : Int) - 224 = ((at0 s 0 - 224 : Nat) : Int) by omega]
      exact j14 3 2048 _ (by omega) (by omega) (by omega) (by omega) (first3 s this.1 this.2)
    · rename_i e
      have : ¬ (224 ≤ at0 s 0 ∧ at0 s 0 < 240) := fun h => e (hb.2 h)
      split
      · exact j13 _ (by simp; omega) (by omega) h2
      · exact j13 false (by simp; omega) (by omega) h2
  have j9 : ∀ b : Bool, (b = true ↔ 192 ≤ at0 s 0 ∧ at0 s 0 < 224) → 128 ≤ at0 s 0 → J41_9 env (.pv (.str s)) (.pv (.int .i64 (at0 s 0))) (.pv (.bool b)) σ K X := by
    intro b hb h2
    unfold J41_9
    simp only [go_sem]
    split
    · rename_i e
      have := hb.1 e
      rw [wrap64 (by omega) (by omega), show (at0 s 0 : Int) - 192 = ((at0 s 0 - 192 : Nat) : Int) by omega]
      exact j14 2 128 _ (by omega) (by omega) (by omega) (by omega) (first2 s this.1 this.2)
    · rename_i e
      have : ¬ (192 ≤ at0 s 0 ∧ at0 s 0 < 224) := fun h => e (hb.2 h)
      split
      · exact j11 _ (by simp; omega) (by omega) h2
      · exact j11 false (by simp; omega) (by omega) h2
  simp only [go_sem]
  split
  · rw [first1 s (by omega)] at h
    exact retV_self h
  split
  · exact j9 _ (by simp; omega) (by omega)
  · exact j9 false (by simp; omega) (by omega)
end Go.AD
