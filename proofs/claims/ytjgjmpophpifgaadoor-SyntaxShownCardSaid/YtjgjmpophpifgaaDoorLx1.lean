/- lex: the small functions. -/
import Derived.Test.YtjgjmpophpifgaaDoorLp
import Derived.Test.YtjgjmpophpifgaaDoorLb
import Derived.Test.YtjgjmpophpifgaaDoorG1
set_option linter.unusedVariables false
set_option linter.unusedSimpArgs false
set_option maxRecDepth 100000
namespace Go.AD.Lx
open Go.Proofs
theorem or32 (c : UInt8) : IntKind.u8.wrap ((BitVec.ofInt 8 (c.toNat : Int) ||| BitVec.ofInt 8 32).toNat : Nat) = (((c ||| 32).toNat : Nat) : Int) := allU8 (p := fun c => IntKind.u8.wrap ((BitVec.ofInt 8 (c.toNat : Int) ||| BitVec.ofInt 8 32).toNat : Nat) = (((c ||| 32).toNat : Nat) : Int)) (by decide +kernel) c
theorem bor32 {t : Nat} (c : UInt8) {K : AV → Prop} : binD PS .or t (.pv (.int .u8 c.toNat)) (.pv (.int .u8 32)) K = K (.pv (.int .u8 (c ||| 32).toNat)) := by
  rw [bin_or]
  exact congrArg (fun z => K (.pv (.int .u8 z))) (or32 c)
def byteT (p : UInt8 → Bool) : Tr := fun args σ K _ => ∃ c : UInt8, args = [.pv (.int .u8 c.toNat)] ∧ K (.pv (.bool (p c))) σ
theorem T_digit_ok {env : Env} (args : List AV) (σ : AS) (K : AV → AS → Prop) (X : PV → AS → Prop) (h : byteT digitB args σ K X) : bodyD PS env an112 Tryd.f112 args σ K X := by
  obtain ⟨c, rfl, h⟩ := h
  rw [← S112_eq env, S112]
  simp only [go_sem]
  unfold digitB at h
  refine iteI (fun h1 => ?_) (fun h1 => ?_)
  · rw [decide_eq_true h1, Bool.true_and] at h
    exact retV_self h
  · rw [decide_eq_false h1, Bool.false_and] at h
    exact retV_self h
theorem T_octal_ok {env : Env} (args : List AV) (σ : AS) (K : AV → AS → Prop) (X : PV → AS → Prop) (h : byteT octalB args σ K X) : bodyD PS env an114 Tryd.f114 args σ K X := by
  obtain ⟨c, rfl, h⟩ := h
  rw [← S114_eq env, S114]
  simp only [go_sem]
  unfold octalB at h
  refine iteI (fun h1 => ?_) (fun h1 => ?_)
  · rw [decide_eq_true h1, Bool.true_and] at h
    exact retV_self h
  · rw [decide_eq_false h1, Bool.false_and] at h
    exact retV_self h
theorem T_letter_ok {env : Env} (args : List AV) (σ : AS) (K : AV → AS → Prop) (X : PV → AS → Prop) (h : byteT letterB args σ K X) : bodyD PS env an93 Tryd.f93 args σ K X := by
  obtain ⟨c, rfl, h⟩ := h
  rw [← S93_eq env, S93]
  simp only [lock_eq, bor32]
  simp only [go_sem]
  unfold letterB at h
  refine iteI (fun h1 => ?_) (fun h1 => ?_)
  · rw [decide_eq_true h1, Bool.true_and] at h
    refine iteI (fun h2 => ?_) (fun h2 => ?_)
    · rw [decide_eq_true h2, Bool.true_or] at h
      exact retV_self h
    · rw [decide_eq_false h2, Bool.false_or] at h
      exact retV_self h
  · rw [decide_eq_false h1, Bool.false_and, Bool.false_or] at h
    exact retV_self h
theorem T_token1_ok {env : Env} (args : List AV) (σ : AS) (K : AV → AS → Prop) (X : PV → AS → Prop) (h : byteT lineB args σ K X) : bodyD PS env an87 Tryd.f87 args σ K X := by
  obtain ⟨c, rfl, h⟩ := h
  rw [← S87_eq env, S87]
  simp only [go_sem]
  have e : (((c.toNat : Int) != 10) : Bool) = lineB c := by unfold lineB; rw [bne, nBeqL]
  rw [e]
  exact retV_self h
theorem T_inner_ok {env : Env} (h1 : env 93 = byteT letterB) (h2 : env 112 = byteT digitB) (args : List AV) (σ : AS) (K : AV → AS → Prop) (X : PV → AS → Prop) (h : byteT innerB args σ K X) : bodyD PS env an115 Tryd.f115 args σ K X := by
  obtain ⟨c, rfl, h⟩ := h
  rw [← S115_eq env, S115, h1]
  refine ⟨c, rfl, ?_⟩
  unfold innerB at h
  simp only [go_sem]
  refine iteI (fun h3 => ?_) (fun h3 => ?_)
  · rw [h3, Bool.true_or] at h
    exact retV_self h
  · rw [Bool.eq_false_iff.2 h3, Bool.false_or] at h
    rw [h2]
    exact ⟨c, rfl, retV_self h⟩
/-- The functions of one byte that are handed on. -/
def predOf (f : Nat) : Option (UInt8 → Bool) := if f = 112 then some digitB else if f = 114 then some octalB else if f = 115 then some innerB else if f = 87 then some lineB else none
structure Preds (env : Env) : Prop where
  h1 : env 112 = byteT digitB
  h2 : env 114 = byteT octalB
  h3 : env 115 = byteT innerB
  h4 : env 87 = byteT lineB
theorem Preds.at {env : Env} (E : Preds env) {f : Nat} {p : UInt8 → Bool} (h : predOf f = some p) : env f = byteT p := by
  unfold predOf at h
  split at h
  · rename_i e; cases h; rw [e]; exact E.h1
  split at h
  · rename_i e; cases h; rw [e]; exact E.h2
  split at h
  · rename_i e; cases h; rw [e]; exact E.h3
  split at h
  · rename_i e; cases h; rw [e]; exact E.h4
  cases h
theorem span_drop {p : UInt8 → Bool} {s : Bytes} {n : Nat} (h : n < s.length) : spanL p (s.drop n) = if p (s.getD n 0) = true then spanL p (s.drop (n + 1)) + 1 else 0 := by
  rw [drop_consD (d := 0) h, spanL]
def T_span : Tr := fun args σ K _ => ∃ (s : Bytes) (f : Nat) (p : UInt8 → Bool), args = [.pv (.str s), .pv (.func f)] ∧ predOf f = some p ∧ s.length ≤ 1000000 ∧ K (.pv (.int .i64 (spanL p s))) σ
theorem T_span_ok {env : Env} (E : Preds env) (args : List AV) (σ : AS) (K : AV → AS → Prop) (X : PV → AS → Prop) (h : T_span args σ K X) : bodyD PS env an86 Tryd.f86 args σ K X := by
  obtain ⟨s, f, p, rfl, hp, hl, hK⟩ := h
  rw [← S86_eq env, S86]
  refine lp86_2 (fun (n : Nat) _ => s.length - n) (fun n τ => τ = σ ∧ n ≤ s.length ∧ spanL p s = n + spanL p (s.drop n)) (fun n => .pv (.int .i64 n)) 0 ⟨rfl, Nat.zero_le _, by simp⟩ ?_
  rintro n τ ⟨rfl, hn, he⟩
  unfold L86_2
  simp (disch := omega) only [go_sem]
  refine iteI (fun h1 => ?_) (fun h1 => ?_)
  · simp (disch := omega) only [T.is9, callD, E.at hp]
    refine ⟨_, rfl, ?_⟩
    rw [span_drop h1] at he
    simp only [go_sem]
    refine iteI (fun h2 => ?_) (fun h2 => ?_)
    · rw [if_pos h2] at he
      exact back (n + 1) rfl (by omega) ⟨rfl, h1, by omega⟩
    · rw [if_neg h2] at he
      rw [he] at hK
      exact retV_self hK
  · have : n = s.length := by omega
    subst this
    rw [List.drop_length] at he
    rw [he] at hK
    exact retV_self hK
def T_number : Tr := fun args σ K _ => ∃ s : Bytes, args = [.pv (.str s)] ∧ s.length ≤ 900000 ∧ K (.pv (.int .i64 (numberL s))) σ
theorem isAt_eq {s : Bytes} {n : Nat} (h : n < s.length) (k : Nat) : isAt s n k = ((s.getD n 0).toNat == k) := by unfold isAt; rw [decide_eq_true h, Bool.true_and]
theorem isAt_ge {s : Bytes} {n : Nat} (h : ¬ n < s.length) (k : Nat) : isAt s n k = false := by unfold isAt; rw [decide_eq_false h, Bool.false_and]
theorem T_number_ok {env : Env} (hs : env 86 = T_span) (args : List AV) (σ : AS) (K : AV → AS → Prop) (X : PV → AS → Prop) (h : T_number args σ K X) : bodyD PS env an83 Tryd.f83 args σ K X := by
  obtain ⟨s, rfl, hl, hK⟩ := h
  rw [← S83_eq env, S83]
  have j13 : ∀ n a : Nat, a ≤ s.length → K (.pv (.int .i64 ((if 0 < spanL digitB (s.drop a) then a + spanL digitB (s.drop a) else n : Nat)))) σ → J83_13 env (.pv (.str s)) (.pv (.int .i64 n)) (.pv (.int .i64 a)) σ K X := by
    intro n a ha hK
    have hb := span_le digitB (s.drop a)
    rw [List.length_drop] at hb
    unfold J83_13
    simp (disch := omega) only [go_sem, T.ss9, hs]
    refine ⟨_, _, digitB, rfl, rfl, by rw [List.length_drop]; omega, ?_⟩
    simp (disch := omega) only [go_sem]
    refine iteI (fun h1 => ?_) (fun h1 => ?_)
    · rw [if_pos h1] at hK; exact retV_self hK
    · rw [if_neg h1] at hK; exact retV_self hK
  have j10 : ∀ (n : Nat) (b : Bool), n ≤ s.length → b = (decide (n < s.length) && (s.getD n 0 ||| 32).toNat == 101) → K (.pv (.int .i64 (expL s n))) σ → J83_10 env (.pv (.str s)) (.pv (.int .i64 n)) (.pv (.bool b)) σ K X := by
    intro n b hn hb hK
    unfold J83_10
    simp only [go_sem]
    unfold expL at hK
    refine iteI (fun h1 => ?_) (fun h1 => ?_)
    · subst h1
      rw [← hb] at hK
      have hlt : n < s.length := by
        have := hb.symm
        rw [Bool.and_eq_true] at this
        exact of_decide_eq_true this.1
      simp only [if_true] at hK
      have hexp : ∀ a, expAt s n = a → J83_13 env (.pv (.str s)) (.pv (.int .i64 n)) (.pv (.int .i64 a)) σ K X := by
        intro a ha
        rw [ha] at hK
        exact j13 n a (by rw [← ha]; exact expAt_le hlt) hK
      simp (disch := omega) only [go_sem]
      refine iteI (fun h2 => ?_) (fun h2 => ?_)
      · simp (disch := omega) only [T.is9]
        simp (disch := omega) only [go_sem, beq_iff_eq]
        refine iteI (fun h3 => ?_) (fun h3 => ?_)
        · refine hexp _ ?_
          unfold expAt
          rw [isAt_eq h2, h3]; rfl
        · refine iteI (fun h4 => ?_) (fun h4 => ?_)
          · refine hexp _ ?_
            unfold expAt
            rw [isAt_eq h2, isAt_eq h2, h4]; rfl
          · refine hexp _ ?_
            unfold expAt
            rw [isAt_eq h2, isAt_eq h2, if_neg (by rw [Bool.or_eq_true, beq_iff_eq, beq_iff_eq]; omega)]
      · refine hexp _ ?_
        unfold expAt
        rw [isAt_ge h2, isAt_ge h2]; rfl
    · rw [← hb, if_neg h1] at hK
      exact retV_self hK
  have j7 : ∀ n m : Nat, n ≤ s.length → K (.pv (.int .i64 ((if m = 0 then 0 else expL s n : Nat)))) σ → J83_7 env (.pv (.str s)) (.pv (.int .i64 n)) (.pv (.int .i64 m)) σ K X := by
    intro n m hn hK
    unfold J83_7
    simp only [go_sem, beq_iff_eq]
    refine iteI (fun h1 => ?_) (fun h1 => ?_)
    · rw [if_pos h1] at hK; exact retV_self hK
    · rw [if_neg h1] at hK
      refine iteI (fun h2 => ?_) (fun h2 => ?_)
      · simp (disch := omega) only [T.is9, bor32]
        simp only [go_sem]
        exact j10 n _ hn (by rw [decide_eq_true h2, Bool.true_and]) hK
      · exact j10 n _ hn (by rw [decide_eq_false h2, Bool.false_and]) hK
  have j4 : ∀ (n : Nat) (b : Bool), n ≤ s.length → b = isAt s n 46 → K (.pv (.int .i64 ((if (fracL s n).2 = 0 then 0 else expL s (fracL s n).1 : Nat)))) σ → J83_4 env (.pv (.str s)) (.pv (.int .i64 n)) (.pv (.int .i64 n)) (.pv (.bool b)) σ K X := by
    intro n b hn hb hK
    unfold J83_4
    simp only [go_sem]
    unfold fracL at hK
    refine iteI (fun h1 => ?_) (fun h1 => ?_)
    · subst h1
      have hlt := isAt_lt hb.symm
      rw [← hb] at hK
      simp only [if_true] at hK
      have hbd := span_le digitB (s.drop (n + 1))
      rw [List.length_drop] at hbd
      simp (disch := omega) only [go_sem, T.ss9, hs]
      refine ⟨_, _, digitB, rfl, rfl, by rw [List.length_drop]; omega, ?_⟩
      simp (disch := omega) only [go_sem]
      refine iteI (fun h2 => ?_) (fun h2 => ?_)
      · rw [if_pos h2] at hK
        exact j7 _ _ (by omega) hK
      · rw [if_neg h2] at hK
        exact j7 _ _ hn hK
    · rw [← hb, if_neg h1] at hK
      exact j7 _ _ hn hK
  have hb := span_le digitB s
  rw [hs]
  refine ⟨s, _, digitB, rfl, rfl, by omega, ?_⟩
  unfold numberL at hK
  simp (disch := omega) only [go_sem]
  refine iteI (fun h1 => ?_) (fun h1 => ?_)
  · simp (disch := omega) only [T.is9]
    simp only [go_sem]
    exact j4 _ _ hb (isAt_eq h1 46).symm hK
  · exact j4 _ _ hb (isAt_ge h1 46).symm hK
def T_listed : Tr := fun args σ K _ => ∃ l w : Bytes, args = [.pv (.str l), .pv (.str w)] ∧ l.length ≤ 1000 ∧ w.length ≤ 1000000 ∧ K (.pv (.bool (listedS l w))) σ
theorem T_listed_ok {env : Env} (hc : env 116 = strT2 fun s t => .pv (.bool (Lib.contains s t))) (args : List AV) (σ : AS) (K : AV → AS → Prop) (X : PV → AS → Prop) (h : T_listed args σ K X) : bodyD PS env an95 Tryd.f95 args σ K X := by
  obtain ⟨l, w, rfl, h1, h2, hK⟩ := h
  rw [← S95_eq env, S95]
  simp only [go_sem]
  refine ⟨by simp; omega, by simp; omega, ?_⟩
  rw [hc]
  exact ⟨l, [32] ++ w ++ [32], rfl, by omega, retV_self hK⟩
end Go.AD.Lx
