/- octet: places, digits, encodings. -/
import Derived.Test.YtcaidbmopehjhaaO1
import Derived.Lib.DecodeN
set_option linter.unusedVariables false
namespace Go.AD
open Go.Proofs
section
variable {x : List UInt8} {i j : Nat} {k k' : IntKind} {K : AV → Prop}
@[go_sem] theorem len9 : lenD PA 9 (.pv (.str x)) K = K (.pv (.int .i64 x.length)) := len_str Try.underlying9
theorem ix9 (hi : i < x.length) : indexD PA 9 (.pv (.str x)) (.pv (.int k i)) K = K (.pv (.int .u8 (x.getD i 0).toNat)) := ixS Try.underlying9 hi
theorem sl9 (hi : i ≤ x.length) : sliceD PA 9 (.pv (.str x)) (some (.pv (.int k i))) none K = K (.pv (.str (x.drop i))) := slS Try.underlying9 hi
theorem sl9t (hi : i ≤ x.length) : sliceD PA 9 (.pv (.str x)) none (some (.pv (.int k i))) K = K (.pv (.str (x.take i))) := slS0 Try.underlying9 hi
theorem sl9b (hi : i ≤ j) (hj : j ≤ x.length) : sliceD PA 9 (.pv (.str x)) (some (.pv (.int k i))) (some (.pv (.int k' j))) K = K (.pv (.str ((x.take j).drop i))) := slS2 Try.underlying9 hi hj
end
theorem wrapAdd (a b : Int) : IntKind.wrap .i64 (a + IntKind.wrap .i64 b) = IntKind.wrap .i64 (a + b) := by
  have e : ∀ n, IntKind.wrap .i64 n = if n % 18446744073709551616 ≥ 9223372036854775808 then n % 18446744073709551616 - 18446744073709551616 else n % 18446744073709551616 := by
    intro n; simp [IntKind.wrap, IntKind.bits, IntKind.signed]
  rw [e b, e, e]
  split <;> split <;> split <;> omega
/-! ### the bytes of some places -/
def cutS (s : List UInt8) (f n : Int) : List UInt8 := (s.take (f + n - 1).toNat).drop (f - 1).toNat
def T18 : Tr := fun args σ K _ => ∃ (s : List UInt8) (f n : Int), args = [.pv (.str s), .pv (.int .i64 f), .pv (.int .i64 n)] ∧ s.length ≤ 5000 ∧ in64 f ∧ in64 n ∧ K (.pv (.str (cutS s f n))) σ
theorem T18_ok {env : Env} (args : List AV) (σ : AS) (K : AV → AS → Prop) (X : PV → AS → Prop) (h : T18 args σ K X) : bodyD PA env an18 Try.f18 args σ K X := by
  obtain ⟨s, f, n, rfl, hs, hf, hn, h⟩ := h
  unfold in64 at hf hn
  rw [← S18_eq env, S18]
  have nil : (n ≤ 0 ∨ f > s.length ∨ n + f - 1 ≤ 0) → K (.pv (.str [])) σ := by
    intro hh
    have : cutS s f n = [] := by
      unfold cutS
      apply List.drop_eq_nil_of_le
      rw [List.length_take]
      omega
    rwa [this] at h
  have j8 : ∀ f' n' : Int, 1 ≤ f' → f' - 1 ≤ s.length → 0 < n' → n' ≤ 9223372036854775807 → cutS s f n = cutS s f' n' → J18_8 env (.pv (.str s)) (.pv (.int .i64 f')) (.pv (.int .i64 n')) σ K X := by
    intro f' n' h1 h2 h3 h4 he
    unfold J18_8
    obtain ⟨a, rfl⟩ : ∃ a : Nat, f' = a := ⟨f'.toNat, by omega⟩
    obtain ⟨b, rfl⟩ : ∃ b : Nat, n' = b := ⟨n'.toNat, by omega⟩
    simp (disch := omega) only [go_sem, wrap64, nSub1, sl9, nMin, sl9t]
    refine retV_self ?_
    rw [he] at h
    have : cutS s a b = (s.drop (a - 1)).take (min b (s.drop (a - 1)).length) := by
      unfold cutS
      rw [List.drop_take, List.length_drop, show ((a : Int) + b - 1).toNat = a + b - 1 by omega, show ((a : Int) - 1).toNat = a - 1 by omega, show a + b - 1 - (a - 1) = b by omega]
      rw [List.take_eq_take_iff]
      simp
    rwa [this] at h
  simp only [go_sem, gt_iff_lt]
  split
  · exact retV_self (nil (.inl (by assumption)))
  split
  · exact retV_self (nil (.inr (.inl (by assumption))))
  · unfold J18_3
    simp only [go_sem]
    rw [wrapAdd]
    split
    · rw [wrap64 (by omega) (by omega)]
      split
      · exact retV_self (nil (.inr (.inr (by omega))))
      · refine j8 1 _ (by omega) (by omega) (by omega) (by omega) ?_
        unfold cutS
        have e1 : (f - 1).toNat = 0 := by omega
        have e2 : ((1 : Int) - 1).toNat = 0 := rfl
        have e3 : (f + n - 1).toNat = (1 + (n + (f - 1)) - 1).toNat := by congr 1; omega
        rw [e1, e2, e3]
    · exact j8 f n (by omega) (by omega) (by omega) (by omega) rfl
def T33 : Tr := fun args σ K _ => ∃ (i f n : Int), args = [.pv (.int .i64 i), .pv (.int .i64 f), .pv (.int .i64 n)] ∧ in64 (f + n) ∧ K (.pv (.bool (decide (f + n > i)))) σ
theorem T33_ok {env : Env} (args : List AV) (σ : AS) (K : AV → AS → Prop) (X : PV → AS → Prop) (h : T33 args σ K X) : bodyD PA env an33 Try.f33 args σ K X := by
  obtain ⟨i, f, n, rfl, hf, h⟩ := h
  unfold in64 at hf
  rw [← S33_eq env, S33]
  simp (disch := omega) only [go_sem, wrap64]
  exact retV_self h
def T19 : Tr := fun args σ K _ => ∃ (s : List UInt8) (f n : Int), args = [.pv (.str s), .pv (.int .i64 f), .pv (.int .i64 n)] ∧ s.length ≤ 5000 ∧ in64 f ∧ in64 n ∧ K (.pv (.str (cutS s f n))) σ
theorem cut_in (s : List UInt8) (lo hi i : Nat) (h : i < s.length) (h1 : lo ≤ i) (h2 : i < hi) : (s.take (min hi (i + 1))).drop lo = (s.take (min hi i)).drop lo ++ [s.getD i 0] := by
  rw [show min hi (i + 1) = i + 1 by omega, show min hi i = i by omega, take_snocD h, List.drop_append_of_le_length (by rw [List.length_take]; omega)]
theorem cut_out (s : List UInt8) (lo hi i : Nat) (h1 : ¬ (lo ≤ i ∧ i < hi)) : (s.take (min hi (i + 1))).drop lo = (s.take (min hi i)).drop lo := by
  rcases Nat.lt_or_ge i lo with h | h
  · rw [List.drop_eq_nil_of_le (by rw [List.length_take]; omega), List.drop_eq_nil_of_le (by rw [List.length_take]; omega)]
  · rw [show min hi (i + 1) = min hi i by omega]
theorem T19_ok {env : Env} (h33 : env 33 = T33) (args : List AV) (σ : AS) (K : AV → AS → Prop) (X : PV → AS → Prop) (h : T19 args σ K X) : bodyD PA env an19 Try.f19 args σ K X := by
  obtain ⟨s, f, n, rfl, hs, hf, hn, h⟩ := h
  unfold in64 at hf hn
  rw [← S19_eq env, S19]
  have hcut : cutS s f n = (s.take (min (f + n - 1).toNat s.length)).drop (f - 1).toNat := by
    unfold cutS
    congr 1
    rw [List.take_eq_take_iff]
    omega
  generalize hlo : (f - 1).toNat = lo at hcut
  generalize hhi : (f + n - 1).toNat = hi at hcut
  refine lp19_3 (fun (a : Nat × AV) _ => s.length - a.1) (fun a τ => a.1 ≤ s.length ∧ Grow PA 5 σ τ a.2 ((s.take (min hi a.1)).drop lo).length (pvBytes ((s.take (min hi a.1)).drop lo))) (fun a => a.2) (fun a => .pv (.int .i64 (a.1 + 1 : Nat))) (0, .nilS) ⟨by simp, by simpa [pvBytes] using Grow.start PA 5 σ⟩ ?_
  rintro ⟨i, v⟩ τ ⟨hi', G⟩
  simp only at hi' G
  unfold L19_3
  simp only [go_sem, nLe]
  split
  · rename_i hil
    have j6 : ∀ b : Bool, (b = true ↔ lo ≤ i ∧ i < hi) → J19_6 env (Inv (fun a : Nat × AV => [.pv (.str s), .pv (.int .i64 f), .pv (.int .i64 n), a.2, .pv (.int .i64 (a.1 + 1 : Nat))]) (fun a _ => s.length - a.1) (fun a τ => a.1 ≤ s.length ∧ Grow PA 5 σ τ a.2 ((s.take (min hi a.1)).drop lo).length (pvBytes ((s.take (min hi a.1)).drop lo)))) (s.length - i) (.pv (.str s)) (.pv (.int .i64 f)) (.pv (.int .i64 n)) v (.pv (.int .i64 (i + 1 : Nat))) (.pv (.bool b)) τ K X := by
      intro b hb
      unfold J19_6
      simp (disch := omega) only [go_sem, wrap64, nSub1, ix9]
      split
      · rename_i hbt
        have hb' := hb.1 hbt
        rw [show i + 1 - 1 = i by omega]
        refine app45 G (by rw [List.length_drop, List.length_take]; omega) ?_
        intro v' σ' G'
        exact back (i + 1, v') rfl (by simp; omega) ⟨hil, by simp only; rw [cut_in s lo hi i (by omega) hb'.1 hb'.2]; exact G'⟩
      · rename_i hbt
        have hb' : ¬ (lo ≤ i ∧ i < hi) := fun h => hbt (hb.2 h)
        exact back (i + 1, v) rfl (by simp; omega) ⟨hil, by simp only; rw [cut_out s lo hi i hb']; exact G⟩
    simp only [h33]
    split
    · split
      · split
        · rw [wrap64 (by omega) (by omega)]
          split
          · refine j6 true ⟨fun _ => by omega, fun _ => rfl⟩
          · split
            · exfalso; omega
            · exact j6 false ⟨fun h => by simp at h, fun h => by omega⟩
        · split
          · refine ⟨_, _, _, rfl, by unfold in64; omega, ?_⟩
            exact j6 _ (by simp; omega)
          · exfalso; omega
      · exact j6 false ⟨fun h => by simp at h, fun h => by omega⟩
    · exact j6 false ⟨fun h => by simp at h, fun h => by omega⟩
  · rename_i hil
    rw [conv45 G]
    refine retV_sub G.sub ?_
    rw [hcut] at h
    rwa [show i = s.length by omega]
end Go.AD
