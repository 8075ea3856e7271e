/- octet: letters, in place; the document's small letters. -/
import Derived.Test.YtcaidbmopehjhaaO6
set_option linter.unusedVariables false
set_option maxRecDepth 100000
namespace Go.AD
open Go.Proofs
def T30 : Tr := fun args σ K _ => ∃ s : List UInt8, args = [.pv (.str s)] ∧ s.length ≤ 5000 ∧ K (.pv (.str (s.map lowB))) σ
theorem T30_ok {env : Env} (args : List AV) (σ : AS) (K : AV → AS → Prop) (X : PV → AS → Prop) (h : T30 args σ K X) : bodyD PA env an30 Try.f30 args σ K X := by
  obtain ⟨s, rfl, hs, h⟩ := h
  rw [← S30_eq env, S30]
  refine lp30_3 (fun (a : Nat × AV) _ => s.length - a.1) (fun a τ => a.1 ≤ s.length ∧ Grow PA 5 σ τ a.2 ((s.take a.1).map lowB).length (pvBytes ((s.take a.1).map lowB))) (fun a => a.2) (fun a => .pv (.int .i64 a.1)) (0, .nilS) ⟨by simp, by simpa [pvBytes] using Grow.start PA 5 σ⟩ ?_
  rintro ⟨i, v⟩ τ ⟨hi, G⟩
  simp only at hi G
  unfold L30_3 J30_8
  have hc := lowB_nat (s.getD i 0)
  have step : ∀ hi : i < s.length, (s.take (i + 1)).map lowB = (s.take i).map lowB ++ [lowB (s.getD i 0)] := by
    intro hi
    rw [take_snocD hi, List.map_append]; rfl
  simp only [go_sem]
  split
  · rename_i hi
    rw [ixS Try.underlying9 hi]
    simp only [go_sem]
    rw [wrap64 (by omega) (by omega)]
    have fin : ∀ x : Int, ((lowB (s.getD i 0)).toNat : Int) = x → buildSliceD PA false τ 45 1 1 [(0, .pv (.int .u8 x))] fun t25 σ2 => appendD PA false σ2 45 v t25 fun t26 σ3 => ∃ m', m' < s.length - i ∧ Inv (fun a : Nat × AV => [.pv (.str s), a.2, .pv (.int .i64 a.1)]) (fun a _ => s.length - a.1) (fun a τ => a.1 ≤ s.length ∧ Grow PA 5 σ τ a.2 ((s.take a.1).map lowB).length (pvBytes ((s.take a.1).map lowB))) m' [.pv (.str s), t26, .pv (.int .i64 (i + 1 : Nat))] σ3 := by
      rintro x rfl
      refine app45 G (by simp; omega) ?_
      intro v' σ' G'
      exact back (i + 1, v') rfl (by simp; omega) ⟨hi, by rw [step hi]; exact G'⟩
    split <;> (try split) <;> exact fin _ (by rw [hc]; repeat (first | rw [if_pos (by assumption)] | rw [if_neg (by assumption)]))
  · rename_i hi
    rw [conv45 G]
    refine retV_sub G.sub ?_
    rwa [List.take_of_length_le (by omega)]
def fnOf (f : Nat) : UInt8 → UInt8 := if f = 49 then upB else lowB
def bytesA (l : List UInt8) : List AV := (pvBytes l).map .pv
theorem bytesA_len (l : List UInt8) : (bytesA l).length = l.length := by simp [bytesA, pvBytes]
theorem bytesA_get (l : List UInt8) (i : Nat) (h : i < l.length) : (bytesA l)[i]? = some (.pv (.int .u8 (l.getD i 0).toNat)) := by simp [bytesA, pvBytes, h]
theorem bytesA_set (l : List UInt8) (i : Nat) (c : UInt8) : (bytesA l).set i (.pv (.int .u8 c.toNat)) = bytesA (l.set i c) := by simp [bytesA, pvBytes, List.map_set]
def T48 : Tr := fun args σ K _ => ∃ (s : List UInt8) (f : Nat), args = [.pv (.str s), .pv (.func f)] ∧ (f = 49 ∨ f = 50) ∧ s.length ≤ 5000 ∧ K (.pv (.str (s.map (fnOf f)))) σ
theorem T48_ok {env : Env} (h49 : env 49 = T49) (h50 : env 50 = T50) (args : List AV) (σ : AS) (K : AV → AS → Prop) (X : PV → AS → Prop) (h : T48 args σ K X) : bodyD PA env an48 Try.f48 args σ K X := by
  obtain ⟨s, f, rfl, hf, hs, h⟩ := h
  rw [← S48_eq env, S48]
  simp only [bytesD, go_sem, Try.underlying9, Try.underlying5, newRowD, if_true]
  refine ⟨by omega, all_pv_ok _, ?_⟩
  intro id hid
  refine lp48_3 (fun (i : Nat) _ => s.length - i) (fun i τ => i ≤ s.length ∧ σ.sub τ ∧ τ id = some (.cells (bytesA ((s.take i).map (fnOf f) ++ s.drop i)) none)) (fun i => .pv (.int .i64 i)) 0 ⟨by simp, sub_set _ hid, by rw [set_same]; simp [bytesA]⟩ ?_
  rintro i τ ⟨hi, hsub, hτ⟩
  unfold L48_3
  have hl : ((s.take i).map (fnOf f) ++ s.drop i).length = s.length := by simp; omega
  simp only [go_sem]
  split
  · rename_i hlt
    have hg : ((s.take i).map (fnOf f) ++ s.drop i).getD i 0 = s.getD i 0 := by
      simp [List.getD_eq_getElem?_getD, List.getElem?_append, show min i s.length = i by omega]
    simp only [ldA T.hT5 T.ag5, hτ, ldM_cells, bytesA_get _ _ (by rw [hl]; exact hlt), someEx, hg]
    have fin : ∀ c : UInt8, c = fnOf f (s.getD i 0) → storeD PA τ 5 (.addr id i) (.pv (.int .u8 c.toNat)) fun σ4 => ∃ m', m' < s.length - i ∧ Inv (fun i : Nat => [.pv (.func f), .msl id 0 s.length 1, .msl id 0 s.length 1, .pv (.int .i64 s.length), .pv (.int .i64 i)]) (fun i _ => s.length - i) (fun i τ => i ≤ s.length ∧ σ.sub τ ∧ τ id = some (.cells (bytesA ((s.take i).map (fnOf f) ++ s.drop i)) none)) m' [.pv (.func f), .msl id 0 s.length 1, .msl id 0 s.length 1, .pv (.int .i64 s.length), .pv (.int .i64 (IntKind.i64.wrap (i + 1 : Nat)))] σ4 := by
      rintro c rfl
      rw [stA T.hT5 T.sz5 rfl rfl, hτ, stM_cells]
      refine ⟨by rw [bytesA_len, hl]; exact hlt, ?_⟩
      rw [wrap64 (by omega) (by omega)]
      refine back (i + 1) rfl (by omega) ⟨hlt, ?_, ?_⟩
      · intro j o hj
        have : j ≠ id := by intro e; subst e; rw [hid] at hj; cases hj
        rw [set_ne _ _ this]; exact hsub _ _ hj
      · rw [set_same, bytesA_set, take_snocD (d := 0) hlt, List.map_append]
        congr 3
        have : s.drop i = s.getD i 0 :: s.drop (i + 1) := drop_consD hlt
        rw [this]
        simp [show min i s.length = i by omega]
    rcases hf with rfl | rfl
    · simp only [callD, h49]
      refine ⟨hlt, s.getD i 0, rfl, ?_⟩
      simp only [go_sem, hlt]
      exact fin (upB (s.getD i 0)) rfl
    · simp only [callD, h50]
      refine ⟨hlt, s.getD i 0, rfl, ?_⟩
      simp only [go_sem, hlt]
      exact fin (lowB (s.getD i 0)) rfl
  · have he : i = s.length := by omega
    subst he
    rw [List.take_length, List.drop_length, List.append_nil] at hτ
    have hcv : ∀ K, convD PA τ 45 9 (.msl id 0 s.length 1) K = K (.pv (.str (s.map (fnOf f)))) := by
      intro K
      simp only [convD, isSlice T.el45, Try.underlying9, Try.underlying5, T.sz5, shown, hτ, true_and, Nat.mul_one, Nat.zero_add, List.drop_zero]
      rw [if_pos (by rw [bytesA_len, List.length_map]; exact Nat.le_refl _), List.take_of_length_le (by rw [bytesA_len, List.length_map]; exact Nat.le_refl _)]
      unfold bytesA
      rw [toPVs_pv]
      simp [bytesOf_pvBytes, pvBytes_len]
    rw [hcv]
    exact retV_sub hsub h
def T27 : Tr := fun args σ K _ => ∃ (s : List UInt8), args = [.pv (.str s)] ∧ s.length ≤ 5000 ∧ K (.pv (.str (s.map upB))) σ
theorem T27_ok {env : Env} (h48 : env 48 = T48) (args : List AV) (σ : AS) (K : AV → AS → Prop) (X : PV → AS → Prop) (h : T27 args σ K X) : bodyD PA env an27 Try.f27 args σ K X := by
  obtain ⟨s, rfl, hs, h⟩ := h
  rw [← S27_eq env, S27, h48]
  exact ⟨s, 49, rfl, .inl rfl, hs, retV_self h⟩
def T29 : Tr := fun args σ K _ => ∃ (s : List UInt8), args = [.pv (.str s)] ∧ s.length ≤ 5000 ∧ K (.pv (.str (s.map lowB))) σ
theorem T29_ok {env : Env} (h48 : env 48 = T48) (args : List AV) (σ : AS) (K : AV → AS → Prop) (X : PV → AS → Prop) (h : T29 args σ K X) : bodyD PA env an29 Try.f29 args σ K X := by
  obtain ⟨s, rfl, hs, h⟩ := h
  rw [← S29_eq env, S29, h48]
  exact ⟨s, 50, rfl, .inr rfl, hs, retV_self h⟩
end Go.AD
