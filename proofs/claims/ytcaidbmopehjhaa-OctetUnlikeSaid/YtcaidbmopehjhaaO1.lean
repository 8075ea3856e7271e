/- octet: letters. -/
import Derived.Test.YtcaidbmopehjhaaG5
import Derived.Test.YtcaidbmopehjhaaG4
import Derived.Test.YtcaidbmopehjhaaAd17
set_option linter.unusedVariables false
namespace Go.AD
open Go.Proofs
noncomputable abbrev PA := Go.Proofs.Try.prog
theorem rowT45 : RowT PA 45 5 := ⟨T.el45, by rw [T.sz5]; decide, _, T.zo5, by rw [T.sz5]; rfl⟩
theorem app45 {σ0 σ : AS} {v : AV} {l : List UInt8} {c : UInt8} {K : AV → AS → Prop} (G : Grow PA 5 σ0 σ v l.length (pvBytes l)) (hl : l.length ≤ 1000000)
    (h : ∀ v' σ', Grow PA 5 σ0 σ' v' (l ++ [c]).length (pvBytes (l ++ [c])) → K v' σ') : buildSliceD PA false σ 45 1 1 [(0, .pv (.int .u8 c.toNat))] fun x σ => appendD PA false σ 45 v x K := by
  rw [build1 (ys := [.int .u8 c.toNat]) rowT45 T.hT5 (by rw [T.sz5]; rfl) rfl rfl (by rw [T.sz5]; decide)]
  refine G.append rowT45 rfl (by rw [T.sz5]; rfl) (by omega) (by rw [T.by5]; omega) (by omega) ?_
  intro v' σ' G'
  exact h v' σ' (by simpa [pvBytes] using G')
theorem conv45 {σ0 σ : AS} {v : AV} {l : List UInt8} {K : AV → Prop} (G : Grow PA 5 σ0 σ v l.length (pvBytes l)) : convD PA σ 45 9 v K = K (.pv (.str l)) :=
  conv_bytes (isSlice T.el45) Try.underlying9 Try.underlying5 T.sz5 G.toPV
def upB (c : UInt8) : UInt8 := if 97 ≤ c ∧ c ≤ 122 then c - 32 else c
def lowB (c : UInt8) : UInt8 := if 65 ≤ c ∧ c ≤ 90 then c + 32 else c
def T49 : Tr := fun args σ K _ => ∃ c : UInt8, args = [.pv (.int .u8 c.toNat)] ∧ K (.pv (.int .u8 (upB c).toNat)) σ
def T50 : Tr := fun args σ K _ => ∃ c : UInt8, args = [.pv (.int .u8 c.toNat)] ∧ K (.pv (.int .u8 (lowB c).toNat)) σ
theorem upB_nat (c : UInt8) : ((upB c).toNat : Int) = if 97 ≤ c.toNat then (if c.toNat ≤ 122 then IntKind.wrap .u8 ((c.toNat : Int) - 32) else c.toNat) else c.toNat := by
  revert c; exact allU8 (by decide +kernel)
theorem lowB_nat (c : UInt8) : ((lowB c).toNat : Int) = if 65 ≤ c.toNat then (if c.toNat ≤ 90 then IntKind.wrap .u8 ((c.toNat + 32 : Nat) : Int) else c.toNat) else c.toNat := by
  revert c; exact allU8 (by decide +kernel)
theorem T49_ok {env : Env} (args : List AV) (σ : AS) (K : AV → AS → Prop) (X : PV → AS → Prop) (h : T49 args σ K X) : bodyD PA env an49 Try.f49 args σ K X := by
  obtain ⟨c, rfl, h⟩ := h
  rw [← S49_eq env, S49]
  rw [upB_nat] at h
  simp only [go_sem]
  split <;> (try split) <;> (repeat (first | rw [if_pos (by assumption)] at h | rw [if_neg (by assumption)] at h)) <;> exact retV_self h
theorem T50_ok {env : Env} (args : List AV) (σ : AS) (K : AV → AS → Prop) (X : PV → AS → Prop) (h : T50 args σ K X) : bodyD PA env an50 Try.f50 args σ K X := by
  obtain ⟨c, rfl, h⟩ := h
  rw [← S50_eq env, S50]
  rw [lowB_nat] at h
  simp only [go_sem]
  split <;> (try split) <;> (repeat (first | rw [if_pos (by assumption)] at h | rw [if_neg (by assumption)] at h)) <;> exact retV_self h
def T28 : Tr := fun args σ K _ => ∃ s : List UInt8, args = [.pv (.str s)] ∧ s.length ≤ 5000 ∧ K (.pv (.str (s.map upB))) σ
theorem T28_ok {env : Env} (args : List AV) (σ : AS) (K : AV → AS → Prop) (X : PV → AS → Prop) (h : T28 args σ K X) : bodyD PA env an28 Try.f28 args σ K X := by
  obtain ⟨s, rfl, hs, h⟩ := h
  rw [← S28_eq env, S28]
  refine lp28_3 (fun (a : Nat × AV) _ => s.length - a.1) (fun a τ => a.1 ≤ s.length ∧ Grow PA 5 σ τ a.2 ((s.take a.1).map upB).length (pvBytes ((s.take a.1).map upB))) (fun a => a.2) (fun a => .pv (.int .i64 a.1)) (0, .nilS) ⟨by simp, by simpa [pvBytes] using Grow.start PA 5 σ⟩ ?_
  rintro ⟨i, v⟩ τ ⟨hi, G⟩
  simp only at hi G
  unfold L28_3 J28_8
  have hc := upB_nat (s.getD i 0)
  have step : ∀ hi : i < s.length, (s.take (i + 1)).map upB = (s.take i).map upB ++ [upB (s.getD i 0)] := by
    intro hi
    rw [take_snocD hi, List.map_append]; rfl
  simp only [go_sem, len_str Try.underlying9, nLt]
  split
  · rename_i hi
    rw [ixS Try.underlying9 hi]
    simp only [go_sem]
    rw [wrap64 (by omega) (by omega)]
    have fin : ∀ x : Int, ((upB (s.getD i 0)).toNat : Int) = x → buildSliceD PA false τ 45 1 1 [(0, .pv (.int .u8 x))] fun t25 σ2 => appendD PA false σ2 45 v t25 fun t26 σ3 => ∃ m', m' < s.length - i ∧ Inv (fun a : Nat × AV => [.pv (.str s), a.2, .pv (.int .i64 a.1)]) (fun a _ => s.length - a.1) (fun a τ => a.1 ≤ s.length ∧ Grow PA 5 σ τ a.2 ((s.take a.1).map upB).length (pvBytes ((s.take a.1).map upB))) m' [.pv (.str s), t26, .pv (.int .i64 (i + 1 : Nat))] σ3 := by
      rintro x rfl
      refine app45 G (by simp; omega) ?_
      intro v' σ' G'
      exact back (i + 1, v') rfl (by simp; omega) ⟨hi, by rw [step hi]; exact G'⟩
    split <;> (try split) <;> exact fin _ (by rw [hc]; repeat (first | rw [if_pos (by assumption)] | rw [if_neg (by assumption)]))
  · rename_i hi
    rw [conv45 G]
    refine retV_sub G.sub ?_
    rwa [List.take_of_length_le (by omega)]
end Go.AD
