/- sched: the same steps. -/
import Derived.Test.YtcaidbmopehjhaaS10
set_option linter.unusedVariables false
set_option linter.unusedSimpArgs false
set_option maxRecDepth 100000
namespace Go.AD.Sc
open Go.Proofs
theorem ne42 {w : List UInt8} {a b : Int} {K : AV → Prop} : binD PS .neq 42 (.agg [.pv (.str w), .pv (.int .i64 a), .pv (.int .i64 b)]) (.agg [.pv (.str w), .pv (.int .i64 a), .pv (.int .i64 b)]) K = K (.pv (.bool false)) := by
  have h1 : PS.stoodInHeld 42 = false := by kernel_rfl
  have h2 : PS.eqGuardType PS.depth 42 = false := by kernel_rfl
  simp [binD, eqD, h1, h2, Try.underlying42, sameFields, sameAt, Try.underlying3, Try.underlying9]
theorem flatS_get : ∀ (l : List Stp) (i : Nat) (h : i < l.length), ((flatS l).drop (i * 3)).take 3 = stepPV l[i]
  | s :: l, 0, _ => by simp [flatS, stepPV]
  | s :: l, i + 1, h => by
    have : (i + 1) * 3 = i * 3 + 3 := by omega
    rw [this]
    have := flatS_get l i (by simpa using h)
    simpa [flatS, stepPV] using this
theorem flatS_ix {l : List Stp} {i : Nat} (h : i < l.length) {σ : AS} {K : AV → Prop} (hK : K (.agg ((stepPV l[i]).map .pv))) : indexAddrD PS 36 (.pv (.lst l.length (flatS l))) (.pv (.int .i64 i)) fun t19 => loadD PS σ 42 t19 K := by
  rw [T.ixl36 h (flatS_len l), load_elemA T.hT42 T.ag42]
  rw [T.sz42]
  refine ⟨by rw [flatS_len]; omega, ?_⟩
  rw [flatS_get l i h]
  exact hK
def T26 : Tr := fun args σ K _ => ∃ l : List Stp, args = [.pv (.lst l.length (flatS l)), .pv (.lst l.length (flatS l))] ∧ l.length ≤ 100000000000000 ∧ K (.pv (.bool true)) σ
theorem T26_ok {env : Env} (args : List AV) (σ : AS) (K : AV → AS → Prop) (X : PV → AS → Prop) (h : T26 args σ K X) : bodyD PS env an26 Try.f26 args σ K X := by
  obtain ⟨l, rfl, hl, hK⟩ := h
  rw [← S26_eq env, S26]
  simp only [lock_eq, T.lnl36, bin_neq, cond_bool, bne_self_eq_false, Bool.false_eq_true, if_false]
  refine lp26_4 (fun (i : Nat) _ => l.length - i) (fun i τ => τ = σ ∧ i ≤ l.length) (fun i => .pv (.int .i64 i)) 0 ⟨rfl, by omega⟩ ?_
  rintro i τ ⟨rfl, hi⟩
  unfold L26_4
  simp only [lock_eq, T.lnl36, bin_lss, cond_bool, decide_eq_true_eq, nLt]
  split
  · rename_i hlt
    refine flatS_ix hlt (flatS_ix hlt ?_)
    simp only [stepPV, List.map_cons, List.map_nil, ne42]
    simp (disch := omega) only [go_sem, Bool.false_eq_true, if_false]
    exact back (i + 1) rfl (by omega) ⟨rfl, hlt⟩
  · exact retV_self hK
end Go.AD.Sc
