/- sched: the document's Plan, the pick. -/
import Derived.Test.YtcaidbmopehjhaaS15
set_option linter.unusedVariables false
set_option linter.unusedSimpArgs false
set_option maxRecDepth 100000
namespace Go.AD.Sc
open Go.Proofs
theorem pick34 {env : Env} {I21 : Nat → List AV → AS → Prop} {m21 : Nat} {τ : AS} {picks : List Int} {x0 x1 x3 x4 x5 x6 x7 x8 x9 x10 out mv : AV} {oc mc : List PV} {j n : Nat} {K : AV → AS → Prop} {X : PV → AS → Prop}
    (ho : toPV out = some (.lst j oc)) (hm : toPV mv = some (.lst n mc)) (hn : 0 < n) (hj : j < 2 ^ 62) (hn2 : n < 2 ^ 62) (hp : ∀ c ∈ picks, in64 c) (hpl : picks.length ≤ 100000000000000)
    (hK : J25_37 env I21 m21 x0 x1 (.pv (.lst picks.length (i64s picks))) x3 x4 x5 x6 x7 x8 x9 x10 out mv (.pv (.int .i64 (pickAt picks j % n : Nat))) τ K X) :
    J25_34 env I21 m21 x0 x1 (.pv (.lst picks.length (i64s picks))) x3 x4 x5 x6 x7 x8 x9 x10 out mv τ K X := by
  have e3 : (i64s picks).length = picks.length * 1 := by simp [i64s]
  unfold J25_34
  simp (disch := omega) only [go_sem, T.lnv36 ho]
  by_cases h : j < picks.length
  · rw [if_pos h]
    have e5 : (i64s picks)[j]? = some (.int .i64 (picks.getD j 0)) := by simp [i64s, h]
    have hq : ((pickAt picks j % n : Nat) : Int) = (max (picks.getD j 0) 0).tmod n := by
      unfold pickAt
      rw [if_pos h]
      have h0 : 0 ≤ max (picks.getD j 0) 0 := Int.le_max_right _ _
      rw [Int.tmod_eq_emod_of_nonneg h0, Int.natCast_emod, Int.toNat_of_nonneg h0]
    simp (disch := omega) only [go_sem, T.ixl22, e5, someEx, T.lnv36 hm]
    refine ⟨by omega, ?_⟩
    rw [← hq]
    exact hK
  · rw [if_neg h]
    have h0 : pickAt picks j % n = 0 := by unfold pickAt; rw [if_neg h]; exact Nat.zero_mod _
    rw [h0] at hK
    exact hK
end Go.AD.Sc
