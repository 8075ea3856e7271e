/- sched: the document's Plan, the end of a round: the step joins the list. -/
import Derived.Test.YtcaidbmopehjhaaS17
set_option linter.unusedVariables false
set_option linter.unusedSimpArgs false
set_option maxRecDepth 100000
namespace Go.AD.Sc
open Go.Proofs
theorem fin52 {env : Env} {I21 : Nat → List AV → AS → Prop} {m21 : Nat} {σ0 σ : AS} {x0 x1 x2 x3 x4 x5 x6 x7 x8 out : AV} {t held most : Nat} {var : Option TypeId} {s : Stp} {ol L : Objs} {acc : List Stp} {K : AV → AS → Prop} {X : PV → AS → Prop}
    (ho : RowV PS 42 out ol acc.length (flatS acc)) (hS : Sep σ0 σ (L ++ ol)) (ht : σ t = some (.cells ((stepPV s).map .pv) var)) (hl : acc.length ≤ 100000000)
    (hK : ∀ σ' out' ol', Sep σ0 σ' (L ++ ol') → RowV PS 42 out' ol' (acc ++ [s]).length (flatS (acc ++ [s])) → ∃ m', m' < m21 ∧ I21 m' [x0, x1, x2, x3, x4, x5, x6, x7, x8, .pv (.int .i64 held), .pv (.int .i64 (max most held : Nat)), out'] σ') :
    J25_52 env I21 m21 x0 x1 x2 x3 x4 x5 x6 x7 x8 (.pv (.int .i64 held)) (.pv (.int .i64 most)) out (.addr t 0) σ K X := by
  unfold J25_52
  simp (disch := omega) only [go_sem, load_addrA T.hT42 T.ag42 ht, T.sz42]
  refine ⟨by simp [stepPV], ?_⟩
  have hv : (((stepPV s).map AV.pv).drop 0).take 3 = (stepPV s).map .pv := by simp [stepPV]
  rw [hv, build1 (ys := stepPV s) rowT36 T.hT42 (by rw [T.sz42]; rfl) rfl rfl (by rw [T.sz42]; decide)]
  refine ho.append (l := L) hS rowT36 rfl (by rw [T.sz42]; rfl) (by omega) (by rw [T.by42]; omega) (by omega) ?_
  intro out' ol' σ' h1 h2
  refine hK σ' out' ol' h2 ?_
  rw [flatS_app, List.length_append]
  have : flatS [s] = stepPV s := by simp [flatS]
  rw [this]
  exact h1
end Go.AD.Sc
