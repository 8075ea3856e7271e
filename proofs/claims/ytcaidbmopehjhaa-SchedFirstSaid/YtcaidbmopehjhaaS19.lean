/- sched: the document's Plan, the chosen step in its own variable. -/
import Derived.Test.YtcaidbmopehjhaaS18
set_option linter.unusedVariables false
set_option linter.unusedSimpArgs false
set_option maxRecDepth 100000
namespace Go.AD.Sc
open Go.Proofs
/-- Loading the step, its variable, and writing it there. -/
theorem own42 {σ0 σ : AS} {L : Objs} {mv : AV} {ml : Objs} {l : List Stp} {p : Nat} (hS : Sep σ0 σ L) (hM : RowV PS 42 mv ml l.length (flatS l)) (hp : p < l.length) {KS : AV → AS → Prop}
    (hK : ∀ t σ', Sep σ0 σ' ((t, .cells ((stepPV l[p]).map .pv) (some 42)) :: L) → KS (.addr t 0) σ') :
    indexAddrD PS 36 mv (.pv (.int .i64 p)) fun t147 => loadD PS σ 42 t147 fun t148 => allocD PS σ 42 fun t22 σ15 => storeD PS σ15 42 t22 t148 fun σ16 => KS t22 σ16 := by
  refine T.ixv36 (i := p) hM.toPV hp (by rw [flatS_len]) ?_
  rw [load_elemA T.hT42 T.ag42, T.sz42]
  refine ⟨by rw [flatS_len]; omega, ?_⟩
  rw [flatS_get l p hp]
  refine alloc_of T.zo42 rfl ?_
  intro t ht
  have h1 := hS.alloc ht (.cells [.pv (.str []), .pv (.int .i64 0), .pv (.int .i64 0)] (some 42))
  have hg : (σ.set t (.cells [.pv (.str []), .pv (.int .i64 0), .pv (.int .i64 0)] (some 42))) t = some (.cells [.pv (.str []), .pv (.int .i64 0), .pv (.int .i64 0)] (some 42)) := h1.get (by simp)
  simp only [storeD]
  rw [hg]
  refine ⟨T.hT42, by rw [T.sz42]; rfl, rfl, by simp [AV.cells, stepPV], ?_⟩
  exact hK t _ (Sep.set (l1 := []) h1 _)
end Go.AD.Sc
