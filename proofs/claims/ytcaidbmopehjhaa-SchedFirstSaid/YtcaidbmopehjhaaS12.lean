/- sched: awake. -/
import Derived.Test.YtcaidbmopehjhaaS11
set_option linter.unusedVariables false
set_option linter.unusedSimpArgs false
set_option maxRecDepth 100000
namespace Go.AD.Sc
open Go.Proofs
def T22 : Tr := fun args σ K _ => args = [] ∧ ∀ σ', σ.sub σ' → K (.pv (.bool true)) σ'
def awakeL : List Stp := [(1, 1, 0), (2, 1, 0), (0, 0, 0), (1, 0, 0), (2, 0, 0), (3, 0, 0), (3, 1, 0)]
theorem awake_plan : (plan [1, 0] 1 (pickAt [1])).1.length = 7 ∧ (plan [1, 0] 1 (pickAt [1])).2 = 2 ∧ ((plan [1, 0] 1 (pickAt [1])).1.getD 0 (0, 0, 0)).1 = 1 ∧ ((plan [1, 0] 1 (pickAt [1])).1.getD 0 (0, 0, 0)).2.1 = 1 ∧ ((plan [1, 0] 1 (pickAt [1])).1.getD 6 (0, 0, 0)).1 = 3 ∧ ((plan [1, 0] 1 (pickAt [1])).1.getD 6 (0, 0, 0)).2.1 = 1 := by decide +kernel
theorem flatS_cell {l : List Stp} {i j : Nat} (h : i < l.length) (hj : j < 3) : (flatS l)[i * 3 + j]? = (stepPV l[i])[j]? := by
  rw [← flatS_get l i h]
  rw [List.getElem?_take, if_pos hj, List.getElem?_drop]
theorem T22_ok {env : Env} (h24 : env 24 = Tr.wk T24) (args : List AV) (σ : AS) (K : AV → AS → Prop) (X : PV → AS → Prop) (h : T22 args σ K X) : bodyD PS env an22 Try.f22 args σ K X := by
  obtain ⟨rfl, hK⟩ := h
  rw [← S22_eq env, S22]
  have b2 : ∀ K, buildSliceD PS false σ 22 2 2 [(0, .pv (.int .i64 1)), (1, .pv (.int .i64 0))] K = K (.full 2 (i64s [1, 0])) σ := by
    intro K; simp [buildSliceD, go_sem, elemsFill, AV.cells, AV.cellOk, toPVs, toPV, i64s]
  have b1 : ∀ K, buildSliceD PS false σ 22 1 1 [(0, .pv (.int .i64 1))] K = K (.full 1 (i64s [1])) σ := by
    intro K; simp [buildSliceD, go_sem, elemsFill, AV.cells, AV.cellOk, toPVs, toPV, i64s]
  simp only [lock_eq, b2, b1, h24]
  refine Tr.wk_intro (args' := [.pv (.lst 2 (i64s [1, 0])), .pv (.int .i64 1), .pv (.lst 1 (i64s [1]))]) (wkP rfl (wkS (wkP rfl wkN))) ?_
  refine ⟨[1, 0], [1], 1, rfl, by intro c hc; have : c = 1 := by simpa using hc
                                  subst this; unfold in64; omega, by decide, fun h => by exact absurd h (by decide), ?_⟩
  intro cs r e1 e2 _ _ _ _ _ _ σ' hs
  have hcs : cs = [1, 0] := by
    match cs, e1 with
    | [a, b], e1 => simp [ints] at e1; simp; omega
  have hr : r = 1 := by omega
  subst hcs hr
  obtain ⟨a1, a2, a3, a4, a5, a6⟩ := awake_plan
  unfold planV
  generalize hL : plan [1, 0] 1 (pickAt [1]) = L at *
  obtain ⟨L, m⟩ := L
  simp only at a1 a2 a3 a4 a5 a6 ⊢
  subst a2
  have g0 : L.getD 0 (0, 0, 0) = L[0] := by simp [a1]
  have g6 : L.getD 6 (0, 0, 0) = L[6] := by simp [a1]
  rw [g0] at a3 a4
  rw [g6] at a5 a6
  have x0 : ∀ (K : AV → Prop), indexAddrD PS 36 (.pv (.lst 7 (flatS L))) (.pv (.int .i64 0)) K = K (.elemP (flatS L) (0 * 3)) := fun K => T.ixl36 (i := 0) (by omega) (by rw [flatS_len, a1])
  have x6 : ∀ (K : AV → Prop), indexAddrD PS 36 (.pv (.lst 7 (flatS L))) (.pv (.int .i64 6)) K = K (.elemP (flatS L) (6 * 3)) := fun K => T.ixl36 (i := 6) (by omega) (by rw [flatS_len, a1])
  have c00 : (flatS L)[0]? = some (.str sSend) := by have := flatS_cell (l := L) (i := 0) (j := 0) (by omega) (by omega); simpa [stepPV, a3, names] using this
  have c01 : (flatS L)[1]? = some (.int .i64 1) := by have := flatS_cell (l := L) (i := 0) (j := 1) (by omega) (by omega); simpa [stepPV, a4] using this
  have c60 : (flatS L)[18]? = some (.str sFlush) := by have := flatS_cell (l := L) (i := 6) (j := 0) (by omega) (by omega); simpa [stepPV, a5, names] using this
  have c61 : (flatS L)[19]? = some (.int .i64 1) := by have := flatS_cell (l := L) (i := 6) (j := 1) (by omega) (by omega); simpa [stepPV, a6] using this
  simp only [ext_tuple, List.getElem?_cons_zero, List.getElem?_cons_succ, someEx, T.lnl36, x0, x6, T.fe42_0, T.fe42_1, T.le9, T.le3, a1, Nat.reduceMul, Nat.reduceAdd, c00, c01, c60, c61, bin_eql, bin_seql, guard_true]
  repeat (rw [if_pos (by decide)])
  exact retV_self (hK _ hs)
end Go.AD.Sc
