/- sched: the document's Plan, the list of what may be done. -/
import Derived.Test.YtcaidbmopehjhaaS12
set_option linter.unusedVariables false
set_option linter.unusedSimpArgs false
set_option maxRecDepth 100000
namespace Go.AD.Sc
open Go.Proofs
structure RIds where
  d : Nat
  s : Nat
  a : Nat
/-- The document's state in memory. -/
structure RefAt (σ0 σ : AS) (I : RIds) (cs : List Nat) (st : St) (wv : AV) (X : Objs) : Prop where
  row : ∃ wl, RowV PS 3 wv wl st.way.length (i64s (ints st.way)) ∧ Sep σ0 σ ([(I.d, .cells (intsA (ints st.done)) none), (I.s, .cells (boolsA (st.stg.map fun x => decide (1 ≤ x))) none), (I.a, .cells (boolsA (st.stg.map fun x => decide (x = 2))) none)] ++ (wl ++ X))
def optsTo (cs : List Nat) (room : Nat) (st : St) (i : Nat) : List Stp := ((List.range i).filter (mayW cs room st)).map (wOpt cs st)
theorem optsTo_succ (cs : List Nat) (room : Nat) (st : St) (i : Nat) : optsTo cs room st (i + 1) = optsTo cs room st i ++ if mayW cs room st i = true then [wOpt cs st i] else [] := by
  unfold optsTo
  rw [List.range_succ, List.filter_append, List.map_append]
  by_cases h : mayW cs room st i = true <;> simp [h]
theorem optsTo_len (cs : List Nat) (room : Nat) (st : St) (i : Nat) : (optsTo cs room st i).length ≤ i := by
  unfold optsTo
  rw [List.length_map]
  exact Nat.le_trans (List.length_filter_le _ _) (by simp)
theorem map_getD (st : List Nat) (f : Nat → Bool) (i : Nat) (h : i < st.length) : (st.map f).getD i false = f (st.getD i 0) := by
  simp [List.getD_eq_getElem?_getD, h]
theorem names_v (s : Stp) : stpV s = .agg [.pv (.str (names s.1)), .pv (.int .i64 s.2.1), .pv (.int .i64 s.2.2)] := rfl
/-- One more in the list. -/
theorem mayApp {σ0 τ : AS} {I : RIds} {cs : List Nat} {st : St} {wv mv : AV} {ol ml : Objs} {acc : List Stp} (s : Stp) (hA : RefAt σ0 τ I cs st wv (ol ++ ml)) (hM : RowV PS 42 mv ml acc.length (flatS acc)) (hl : acc.length ≤ 100000) {K : AV → AS → Prop}
    (hK : ∀ τ' mv' ml', RefAt σ0 τ' I cs st wv (ol ++ ml') → RowV PS 42 mv' ml' (acc ++ [s]).length (flatS (acc ++ [s])) → K mv' τ') : buildSliceD PS false τ 36 1 1 [(0, stpV s)] fun t110 σ10 => appendD PS false σ10 36 mv t110 K := by
  have hsv : stpV s = .agg ((stepPV s).map .pv) := rfl
  rw [hsv, build1 (ys := stepPV s) rowT36 T.hT42 (by rw [T.sz42]; rfl) rfl rfl (by rw [T.sz42]; decide)]
  obtain ⟨wl, hR, hS⟩ := hA.row
  refine hM.append (l := [(I.d, .cells (intsA (ints st.done)) none), (I.s, .cells (boolsA (st.stg.map fun x => decide (1 ≤ x))) none), (I.a, .cells (boolsA (st.stg.map fun x => decide (x = 2))) none)] ++ (wl ++ ol)) (by simpa [List.append_assoc] using hS) rowT36 rfl (by rw [T.sz42]; rfl) (by omega) (by rw [T.by42]; omega) (by omega) ?_
  intro mv' ml' τ' hM' hS'
  refine hK τ' mv' ml' ⟨wl, hR, by simpa [List.append_assoc] using hS'⟩ ?_
  rw [flatS_app, List.length_append]
  have : flatS [s] = stepPV s := by simp [flatS]
  rw [this]
  exact hM'
end Go.AD.Sc
