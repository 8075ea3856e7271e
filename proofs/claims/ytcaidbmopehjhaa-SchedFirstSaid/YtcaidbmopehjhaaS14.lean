/- sched: the document's Plan, one round of the list's loop. -/
import Derived.Test.YtcaidbmopehjhaaS13
set_option linter.unusedVariables false
set_option linter.unusedSimpArgs false
set_option maxRecDepth 100000
namespace Go.AD.Sc
open Go.Proofs
theorem round24 {env : Env} {I21 I24 : Nat → List AV → AS → Prop} {m21 m24 : Nat} {σ0 τ : AS} {I : RIds} {cs : List Nat} {room : Nat} {st : St} {wv mv x2 x9 x10 x11 : AV} {ol ml : Objs} {i : Nat} {K : AV → AS → Prop} {X : PV → AS → Prop}
    (V : Inv cs room st) (hA : RefAt σ0 τ I cs st wv (ol ++ ml)) (hM : RowV PS 42 mv ml (optsTo cs room st i).length (flatS (optsTo cs room st i))) (hi : i < cs.length) (hk : cs.length ≤ 64) (hr : room ≤ 4096) (hc : ∀ c ∈ cs, c ≤ 1048576)
    (hK : ∀ τ' mv' ml', RefAt σ0 τ' I cs st wv (ol ++ ml') → RowV PS 42 mv' ml' (optsTo cs room st (i + 1)).length (flatS (optsTo cs room st (i + 1))) → ∃ m', m' < m24 ∧ I24 m' [.pv (.lst cs.length (i64s (ints cs))), .pv (.int .i64 room), x2, .pv (.int .i64 cs.length), .msl I.d 0 cs.length 1, .msl I.s 0 cs.length 1, .msl I.a 0 cs.length 1, wv, .pv (.int .i64 st.next), x9, x10, x11, mv', .pv (.int .i64 (i + 1 : Nat))] τ') :
    L25_24 env I21 m21 I24 m24 (.pv (.lst cs.length (i64s (ints cs)))) (.pv (.int .i64 room)) x2 (.pv (.int .i64 cs.length)) (.msl I.d 0 cs.length 1) (.msl I.s 0 cs.length 1) (.msl I.a 0 cs.length 1) wv (.pv (.int .i64 st.next)) x9 x10 x11 mv (.pv (.int .i64 i)) τ K X := by
  obtain ⟨wl, hR, hS⟩ := hA.row
  have hl := optsTo_len cs room st i
  have g1 : τ I.d = some (.cells (intsA (ints st.done)) none) := hS.get (by simp)
  have g2 : τ I.s = some (.cells (boolsA (st.stg.map fun x => decide (1 ≤ x))) none) := hS.get (by simp)
  unfold L25_24
  simp (disch := omega) only [go_sem]
  rw [if_pos hi]
  have l1 := V.ld
  have l2 := V.ls
  have e1 : (ints cs).length = cs.length := ints_len _
  have e2 : (ints st.done).length = cs.length := by rw [ints_len, l1]
  have e3 : (i64s (ints cs)).length = cs.length * 1 := by simp [i64s, ints_len]
  simp (disch := omega) only [go_sem, T.ixm22, T.ixl22, g1, ldM_cells, intsA_get, i64s_getD, someEx]
  simp only [ints_getD, Int.ofNat_lt]
  have hsucc := optsTo_succ cs room st i
  have goApp : mayW cs room st i = true → ∀ K' : AV → AS → Prop, (∀ mv' τ', (∃ ml', RefAt σ0 τ' I cs st wv (ol ++ ml') ∧ RowV PS 42 mv' ml' (optsTo cs room st (i + 1)).length (flatS (optsTo cs room st (i + 1)))) → K' mv' τ') → buildSliceD PS false τ 36 1 1 [(0, stpV (wOpt cs st i))] fun t110 σ10 => appendD PS false σ10 36 mv t110 K' := by
    intro hm K' hK'
    rw [if_pos hm] at hsucc
    exact mayApp _ hA hM (by omega) fun τ' mv' ml' h1 h2 => hK' mv' τ' ⟨ml', h1, by rw [hsucc]; exact h2⟩
  split
  · rename_i hlt
    have hm : mayW cs room st i = true := by unfold mayW; rw [decide_eq_true hlt]; rfl
    have hw : wOpt cs st i = (0, i, st.done.getD i 0) := by unfold wOpt; rw [if_pos hlt]
    rw [bd3]
    have := goApp hm
    rw [hw] at this
    refine this _ ?_
    rintro mv' τ' ⟨ml', h1, h2⟩
    exact hK τ' mv' ml' h1 h2
  · rename_i hlt
    have hw : wOpt cs st i = (1, i, 0) := by unfold wOpt; rw [if_neg hlt]
    have jN : ∀ b : Bool, b = mayW cs room st i → J25_29 env I21 m21 I24 m24 (.pv (.lst cs.length (i64s (ints cs)))) (.pv (.int .i64 room)) x2 (.pv (.int .i64 cs.length)) (.msl I.d 0 cs.length 1) (.msl I.s 0 cs.length 1) (.msl I.a 0 cs.length 1) wv (.pv (.int .i64 st.next)) x9 x10 x11 mv (.pv (.int .i64 i)) (.pv (.bool b)) τ K X := by
      intro b hb
      unfold J25_29
      cases b with
      | false =>
        simp (disch := omega) only [go_sem]
        refine hK τ mv ml hA ?_
        rw [hsucc, ← hb]
        simpa using hM
      | true =>
        simp (disch := omega) only [go_sem, bd2]
        have := goApp hb.symm
        rw [hw] at this
        refine this _ ?_
        rintro mv' τ' ⟨ml', h1, h2⟩
        exact hK τ' mv' ml' h1 h2
    have hm : mayW cs room st i = (decide (st.stg.getD i 0 = 0) && decide (st.way.length < room)) := by unfold mayW; rw [decide_eq_false hlt]; rfl
    have e4 : (boolsA (st.stg.map fun x => decide (1 ≤ x)))[i]? = some (.pv (.bool (decide (1 ≤ st.stg.getD i 0)))) := by
      rw [boolsA_get _ _ (by rw [List.length_map, l2]; exact hi), map_getD _ _ _ (by rw [l2]; exact hi)]
    simp (disch := omega) only [go_sem, T.ixm66, g2, ldM_cells, e4, someEx]
    by_cases hs : st.stg.getD i 0 = 0
    · rw [hs]
      simp (disch := omega) only [go_sem, T.lnv22 hR.toPV, Nat.not_lt_zero, decide_false, Bool.not_false, Nat.le_zero_eq, Nat.reduceLeDiff]
      refine jN _ ?_
      rw [hm, hs]; simp
    · have : 1 ≤ st.stg.getD i 0 := by omega
      rw [decide_eq_true this]
      simp (disch := omega) only [go_sem, Bool.not_true]
      refine jN _ ?_
      rw [hm, decide_eq_false hs]; rfl
end Go.AD.Sc
