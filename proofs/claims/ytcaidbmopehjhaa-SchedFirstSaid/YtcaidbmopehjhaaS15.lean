/- sched: the document's Plan, the end of the list: take and flush. -/
import Derived.Test.YtcaidbmopehjhaaS14
set_option linter.unusedVariables false
set_option linter.unusedSimpArgs false
set_option maxRecDepth 100000
namespace Go.AD.Sc
open Go.Proofs
theorem fin32 {env : Env} {I21 : Nat → List AV → AS → Prop} {m21 : Nat} {σ0 τ : AS} {I : RIds} {cs : List Nat} {room : Nat} {st : St} {wv mv x2 x9 x10 x11 : AV} {ol ml : Objs} {acc : List Stp} {K : AV → AS → Prop} {X : PV → AS → Prop}
    (V : Inv cs room st) (hn : st.next < cs.length) (hA : RefAt σ0 τ I cs st wv (ol ++ ml)) (hM : RowV PS 42 mv ml acc.length (flatS acc)) (hl : acc.length ≤ 1000) (hk : cs.length ≤ 64)
    (hK : ∀ τ' mv' ml', RefAt σ0 τ' I cs st wv (ol ++ ml') → RowV PS 42 mv' ml' (acc ++ fList st).length (flatS (acc ++ fList st)) → J25_34 env I21 m21 (.pv (.lst cs.length (i64s (ints cs)))) (.pv (.int .i64 room)) x2 (.pv (.int .i64 cs.length)) (.msl I.d 0 cs.length 1) (.msl I.s 0 cs.length 1) (.msl I.a 0 cs.length 1) wv (.pv (.int .i64 st.next)) x9 x10 x11 mv' τ' K X) :
    J25_32 env I21 m21 (.pv (.lst cs.length (i64s (ints cs)))) (.pv (.int .i64 room)) x2 (.pv (.int .i64 cs.length)) (.msl I.d 0 cs.length 1) (.msl I.s 0 cs.length 1) (.msl I.a 0 cs.length 1) wv (.pv (.int .i64 st.next)) x9 x10 x11 mv τ K X := by
  obtain ⟨wl, hR, hS⟩ := hA.row
  have g3 : τ I.a = some (.cells (boolsA (st.stg.map fun x => decide (x = 2))) none) := hS.get (by simp)
  have l2 := V.ls
  have e4 : (boolsA (st.stg.map fun x => decide (x = 2)))[st.next]? = some (.pv (.bool (decide (st.stg.getD st.next 0 = 2)))) := by
    rw [boolsA_get _ _ (by rw [List.length_map, l2]; exact hn), map_getD _ _ _ (by rw [l2]; exact hn)]
  unfold J25_32
  simp (disch := omega) only [go_sem, T.ixm66, g3, ldM_cells, e4, someEx]
  by_cases h2 : st.stg.getD st.next 0 = 2
  · have hf : fList st = [(3, st.next, 0)] := by unfold fList; rw [if_pos h2]
    rw [if_pos (by simpa using h2), bd2]
    refine mayApp (3, st.next, 0) hA hM (by omega) ?_
    intro τ' mv' ml' h3 h4
    exact hK τ' mv' ml' h3 (by rw [hf]; exact h4)
  · have hf : fList st = [] := by unfold fList; rw [if_neg h2]
    rw [if_neg (by simpa using h2)]
    exact hK τ mv ml hA (by rw [hf, List.append_nil]; exact hM)
theorem fin24 {env : Env} {I21 I24 : Nat → List AV → AS → Prop} {m21 m24 : Nat} {σ0 τ : AS} {I : RIds} {cs : List Nat} {room : Nat} {st : St} {wv mv x2 x9 x10 x11 : AV} {ol ml : Objs} {acc : List Stp} {K : AV → AS → Prop} {X : PV → AS → Prop}
    (V : Inv cs room st) (hn : st.next < cs.length) (hA : RefAt σ0 τ I cs st wv (ol ++ ml)) (hM : RowV PS 42 mv ml acc.length (flatS acc)) (hl : acc.length ≤ 64) (hk : cs.length ≤ 64) (hr : room ≤ 4096)
    (hK : ∀ τ' mv' ml', RefAt σ0 τ' I cs st wv (ol ++ ml') → RowV PS 42 mv' ml' (acc ++ (tList st ++ fList st)).length (flatS (acc ++ (tList st ++ fList st))) → J25_34 env I21 m21 (.pv (.lst cs.length (i64s (ints cs)))) (.pv (.int .i64 room)) x2 (.pv (.int .i64 cs.length)) (.msl I.d 0 cs.length 1) (.msl I.s 0 cs.length 1) (.msl I.a 0 cs.length 1) wv (.pv (.int .i64 st.next)) x9 x10 x11 mv' τ' K X) :
    L25_24 env I21 m21 I24 m24 (.pv (.lst cs.length (i64s (ints cs)))) (.pv (.int .i64 room)) x2 (.pv (.int .i64 cs.length)) (.msl I.d 0 cs.length 1) (.msl I.s 0 cs.length 1) (.msl I.a 0 cs.length 1) wv (.pv (.int .i64 st.next)) x9 x10 x11 mv (.pv (.int .i64 cs.length)) τ K X := by
  obtain ⟨wl, hR, hS⟩ := hA.row
  have hw := V.wr
  unfold L25_24
  simp (disch := omega) only [go_sem]
  rw [if_neg (Nat.lt_irrefl _)]
  simp (disch := omega) only [go_sem, T.lnv22 hR.toPV]
  by_cases he : st.way = []
  · have ht : tList st = [] := by unfold tList; rw [if_pos he]
    rw [if_neg (by rw [he]; decide)]
    refine fin32 V hn hA hM (by omega) hk ?_
    intro τ' mv' ml' h3 h4
    exact hK τ' mv' ml' h3 (by rw [ht]; exact h4)
  · have ht : tList st = [(2, st.way.headD 0, 0)] := by unfold tList; rw [if_neg he]
    have hp : 0 < st.way.length := List.length_pos_iff.2 he
    rw [if_pos hp]
    refine T.ixv22 (i := 0) hR.toPV hp (by simp [i64s, ints_len]) ?_
    have e5 : (i64s (ints st.way))[0 * 1]? = some (.int .i64 (st.way.headD 0 : Nat)) := by
      cases hq : st.way with
      | nil => exact absurd hq he
      | cons a l => simp [i64s, ints]
    simp (disch := omega) only [go_sem, e5, someEx, bd2]
    refine mayApp (2, st.way.headD 0, 0) hA hM (by omega) ?_
    intro τ' mv' ml' h3 h4
    refine fin32 V hn h3 h4 (by simp; omega) hk ?_
    intro τ2 mv2 ml2 h5 h6
    exact hK τ2 mv2 ml2 h5 (by rw [ht]; simpa [List.append_assoc] using h6)
end Go.AD.Sc
