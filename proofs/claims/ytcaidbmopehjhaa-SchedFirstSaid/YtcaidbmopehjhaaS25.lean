/- sched: the law SchedWhole. -/
import Derived.Test.YtcaidbmopehjhaaS24
set_option linter.unusedVariables false
set_option linter.unusedSimpArgs false
set_option maxRecDepth 100000
namespace Go.AD.Sc
open Go.Proofs
theorem right_of {cs : List Nat} {r : Nat} (h1 : 1 ≤ cs.length) (h2 : cs.length ≤ 4096) (h3 : 1 ≤ r) (h4 : r ≤ 4096) (hs : cs.sum ≤ 1048576) : rightS (ints cs) r ≠ none := by
  have key : ∀ (cs : List Nat) (n : Int), 0 ≤ n → n + cs.sum ≤ 1048576 → sumOk (ints cs) n = some (n + cs.sum) := by
    intro cs
    induction cs with
    | nil => intro n _ _; simp [ints, sumOk]
    | cons c cs ih =>
      intro n h0 h
      simp only [List.sum_cons] at h ⊢
      simp only [ints, List.map_cons, sumOk] at ih ⊢
      rw [if_neg (by omega), ih _ (by omega) (by omega)]
      congr 1
      omega
  rw [rightS, if_neg (by rw [ints_len]; omega), key cs 0 (by omega) (by omega)]
  simp
theorem nmSend (n : Nat) : (names n == [115, 101, 110, 100]) = decide (n = 1) := by
  unfold names
  split
  · rename_i h; subst h; rfl
  · split
    · rename_i h; subst h; rfl
    · rename_i h
      rw [decide_eq_false h]
      split <;> rfl
theorem nmTake (n : Nat) : (names n == [116, 97, 107, 101]) = decide (n = 2) := by
  unfold names
  split
  · rename_i h; subst h; rfl
  · split
    · rename_i h; subst h; rfl
    · split
      · rename_i h; subst h; rfl
      · rename_i h
        rw [decide_eq_false h]; rfl
theorem run_end {cs : List Nat} {r : Nat} (hr : 1 ≤ r) (pk : Nat → Nat) : (runSt cs r pk (total cs)).next = cs.length := by
  obtain ⟨V, hp⟩ := run_inv (cs := cs) hr pk (total cs) (Nat.le_refl _)
  rcases Nat.lt_or_ge (runSt cs r pk (total cs)).next cs.length with h | h
  · have h1 := V.step (sel_mem V hr h pk 0) h
    have := pot_le h1.1
    omega
  · exact Nat.le_antisymm V.nx h
theorem nmFlush (n : Nat) : (names n == [102, 108, 117, 115, 104]) = !(decide (n = 0) || decide (n = 1) || decide (n = 2)) := by
  unfold names
  split
  · rename_i h; subst h; rfl
  · rename_i h0
    split
    · rename_i h; subst h; rfl
    · rename_i h1
      split
      · rename_i h; subst h; rfl
      · rename_i h2
        rw [decide_eq_false h0, decide_eq_false h1, decide_eq_false h2]; rfl
theorem z0 : ((((0 : Nat) : Int)) != 0) = false := rfl
theorem z1 : ((((1 : Nat) : Int)) != 1) = false := rfl
theorem z2 : ((((2 : Nat) : Int)) != 2) = false := rfl
theorem zS1 (l : List Nat) (i : Nat) : (ints l).set i 1 = ints (l.set i 1) := ints_set l i 1
theorem zS2 (l : List Nat) (i : Nat) : (ints l).set i 2 = ints (l.set i 2) := ints_set l i 2
theorem zS3 (l : List Nat) (i : Nat) : (ints l).set i 3 = ints (l.set i 3) := ints_set l i 3
theorem one_ne : ((1 : Nat) = 0) = False := by simp
def T9 : Tr := T8
/-- A step's round. -/
theorem round19 {env : Env} {I19 : Nat → List AV → AS → Prop} {m19 : Nat} {σ0 τ : AS} {d s t : Nat} {cs : List Nat} {r : Nat} {st : St} {w : Stp} {y6 y7 : AV} {j : Nat} {K : AV → AS → Prop} {X : PV → AS → Prop}
    (V : Inv cs r st) (hn : st.next < cs.length) (hw : w ∈ opts cs r st) (hc : ∀ i, cs.getD i 0 ≤ 1048576) (hj : j ≤ 10000000) (hcl : cs.length ≤ 4096) (hr4 : r ≤ 4096)
    (hS : Sep σ0 τ [(t, .cells ((stepPV w).map .pv) (some 42)), (d, .cells (intsA (ints st.done)) none), (s, .cells (intsA (ints st.stg)) none)])
    (hK : ∀ τ', Sep σ0 τ' [(d, .cells (intsA (ints (app st w).done)) none), (s, .cells (intsA (ints (app st w).stg)) none)] → ∃ m', m' < m19 ∧ I19 m' [.pv (.lst cs.length (i64s (ints cs))), .pv (.int .i64 r), .msl d 0 cs.length 1, .msl s 0 cs.length 1, .pv (.int .i64 (app st w).next), .pv (.int .i64 (app st w).way.length), y6, y7, .pv (.int .i64 (j + 1 : Nat))] τ') :
    J9_24 env I19 m19 (.pv (.lst cs.length (i64s (ints cs)))) (.pv (.int .i64 r)) (.msl d 0 cs.length 1) (.msl s 0 cs.length 1) (.pv (.int .i64 st.next)) (.pv (.int .i64 st.way.length)) (.addr t 0) (.pv (.int .i64 w.2.1)) y6 y7 (.pv (.int .i64 j)) τ K X := by
  have hg : τ t = some (.cells ((stepPV w).map .pv) (some 42)) := hS.get (by simp)
  have hd : τ d = some (.cells (intsA (ints st.done)) none) := hS.get (by simp)
  have hs : τ s = some (.cells (intsA (ints st.stg)) none) := hS.get (by simp)
  have l1 := V.ld
  have l2 := V.ls
  have e1 : (ints st.done).length = cs.length := by rw [ints_len, l1]
  have e2 : (ints st.stg).length = cs.length := by rw [ints_len, l2]
  have e3 : (i64s (ints cs)).length = cs.length * 1 := by simp [i64s, ints_len]
  have e4 : (ints cs).length = cs.length := ints_len _
  have hwr := V.wr
  have hdrop : ∀ τ' (o1 o2 : AObj), Sep σ0 τ' [(t, .cells ((stepPV w).map .pv) (some 42)), (d, o1), (s, o2)] → Sep σ0 τ' [(d, o1), (s, o2)] := fun _ _ _ h => h.drop
  unfold J9_24
  rcases opts_mem hw with ⟨i, hi, rfl, h1⟩ | ⟨i, hi, rfl, h1, h2, h3⟩ | ⟨i, wy, hw', rfl⟩ | ⟨rfl, h1⟩
  · have hst : st.stg.getD i 0 = 0 := by
      rcases Nat.eq_zero_or_pos (st.stg.getD i 0) with h | h
      · exact h
      · have := V.sd i hi h; omega
    have hci := hc i
    unfold J9_29
    simp (disch := omega) only [go_sem, T.fa42_0, T.fa42_2, hg, hd, hs, ldM_cells, stM_cells, stepPV, List.map_cons, List.map_nil, Nat.reduceAdd, List.getElem?_cons_zero, List.getElem?_cons_succ, someEx, nmWork, nmSend, nmTake, nmFlush, if_true, T.ixm22, T.ixl22, intsA_get, i64s_getD, ints_getD, bne_self_eq_false, Bool.false_eq_true, if_false, intsA_len, intsA_set, ints_set, Nat.reduceEqDiff, decide_true, decide_false, one_ne, z0, z1, z2, zS1, zS2, zS3, hst]
    rw [if_neg (by omega)]
    refine ⟨by omega, ?_⟩
    refine hK _ (hdrop _ _ _ ?_)
    exact Sep.set (l1 := [_]) hS _
  · have hde : st.done.getD i 0 = cs.getD i 0 := by have := V.dn i hi; omega
    have hwne : ((st.way.length : Int) == (r : Int)) = false := by simp; omega
    unfold J9_33
    simp (disch := omega) only [go_sem, T.fa42_0, T.fa42_2, hg, hd, hs, ldM_cells, stM_cells, stepPV, List.map_cons, List.map_nil, Nat.reduceAdd, List.getElem?_cons_zero, List.getElem?_cons_succ, someEx, nmWork, nmSend, nmTake, nmFlush, if_true, T.ixm22, T.ixl22, intsA_get, i64s_getD, ints_getD, bne_self_eq_false, Bool.false_eq_true, if_false, intsA_len, intsA_set, ints_set, Nat.reduceEqDiff, decide_true, decide_false, one_ne, z0, z1, z2, zS1, zS2, zS3, h2, hde]
    rw [if_neg (by simp only [beq_iff_eq]; omega)]
    refine ⟨by omega, ?_⟩
    have e5 : (app st (1, i, 0)).way.length = st.way.length + 1 := by simp [app]
    have := hK (τ.set s (.cells (intsA (ints (st.stg.set i 1))) none)) (hdrop _ _ _ (Sep.set (l1 := [_, _]) hS _))
    rw [e5] at this
    exact this
  · have hiw : i ∈ st.way := by rw [hw']; simp
    have hi1 := (V.wy i).1 hiw
    have hi := hi1.1
    have hwl : 1 ≤ st.way.length := by rw [hw']; simp
    simp (disch := omega) only [go_sem, T.fa42_0, T.fa42_2, hg, hd, hs, ldM_cells, stM_cells, stepPV, List.map_cons, List.map_nil, Nat.reduceAdd, List.getElem?_cons_zero, List.getElem?_cons_succ, someEx, nmWork, nmSend, nmTake, nmFlush, if_true, T.ixm22, T.ixl22, intsA_get, i64s_getD, ints_getD, bne_self_eq_false, Bool.false_eq_true, if_false, intsA_len, intsA_set, ints_set, Nat.reduceEqDiff, decide_true, decide_false, one_ne, z0, z1, z2, zS1, zS2, zS3, hi1.2]
    refine ⟨by omega, ?_⟩
    have e5 : (app st (2, i, 0)).way.length = st.way.length - 1 := by simp [app]
    have := hK (τ.set s (.cells (intsA (ints (st.stg.set i 2))) none)) (hdrop _ _ _ (Sep.set (l1 := [_, _]) hS _))
    rw [e5] at this
    exact this
  · unfold J9_43
    simp (disch := omega) only [go_sem, T.fa42_0, T.fa42_2, hg, hd, hs, ldM_cells, stM_cells, stepPV, List.map_cons, List.map_nil, Nat.reduceAdd, List.getElem?_cons_zero, List.getElem?_cons_succ, someEx, nmWork, nmSend, nmTake, nmFlush, if_true, T.ixm22, T.ixl22, intsA_get, i64s_getD, ints_getD, bne_self_eq_false, Bool.false_eq_true, if_false, intsA_len, intsA_set, ints_set, Nat.reduceEqDiff, decide_true, decide_false, one_ne, z0, z1, z2, zS1, zS2, zS3, h1]
    refine ⟨by omega, ?_⟩
    exact hK (τ.set s (.cells (intsA (ints (st.stg.set st.next 3))) none)) (hdrop _ _ _ (Sep.set (l1 := [_, _]) hS _))
theorem loop19 {env : Env} {σ0 τ : AS} {d s : Nat} {cs : List Nat} {r : Nat} {pk : Nat → Nat} {K : AV → AS → Prop} {X : PV → AS → Prop} (hr1 : 1 ≤ r) (hc : ∀ i, cs.getD i 0 ≤ 1048576) (hsum : cs.sum ≤ 1048576) (hcl : cs.length ≤ 4096) (hr4 : r ≤ 4096)
    (hS : Sep σ0 τ [(d, .cells (intsA (List.replicate cs.length 0)) none), (s, .cells (intsA (List.replicate cs.length 0)) none)]) (hK : ∀ σ', K (.pv (.bool true)) σ') :
    lenD PS 36 (.pv (.lst (plan cs r pk).1.length (flatS (plan cs r pk).1))) fun t87 => ∃ I19 : Nat → List AV → AS → Prop, (∃ m, I19 m [.pv (.lst cs.length (i64s (ints cs))), .pv (.int .i64 r), .msl d 0 cs.length 1, .msl s 0 cs.length 1, .pv (.int .i64 0), .pv (.int .i64 0), .pv (.lst (plan cs r pk).1.length (flatS (plan cs r pk).1)), t87, .pv (.int .i64 0)] τ) ∧ ∀ (m : Nat) (x0 x1 x2 x3 x4 x5 x6 x7 x8 : AV), ∀ σ, I19 m [x0, x1, x2, x3, x4, x5, x6, x7, x8] σ →
      L9_19 env I19 m x0 x1 x2 x3 x4 x5 x6 x7 x8 σ K X := by
  have hlen := plan_len (cs := cs) hr1 pk
  have htot : total cs = cs.sum + 3 * cs.length := rfl
  rw [T.lnl36]
  refine lp9_19 (fun (j : Nat) _ => (plan cs r pk).1.length - j) (fun j τ => j ≤ (plan cs r pk).1.length ∧ Sep σ0 τ [(d, .cells (intsA (ints (runSt cs r pk j).done)) none), (s, .cells (intsA (ints (runSt cs r pk j).stg)) none)]) (fun j => .pv (.int .i64 (runSt cs r pk j).next)) (fun j => .pv (.int .i64 (runSt cs r pk j).way.length)) (fun j => .pv (.int .i64 j)) 0 ⟨Nat.zero_le _, ?_⟩ ?_
  · have e1 : ints (runSt cs r pk 0).done = List.replicate cs.length 0 := by simp [runSt, st0, ints]
    have e2 : ints (runSt cs r pk 0).stg = List.replicate cs.length 0 := by simp [runSt, st0, ints]
    rw [e1, e2]; exact hS
  · rintro j τ ⟨hj, hS⟩
    obtain ⟨V, hpot⟩ := run_inv (cs := cs) hr1 pk j (by omega)
    have hnb := V.nx
    unfold L9_19
    simp (disch := omega) only [go_sem]
    refine iteI (fun hlt => ?_) (fun hge => ?_)
    · have hn := more V (by omega)
      have hm := sel_mem V hr1 hn pk j
      have hrun : runSt cs r pk (j + 1) = app (runSt cs r pk j) (sel cs r pk j (runSt cs r pk j)) := rfl
      refine own42P hS hlt ?_
      intro t σ2 hS2
      rw [plan_get hr1 pk hlt] at hS2
      have hg : σ2 t = some (.cells ((stepPV (sel cs r pk j (runSt cs r pk j))).map .pv) (some 42)) := hS2.get (by simp)
      have hi : (sel cs r pk j (runSt cs r pk j)).2.1 < cs.length := by
        rcases opts_mem hm with ⟨i, hi, e, _⟩ | ⟨i, hi, e, _⟩ | ⟨i, w, hw, e⟩ | ⟨e, _⟩ <;> rw [e]
        · exact hi
        · exact hi
        · exact ((V.wy i).1 (by rw [hw]; simp)).1
        · exact hn
      simp (disch := omega) only [go_sem, T.fa42_1, hg, ldM_cells, stepPV, List.map_cons, List.map_nil, Nat.reduceAdd, List.getElem?_cons_zero, List.getElem?_cons_succ, someEx]
      rw [if_neg (by omega), if_neg (by omega)]
      refine round19 V hn hm hc (by omega) hcl hr4 hS2 ?_
      intro τ' hS3
      exact back (j + 1) rfl (by omega) ⟨by omega, hS3⟩
    · have : j = total cs := by omega
      subst this
      rw [run_end hr1]
      simp only [beq_self_eq_true]
      exact retV_self (hK _)
end Go.AD.Sc
