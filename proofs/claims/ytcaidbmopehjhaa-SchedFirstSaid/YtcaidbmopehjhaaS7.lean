/- sched: step by step the machine's state is the plain one. -/
import Derived.Test.YtcaidbmopehjhaaS6
set_option linter.unusedVariables false
set_option linter.unusedSimpArgs false
set_option maxRecDepth 100000
namespace Go.AD.Sc
open Go.Proofs
section
variable {cs : List Nat} {room : Nat} {st : St} {M : Ms}
theorem Rel.sum (R : Rel cs room st M) (s : List Int) : Rel cs room st { M with sum := s } := ⟨R.hcs, R.hdn, R.hrl, R.hrd, R.hal, R.has, R.hwy, R.hrm, R.hnx, R.hhe, R.hop⟩
theorem Rel.work (R : Rel cs room st M) (V : Inv cs room st) (i : Nat) (hi : i < cs.length) (h : st.done.getD i 0 < cs.getD i 0) : Rel cs room (app st (0, i, st.done.getD i 0)) (workM M i) := by
  have hl : i < st.done.length := by rw [V.ld]; exact hi
  have hs0 : st.stg.getD i 0 = 0 := by
    rcases Nat.eq_zero_or_pos (st.stg.getD i 0) with e | e
    · exact e
    · have := V.sd i hi e; omega
  refine ⟨R.hcs, ?_, ?_, ?_, R.hal, R.has, R.hwy, R.hrm, R.hnx, R.hhe, R.hop⟩
  · simp only [workM, app]
    rw [R.hdn, ints_getD]
    exact ints_set _ _ (st.done.getD i 0 + 1)
  · simp only [workM]
    split
    · simp [R.hrl]
    · exact R.hrl
  · intro j hj
    have hr := R.hrd j hj
    simp only [workM, app, getD_set _ _ _ _ hl]
    rw [R.hdn, R.hcs, ints_getD, ints_getD]
    by_cases e : j = i
    · subst e
      rw [if_pos rfl]
      split
      · rw [getDI_set _ _ _ _ (by rw [R.hrl]; exact hj), if_pos rfl]
        constructor
        · intro _; exact ⟨by omega, hs0⟩
        · intro _; rfl
      · rw [hr]
        constructor
        · intro h2; omega
        · intro h2; omega
    · rw [if_neg e]
      split
      · rw [getDI_set _ _ _ _ (by rw [R.hrl]; exact hi), if_neg e]; exact hr
      · exact hr
theorem Rel.push (R : Rel cs room st M) (V : Inv cs room st) (i : Nat) (hi : i < cs.length) (h : ¬ st.done.getD i 0 < cs.getD i 0) (hs : st.stg.getD i 0 = 0) : Rel cs room (app st (1, i, 0)) (gated (pushM M i)) := by
  have hl : i < st.stg.length := by rw [V.ls]; exact hi
  refine ⟨R.hcs, R.hdn, by simp [gated, pushM, R.hrl], ?_, R.hal, ?_, ?_, R.hrm, R.hnx, by simp [gated, pushM, app, R.hhe], rfl⟩
  · intro j hj
    have hr := R.hrd j hj
    simp only [gated, pushM, app, getD_set _ _ _ _ hl]
    rw [getDI_set _ _ _ _ (by rw [R.hrl]; exact hi)]
    by_cases e : j = i
    · rw [if_pos e, if_pos e]; simp
    · rw [if_neg e, if_neg e]; exact hr
  · intro j hj hn
    have := R.has j hj hn
    simp only [gated, pushM, app, getD_set _ _ _ _ hl]
    by_cases e : j = i
    · subst e; rw [if_pos rfl, this, hs]; simp
    · rw [if_neg e]; exact this
  · simp [gated, pushM, app, R.hwy, ints]
theorem Rel.take (R : Rel cs room st M) (V : Inv cs room st) (i : Nat) (w : List Nat) (hw : st.way = i :: w) : Rel cs room (app st (2, i, 0)) (takeM M) := by
  have hiw := (V.wy i).1 (by rw [hw]; simp)
  have hl : i < st.stg.length := by rw [V.ls]; exact hiw.1
  have hh : (M.way.headD 0).toNat = i := by rw [R.hwy, hw]; rfl
  refine ⟨R.hcs, R.hdn, R.hrl, ?_, by simp [takeM, gated, R.hal], ?_, ?_, R.hrm, R.hnx, R.hhe, rfl⟩
  · intro j hj
    have hr := R.hrd j hj
    simp only [takeM, gated, app, getD_set _ _ _ _ hl]
    by_cases e : j = i
    · subst e; rw [if_pos rfl, hr, hiw.2]; simp
    · rw [if_neg e]; exact hr
  · intro j hj hn
    have := R.has j hj hn
    simp only [takeM, gated, app, getD_set _ _ _ _ hl]
    rw [hh]
    by_cases e : j = i
    · subst e
      rw [if_pos rfl]
      simp [List.getD_eq_getElem?_getD, R.hal, hj]
    · rw [if_neg e]
      have : (M.aside.set i true).getD j false = M.aside.getD j false := by
        simp only [List.getD_eq_getElem?_getD, List.getElem?_set]
        rw [if_neg (fun h => e h.symm)]
      rw [this]; assumption
  · simp [takeM, gated, app, R.hwy, hw, ints]
theorem Rel.flush (R : Rel cs room st M) (V : Inv cs room st) (hn : st.next < cs.length) (h2 : st.stg.getD st.next 0 = 2) : Rel cs room (app st (3, st.next, 0)) (flushM M) := by
  have hl : st.next < st.stg.length := by rw [V.ls]; exact hn
  refine ⟨R.hcs, R.hdn, R.hrl, ?_, R.hal, ?_, R.hwy, R.hrm, by simp [flushM, app, R.hnx], by simp [flushM, app, R.hhe], R.hop⟩
  · intro j hj
    have hr := R.hrd j hj
    simp only [flushM, app, getD_set _ _ _ _ hl]
    by_cases e : j = st.next
    · subst e; rw [if_pos rfl, hr, h2]; simp
    · rw [if_neg e]; exact hr
  · intro j hj hn'
    simp only [app] at hn'
    have := R.has j hj (by omega)
    simp only [flushM, app, getD_set _ _ _ _ hl]
    rw [if_neg (by omega)]
    exact this
theorem held_bd (V : Inv cs room st) : st.held ≤ cs.length := by
  rw [V.hd]
  refine Nat.le_trans (List.length_filter_le _ _) ?_
  rw [V.ls]; exact Nat.le_refl _
theorem held_pos (V : Inv cs room st) (hn : st.next < cs.length) (h2 : st.stg.getD st.next 0 = 2) : 1 ≤ st.held := by
  rw [V.hd]
  apply List.length_pos_of_mem (a := 2)
  rw [List.mem_filter]
  refine ⟨?_, rfl⟩
  have hl : st.next < st.stg.length := by rw [V.ls]; exact hn
  rw [← h2, List.getD_eq_getElem?_getD, List.getElem?_eq_getElem hl]
  exact List.getElem_mem hl
def names (n : Nat) : List UInt8 := if n = 0 then sWork else if n = 1 then sSend else if n = 2 then sTake else sFlush
def stpV (s : Stp) : AV := stepV (names s.1) s.2.1 s.2.2
/-- A step of the machine is the plain one. -/
theorem step_call {env : Env} (h47 : env 47 = T47) {σ0 σ : AS} {I : Ids} {pk : Nat → Nat} {j : Nat} (hr : 1 ≤ room) (hk4 : cs.length ≤ 4096) (R : Rel cs room st M) (V : Inv cs room st) (hA : MachAt σ0 σ I M (leafF M)) (hn : st.next < cs.length) (hpk : pk j < 9223372036854775808)
    {K : AV → AS → Prop} {X : PV → AS → Prop} (hK : ∀ σ' M', Rel cs room (app st (sel cs room pk j st)) M' → MachAt σ0 σ' I M' (leafF M') → K (stpV (sel cs room pk j st)) σ') : env 47 [.addr I.m 0, .pv (.int .i64 (pk j : Nat))] σ K X := by
  have e0 : M.cs.length = cs.length := by rw [R.hcs, ints_len]
  obtain ⟨t1, t2, t3, t4⟩ := R.tot V hn
  rw [h47]
  refine ⟨σ0, I, M, pk j, rfl, hA, by rw [R.hnx, e0]; exact hn, R.hop, by have := held_bd V; rw [R.hhe]; omega, hpk, by rw [t1]; exact V.go hr hn, ?_, ?_, ?_, ?_, ?_⟩
  · intro w hw
    rw [R.hwy] at hw
    obtain ⟨x, hx, rfl⟩ := List.mem_map.1 hw
    have := (V.wy x).1 hx
    rw [e0]; omega
  · intro i h1 hi hm hc hd σ' sum' hM'
    have hs := sel_w R V hn pk j i h1 hi hm hc
    rw [R.hdn, R.hcs, ints_getD, ints_getD] at hd
    have hd' : st.done.getD i 0 < cs.getD i 0 := by omega
    rw [e0] at hi
    have hs' : sel cs room pk j st = (0, i, st.done.getD i 0) := by rw [hs, wOpt, if_pos hd']
    rw [hs'] at hK
    have := hK σ' { workM M i with sum := sum' } ((R.work V i hi hd').sum sum') hM'
    rw [R.hdn, ints_getD]
    exact this
  · intro i h1 hi hm hc hd σ' sum' hM'
    have hs := sel_w R V hn pk j i h1 hi hm hc
    rw [R.hdn, R.hcs, ints_getD, ints_getD] at hd
    have hd' : ¬ st.done.getD i 0 < cs.getD i 0 := by omega
    rw [e0] at hi
    have hs' : sel cs room pk j st = (1, i, 0) := by rw [hs, wOpt, if_neg hd']
    have hmw := R.may V i hi
    rw [hm] at hmw
    have hst : st.stg.getD i 0 = 0 := by
      unfold mayW at hmw
      simp only [hd', decide_false, Bool.false_or] at hmw
      have := hmw.symm
      simp only [Bool.and_eq_true, decide_eq_true_eq] at this
      exact this.1
    rw [hs'] at hK
    exact hK σ' { gated (pushM M i) with sum := sum' } ((R.push V i hi hd' hst).sum sum') hM'
  · intro h1 ht σ' sum' hM'
    have hs := sel_t R V hn pk j h1 ht
    rw [hs] at hK
    have hw : st.way ≠ [] := by
      intro h
      unfold tkM at ht
      rw [R.hwy, h] at ht
      simp [ints] at ht
    cases hway : st.way with
    | nil => exact absurd hway hw
    | cons i w =>
      rw [hway] at hK
      have := hK σ' { takeM M with sum := sum' } ((R.take V i w hway).sum sum') hM'
      have hh : M.way.headD 0 = (i : Int) := by rw [R.hwy, hway]; rfl
      rw [hh]
      exact this
  · intro h1 h2
    obtain ⟨hs, hst⟩ := sel_f R V hr hn pk j h1 h2
    refine ⟨by rw [R.hhe]; exact held_pos V hn hst, ?_⟩
    intro σ' hM'
    rw [hs] at hK
    have := hK σ' (flushM M) (R.flush V hn hst) hM'
    rw [R.hnx]
    exact this
end
end Go.AD.Sc
