/- sched, the plain law: a plan's run, state by state. -/
import Derived.Test.YtcaidbmopehjhaaS21
set_option linter.unusedVariables false
namespace Go.AD.Sc
variable {cs : List Nat} {room : Nat}
theorem pot_end {st : St} (h : Inv cs room st) (hn : st.next = cs.length) : pot st = total cs := by
  have e1 : st.stg = List.replicate cs.length 3 := by
    apply List.ext_getElem (by simp [h.ls])
    intro i h1 h2
    have hi : i < cs.length := by rw [h.ls] at h1; exact h1
    have := (h.fl i hi).2 (by omega)
    rw [List.getD_eq_getElem?_getD, List.getElem?_eq_getElem h1] at this
    simpa using this
  have e2 : st.done = cs := by
    apply List.ext_getElem (by rw [h.ld])
    intro i h1 h2
    have h3 := (h.fl i h2).2 (by omega)
    have := h.sd i h2 (by omega)
    rw [List.getD_eq_getElem?_getD, List.getElem?_eq_getElem h1, List.getD_eq_getElem?_getD, List.getElem?_eq_getElem h2] at this
    simpa using this
  unfold pot total
  rw [e1, e2]
  simp
  omega
theorem more {st : St} (h : Inv cs room st) (hp : pot st < total cs) : st.next < cs.length := by
  rcases Nat.lt_or_ge st.next cs.length with h1 | h1
  · exact h1
  · have := pot_end h (Nat.le_antisymm h.nx h1)
    omega
variable (cs room) in
def runSt (pk : Nat → Nat) : Nat → St
  | 0 => st0 cs
  | j + 1 => app (runSt pk j) (sel cs room pk j (runSt pk j))
theorem run_inv (hr : 1 ≤ room) (pk : Nat → Nat) : ∀ j, j ≤ total cs → Inv cs room (runSt cs room pk j) ∧ pot (runSt cs room pk j) = j
  | 0, _ => ⟨Inv.start (by omega), by simp [runSt, pot, st0]⟩
  | j + 1, h => by
    obtain ⟨h1, h2⟩ := run_inv hr pk j (by omega)
    have hn := more h1 (by omega)
    have := h1.step (sel_mem h1 hr hn pk j) hn
    exact ⟨this.1, by rw [runSt, this.2, h2]⟩
theorem planL_run (hr : 1 ≤ room) (pk : Nat → Nat) : ∀ (f j : Nat), f + j = total cs → (planL cs room pk f j (runSt cs room pk j)).1 = (List.range f).map fun i => sel cs room pk (j + i) (runSt cs room pk (j + i))
  | 0, j, h => by simp [planL]
  | f + 1, j, h => by
    obtain ⟨h1, h2⟩ := run_inv (cs := cs) hr pk j (by omega)
    have hn := more h1 (by omega)
    have ih := planL_run hr pk f (j + 1) (by omega)
    rw [planL, if_pos hn, List.range_succ_eq_map, List.map_cons, List.map_map]
    simp only [Nat.add_zero]
    rw [show app (runSt cs room pk j) (sel cs room pk j (runSt cs room pk j)) = runSt cs room pk (j + 1) from rfl, ih]
    congr 1
    apply List.map_congr_left
    intro i _
    simp only [Function.comp]
    rw [show j + 1 + i = j + (i + 1) by omega]
theorem plan_run (hr : 1 ≤ room) (pk : Nat → Nat) : (plan cs room pk).1 = (List.range (total cs)).map fun i => sel cs room pk i (runSt cs room pk i) := by
  have := planL_run (cs := cs) hr pk (total cs) 0 (by omega)
  simp only [Nat.zero_add] at this
  exact this
theorem plan_len (hr : 1 ≤ room) (pk : Nat → Nat) : (plan cs room pk).1.length = total cs := by rw [plan_run hr]; simp
theorem plan_get (hr : 1 ≤ room) (pk : Nat → Nat) {j : Nat} (h : j < (plan cs room pk).1.length) : (plan cs room pk).1[j] = sel cs room pk j (runSt cs room pk j) := by
  have e := plan_run (cs := cs) hr pk
  have : (plan cs room pk).1[j]? = some (sel cs room pk j (runSt cs room pk j)) := by
    rw [e, List.getElem?_map, List.getElem?_range (by rw [plan_len hr] at h; exact h)]
    rfl
  rw [List.getElem?_eq_getElem h] at this
  exact Option.some.inj this
theorem planL_le (hr : 1 ≤ room) (pk : Nat → Nat) : ∀ (f j : Nat) (st : St), Inv cs room st → (planL cs room pk f j st).2 ≤ cs.length
  | 0, _, _, _ => by simp [planL]
  | f + 1, j, st, h => by
    rw [planL]
    split
    · rename_i hn
      have h1 := (h.step (sel_mem h hr hn pk j) hn).1
      have h2 := held_bd h1
      have h3 := planL_le hr pk f (j + 1) _ h1
      simp only
      omega
    · simp
theorem planL_pos (hr : 1 ≤ room) (pk : Nat → Nat) : ∀ (f j : Nat) (st : St), Inv cs room st → st.next < cs.length → st.held = 0 → pot st + f = total cs → 1 ≤ (planL cs room pk f j st).2
  | 0, j, st, h, hn, h0, hp => by
    have h1 := h.step (sel_mem h hr hn pk j) hn
    have := pot_le h1.1
    omega
  | f + 1, j, st, h, hn, h0, hp => by
    have hm := sel_mem h hr hn pk j
    have h1 := h.step hm hn
    rw [planL, if_pos hn]
    simp only
    rcases opts_mem hm with ⟨i, hi, e, h2⟩ | ⟨i, hi, e, h2, h3, h4⟩ | ⟨i, w, hw, e⟩ | ⟨e, h2⟩
    · have ih := planL_pos hr pk f (j + 1) _ h1.1 (by rw [e]; exact hn) (by rw [e]; exact h0) (by omega)
      omega
    · have : (app st (sel cs room pk j st)).held = st.held + 1 := by rw [e]; rfl
      omega
    · exfalso
      have h5 := (h.wy i).1 (by rw [hw]; simp)
      have : 0 < (st.stg.filter fun x => x == 1 || x == 2).length := by
        apply List.length_pos_of_mem (a := 1)
        rw [List.mem_filter]
        refine ⟨?_, rfl⟩
        have hl : i < st.stg.length := by rw [h.ls]; exact h5.1
        rw [← h5.2, List.getD_eq_getElem?_getD, List.getElem?_eq_getElem hl]
        exact List.getElem_mem hl
      have := h.hd
      omega
    · exfalso
      have := held_pos h hn h2
      omega
theorem plan_most (hr : 1 ≤ room) (hk : 1 ≤ cs.length) (pk : Nat → Nat) : 1 ≤ (plan cs room pk).2 ∧ (plan cs room pk).2 ≤ cs.length :=
  ⟨planL_pos hr pk (total cs) 0 (st0 cs) (Inv.start (by omega)) (by simp [st0]; omega) rfl (by simp [pot, st0]), planL_le hr pk _ _ _ (Inv.start (by omega))⟩
theorem planL_congr {pk pk' : Nat → Nat} : ∀ (f j : Nat) (st : St), (∀ i, j ≤ i → i < j + f → pk i = pk' i) → planL cs room pk f j st = planL cs room pk' f j st
  | 0, _, _, _ => rfl
  | f + 1, j, st, h => by
    have e : sel cs room pk j st = sel cs room pk' j st := by unfold sel; rw [h j (Nat.le_refl _) (by omega)]
    rw [planL, planL, e, planL_congr f (j + 1) _ (fun i h1 h2 => h i (by omega) (by omega))]
theorem plan_congr {pk pk' : Nat → Nat} (h : ∀ i, i < total cs → pk i = pk' i) : plan cs room pk = plan cs room pk' := planL_congr _ _ _ fun i _ h2 => h i (by omega)
/-- The first of a list's chosen ones. -/
theorem filt_head {p : Nat → Bool} {n i : Nat} {t : List Nat} (h : (List.range n).filter p = i :: t) {k : Nat} (hk : k < i) (hn : k < n) : p k = false := by
  cases e : p k with
  | false => rfl
  | true =>
    exfalso
    have hm : k ∈ (List.range n).filter p := List.mem_filter.2 ⟨List.mem_range.2 hn, e⟩
    have hp : ((List.range n).filter p).Pairwise (· < ·) := List.Pairwise.filter _ List.pairwise_lt_range
    rw [h] at hm hp
    rcases List.mem_cons.1 hm with rfl | hm
    · omega
    · have := (List.pairwise_cons.1 hp).1 k hm
      omega
/-- With the first pick always: a shard is worked when those ahead of it are done. -/
theorem first_work {st : St} (h : Inv cs room st) (hr : 1 ≤ room) (hn : st.next < cs.length) {pk : Nat → Nat} {j : Nat} (h0 : pk j = 0) (hw : (sel cs room pk j st).1 = 0) :
    ∃ i, i < cs.length ∧ sel cs room pk j st = (0, i, st.done.getD i 0) ∧ st.done.getD i 0 < cs.getD i 0 ∧ ∀ k, k < i → st.done.getD k 0 = cs.getD k 0 := by
  have hgo := h.go hr hn
  have e : sel cs room pk j st = (opts cs room st).getD 0 (0, 0, 0) := by unfold sel; rw [h0, Nat.zero_mod]
  cases hl : wList cs room st with
  | nil =>
    exfalso
    have ho : opts cs room st = tList st ++ fList st := by unfold opts; rw [hl]; rfl
    rw [e, ho] at hw
    rw [ho] at hgo
    unfold tList at hw hgo
    split at hw
    · rename_i h1
      rw [if_pos h1] at hgo
      unfold fList at hw hgo
      split at hw
      · simp at hw
      · rename_i h2; rw [if_neg h2] at hgo; simp at hgo
    · simp at hw
  | cons i t =>
    have ho : (opts cs room st).getD 0 (0, 0, 0) = wOpt cs st i := by unfold opts; rw [hl]; rfl
    rw [ho] at e
    have hi : i < cs.length ∧ mayW cs room st i = true := by
      have : i ∈ wList cs room st := by rw [hl]; simp
      unfold wList at this
      rw [List.mem_filter, List.mem_range] at this
      exact this
    rw [e] at hw
    unfold wOpt at hw e
    split at hw
    · rename_i hlt
      rw [if_pos hlt] at e
      refine ⟨i, hi.1, e, hlt, ?_⟩
      intro k hk
      have := filt_head hl hk (by omega)
      unfold mayW at this
      rw [Bool.or_eq_false_iff] at this
      have h1 : ¬ st.done.getD k 0 < cs.getD k 0 := of_decide_eq_false this.1
      have := h.dn k (by omega)
      omega
    · simp at hw
end Go.AD.Sc
