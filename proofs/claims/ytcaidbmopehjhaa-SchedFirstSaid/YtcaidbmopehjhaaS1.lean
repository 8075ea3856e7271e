/- sched, the plain law: states, what may be done, a plan. No program in sight. -/
import Derived.Test.YtcaidbmopehjhaaAd18
set_option linter.unusedVariables false
namespace Go.AD.Sc
abbrev Stp := Nat × Nat × Nat
structure St where
  done : List Nat
  stg : List Nat
  way : List Nat
  next : Nat
  held : Nat
variable (cs : List Nat) (room : Nat)
def mayW (st : St) (i : Nat) : Bool := decide (st.done.getD i 0 < cs.getD i 0) || (decide (st.stg.getD i 0 = 0) && decide (st.way.length < room))
def wOpt (st : St) (i : Nat) : Stp := if st.done.getD i 0 < cs.getD i 0 then (0, i, st.done.getD i 0) else (1, i, 0)
def wList (st : St) : List Nat := (List.range cs.length).filter (mayW cs room st)
def tList (st : St) : List Stp := if st.way = [] then [] else [(2, st.way.headD 0, 0)]
def fList (st : St) : List Stp := if st.stg.getD st.next 0 = 2 then [(3, st.next, 0)] else []
def opts (st : St) : List Stp := (wList cs room st).map (wOpt cs st) ++ (tList st ++ fList st)
def app (st : St) (s : Stp) : St := match s.1 with
  | 0 => { st with done := st.done.set s.2.1 (st.done.getD s.2.1 0 + 1) }
  | 1 => { st with stg := st.stg.set s.2.1 1, way := st.way ++ [s.2.1], held := st.held + 1 }
  | 2 => { st with stg := st.stg.set s.2.1 2, way := st.way.drop 1 }
  | _ => { st with stg := st.stg.set s.2.1 3, next := st.next + 1, held := st.held - 1 }
def st0 : St := ⟨List.replicate cs.length 0, List.replicate cs.length 0, [], 0, 0⟩
def sel (pk : Nat → Nat) (j : Nat) (st : St) : Stp := (opts cs room st).getD (pk j % (opts cs room st).length) (0, 0, 0)
def planL (pk : Nat → Nat) : Nat → Nat → St → List Stp × Nat
  | 0, _, _ => ([], 0)
  | f + 1, j, st => if st.next < cs.length then
      (sel cs room pk j st :: (planL pk f (j + 1) (app st (sel cs room pk j st))).1, max (app st (sel cs room pk j st)).held (planL pk f (j + 1) (app st (sel cs room pk j st))).2)
    else ([], 0)
def total : Nat := cs.sum + 3 * cs.length
def plan (pk : Nat → Nat) : List Stp × Nat := planL cs room pk (total cs) 0 (st0 cs)
def pot (st : St) : Nat := st.done.sum + st.stg.sum
structure Inv (st : St) : Prop where
  ld : st.done.length = cs.length
  ls : st.stg.length = cs.length
  nx : st.next ≤ cs.length
  dn : ∀ i, i < cs.length → st.done.getD i 0 ≤ cs.getD i 0
  sd : ∀ i, i < cs.length → 1 ≤ st.stg.getD i 0 → st.done.getD i 0 = cs.getD i 0
  s3 : ∀ i, i < cs.length → st.stg.getD i 0 ≤ 3
  fl : ∀ i, i < cs.length → (st.stg.getD i 0 = 3 ↔ i < st.next)
  wy : ∀ i, i ∈ st.way ↔ i < cs.length ∧ st.stg.getD i 0 = 1
  wn : st.way.Nodup
  wr : st.way.length ≤ room
  hd : st.held = (st.stg.filter fun x => x == 1 || x == 2).length
variable {cs room}
theorem getD_set (l : List Nat) (i j v : Nat) (h : i < l.length) : (l.set i v).getD j 0 = if j = i then v else l.getD j 0 := by
  simp only [List.getD_eq_getElem?_getD, List.getElem?_set]
  by_cases e : i = j
  · subst e; simp [h]
  · rw [if_neg e, if_neg (Ne.symm e)]
theorem sum_set (l : List Nat) (i v : Nat) (h : i < l.length) : (l.set i v).sum + l.getD i 0 = l.sum + v := by
  induction l generalizing i with
  | nil => simp at h
  | cons a l ih =>
    cases i with
    | zero => simp; omega
    | succ i => have := ih i (by simpa using h); simp at this ⊢; omega
theorem filt_set (p : Nat → Bool) (l : List Nat) (i v : Nat) (h : i < l.length) : ((l.set i v).filter p).length + (if p (l.getD i 0) then 1 else 0) = (l.filter p).length + (if p v then 1 else 0) := by
  induction l generalizing i with
  | nil => simp at h
  | cons a l ih =>
    cases i with
    | zero => cases h1 : p a <;> cases h2 : p v <;> simp [h1, h2]
    | succ i =>
      have := ih i (by simpa using h)
      simp only [List.set_cons_succ, List.getD_cons_succ, List.filter_cons]
      split <;> (try simp only [List.length_cons]) <;> omega
theorem getD_rep (n i : Nat) : (List.replicate n 0).getD i 0 = 0 := by
  simp only [List.getD_eq_getElem?_getD, List.getElem?_replicate]; split <;> rfl
theorem Inv.start (hr : 0 ≤ room) : Inv cs room (st0 cs) where
  ld := by simp [st0]
  ls := by simp [st0]
  nx := by simp [st0]
  dn := fun i _ => by simp only [st0, getD_rep]; omega
  sd := fun i _ h => by simp only [st0, getD_rep] at h; omega
  s3 := fun i _ => by simp only [st0, getD_rep]; omega
  fl := fun i _ => by simp only [st0, getD_rep]; omega
  wy := fun i => by simp only [st0, getD_rep]; simp
  wn := by simp [st0]
  wr := by simp [st0]
  hd := by simp [st0]
/-- What may be done: one of four. -/
theorem opts_mem {st : St} {s : Stp} (h : s ∈ opts cs room st) :
    (∃ i, i < cs.length ∧ s = (0, i, st.done.getD i 0) ∧ st.done.getD i 0 < cs.getD i 0) ∨ (∃ i, i < cs.length ∧ s = (1, i, 0) ∧ ¬ st.done.getD i 0 < cs.getD i 0 ∧ st.stg.getD i 0 = 0 ∧ st.way.length < room) ∨
    (∃ i w, st.way = i :: w ∧ s = (2, i, 0)) ∨ (s = (3, st.next, 0) ∧ st.stg.getD st.next 0 = 2) := by
  unfold opts at h
  rw [List.mem_append, List.mem_append] at h
  rcases h with h | h | h
  · obtain ⟨i, hi, rfl⟩ := List.mem_map.1 h
    unfold wList at hi
    rw [List.mem_filter, List.mem_range] at hi
    obtain ⟨hi, hm⟩ := hi
    unfold mayW at hm
    simp only [Bool.or_eq_true, Bool.and_eq_true, decide_eq_true_eq] at hm
    unfold wOpt
    split
    · exact .inl ⟨i, hi, rfl, by assumption⟩
    · rename_i hn
      rcases hm with hm | hm
      · exact absurd hm hn
      · exact .inr (.inl ⟨i, hi, rfl, hn, hm.1, hm.2⟩)
  · unfold tList at h
    split at h
    · cases h
    · rename_i hw
      cases hway : st.way with
      | nil => exact absurd hway hw
      | cons a w =>
        rw [hway] at h
        simp at h
        exact .inr (.inr (.inl ⟨a, w, rfl, h⟩))
  · unfold fList at h
    split at h
    · rename_i hf
      simp at h
      exact .inr (.inr (.inr ⟨h, hf⟩))
    · cases h
theorem Inv.step {st : St} (h : Inv cs room st) {s : Stp} (hs : s ∈ opts cs room st) (hn : st.next < cs.length) : Inv cs room (app st s) ∧ pot (app st s) = pot st + 1 := by
  rcases opts_mem hs with ⟨i, hi, rfl, h1⟩ | ⟨i, hi, rfl, h1, h2, h3⟩ | ⟨i, w, hw, rfl⟩ | ⟨rfl, h1⟩
  · have hl : i < st.done.length := by rw [h.ld]; exact hi
    refine ⟨⟨by simp [app, h.ld], h.ls, h.nx, ?_, ?_, h.s3, h.fl, h.wy, h.wn, h.wr, h.hd⟩, ?_⟩
    · intro j hj
      simp only [app, getD_set _ _ _ _ hl]
      split
      · rename_i e; subst e; omega
      · exact h.dn j hj
    · intro j hj hj2
      have := h.sd j hj hj2
      simp only [app, getD_set _ _ _ _ hl]
      split
      · rename_i e; subst e; omega
      · exact this
    · have := sum_set st.done i (st.done.getD i 0 + 1) hl
      simp only [pot, app]; omega
  · have hl : i < st.stg.length := by rw [h.ls]; exact hi
    have hnw : i ∉ st.way := by rw [h.wy]; omega
    refine ⟨⟨h.ld, by simp [app, h.ls], h.nx, h.dn, ?_, ?_, ?_, ?_, ?_, ?_, ?_⟩, ?_⟩
    · intro j hj hj2
      simp only [app, getD_set _ _ _ _ hl] at hj2
      split at hj2
      · rename_i e; subst e; have := h.dn j hj; simp only [app]; omega
      · exact h.sd j hj hj2
    · intro j hj
      simp only [app, getD_set _ _ _ _ hl]
      split
      · omega
      · exact h.s3 j hj
    · intro j hj
      have := h.fl j hj
      simp only [app, getD_set _ _ _ _ hl]
      split
      · rename_i e; subst e; omega
      · exact this
    · intro j
      have := h.wy j
      simp only [app, getD_set _ _ _ _ hl, List.mem_append, List.mem_singleton, this]
      split
      · rename_i e; subst e; simp [hi]
      · rename_i e; simp [e]
    · simp only [app]
      rw [List.nodup_append]
      exact ⟨h.wn, by simp, by intro a ha b hb; simp at hb; subst hb; intro e; subst e; exact hnw ha⟩
    · simp [app]; omega
    · have := filt_set (fun x => x == 1 || x == 2) st.stg i 1 hl
      rw [h2] at this
      simp only [app]
      rw [h.hd]
      simp at this ⊢
      omega
    · have := sum_set st.stg i 1 hl
      simp only [pot, app]; omega
  · have hiw : i ∈ st.way := by rw [hw]; simp
    have hi1 := (h.wy i).1 hiw
    have hl : i < st.stg.length := by rw [h.ls]; exact hi1.1
    have hn := h.wn
    rw [hw, List.nodup_cons] at hn
    refine ⟨⟨h.ld, by simp [app, h.ls], h.nx, h.dn, ?_, ?_, ?_, ?_, ?_, ?_, ?_⟩, ?_⟩
    · intro j hj hj2
      simp only [app, getD_set _ _ _ _ hl] at hj2
      split at hj2
      · rename_i e; subst e; exact h.sd j hj (by omega)
      · exact h.sd j hj hj2
    · intro j hj
      simp only [app, getD_set _ _ _ _ hl]
      split
      · omega
      · exact h.s3 j hj
    · intro j hj
      have := h.fl j hj
      simp only [app, getD_set _ _ _ _ hl]
      split
      · rename_i e; subst e; omega
      · exact this
    · intro j
      have := h.wy j
      rw [hw, List.mem_cons] at this
      simp only [app, getD_set _ _ _ _ hl, hw, List.drop_succ_cons, List.drop_zero]
      split
      · rename_i e; subst e; simp [hn.1]
      · rename_i e; simp only [e, false_or] at this; exact this
    · simp only [app, hw, List.drop_succ_cons, List.drop_zero]; exact hn.2
    · have := h.wr
      simp only [app, hw, List.drop_succ_cons, List.drop_zero, List.length_cons] at this ⊢; omega
    · have := filt_set (fun x => x == 1 || x == 2) st.stg i 2 hl
      rw [hi1.2] at this
      simp only [app]
      rw [h.hd]
      simp at this ⊢
      omega
    · have := sum_set st.stg i 2 hl
      simp only [pot, app]; omega
  · have hl : st.next < st.stg.length := by rw [h.ls]; exact hn
    refine ⟨⟨h.ld, by simp [app, h.ls], by simp only [app]; omega, h.dn, ?_, ?_, ?_, ?_, h.wn, h.wr, ?_⟩, ?_⟩
    · intro j hj hj2
      simp only [app, getD_set _ _ _ _ hl] at hj2
      split at hj2
      · rename_i e; subst e; exact h.sd _ hj (by omega)
      · exact h.sd j hj hj2
    · intro j hj
      simp only [app, getD_set _ _ _ _ hl]
      split
      · omega
      · exact h.s3 j hj
    · intro j hj
      have := h.fl j hj
      simp only [app, getD_set _ _ _ _ hl]
      split
      · rename_i e; subst e; omega
      · omega
    · intro j
      have := h.wy j
      simp only [app, getD_set _ _ _ _ hl]
      split
      · rename_i e; subst e; rw [this]; omega
      · exact this
    · have := filt_set (fun x => x == 1 || x == 2) st.stg st.next 3 hl
      rw [h1] at this
      simp only [app]
      rw [h.hd]
      simp at this ⊢
      omega
    · have := sum_set st.stg st.next 3 hl
      simp only [pot, app]; omega
/-- There is always something to do. -/
theorem Inv.go {st : St} (h : Inv cs room st) (hr : 1 ≤ room) (hn : st.next < cs.length) : 0 < (opts cs room st).length := by
  unfold opts
  rw [List.length_append, List.length_append]
  by_cases hw : st.way = []
  · have e2 : tList st = [] := by simp [tList, hw]
    by_cases h2 : st.stg.getD st.next 0 = 2
    · have : fList st = [(3, st.next, 0)] := by simp only [fList, h2, if_true]
      rw [this, List.length_singleton]; omega
    · have h3 := h.s3 st.next hn
      have h4 := (h.fl st.next hn)
      have h5 : st.stg.getD st.next 0 ≠ 1 := by
        intro e
        have := (h.wy st.next).2 ⟨hn, e⟩
        rw [hw] at this; cases this
      have h6 : st.stg.getD st.next 0 = 0 := by omega
      have : st.next ∈ wList cs room st := by
        unfold wList mayW
        rw [List.mem_filter, List.mem_range]
        refine ⟨hn, ?_⟩
        simp only [Bool.or_eq_true, Bool.and_eq_true, decide_eq_true_eq, h6, hw, List.length_nil]
        exact .inr ⟨trivial, hr⟩
      have := List.length_pos_of_mem this
      rw [List.length_map]
      omega
  · have : (tList st).length = 1 := by simp [tList, hw]
    omega
theorem sel_mem {st : St} (h : Inv cs room st) (hr : 1 ≤ room) (hn : st.next < cs.length) (pk : Nat → Nat) (j : Nat) : sel cs room pk j st ∈ opts cs room st := by
  have := h.go hr hn
  unfold sel
  have hlt := Nat.mod_lt (pk j) this
  rw [List.getD_eq_getElem?_getD, List.getElem?_eq_getElem hlt]
  exact List.getElem_mem hlt
theorem pot_le {st : St} (h : Inv cs room st) : pot st ≤ total cs := by
  have h1 : ∀ (a b : List Nat), a.length = b.length → (∀ i, i < b.length → a.getD i 0 ≤ b.getD i 0) → a.sum ≤ b.sum := by
    intro a
    induction a with
    | nil => intro b _ _; simp
    | cons x a ih =>
      intro b hl hh
      cases b with
      | nil => simp at hl
      | cons y b =>
        have e0 := hh 0 (by simp)
        have := ih b (by simpa using hl) (fun i hi => by simpa using hh (i + 1) (by simpa using hi))
        simp at e0 ⊢; omega
  have a1 := h1 st.done cs h.ld h.dn
  have a2 := h1 st.stg (List.replicate cs.length 3) (by simp [h.ls]) (fun i hi => by
    have hi' : i < cs.length := by simpa using hi
    have := h.s3 i hi'
    simpa [List.getD_eq_getElem?_getD, List.getElem?_replicate, hi'] using this)
  simp at a2
  unfold pot total
  omega
end Go.AD.Sc
