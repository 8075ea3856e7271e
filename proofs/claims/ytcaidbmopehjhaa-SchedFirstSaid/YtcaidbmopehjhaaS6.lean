/- sched: the machine goes as the plain law says. -/
import Derived.Test.YtcaidbmopehjhaaS5
set_option linter.unusedVariables false
set_option linter.unusedSimpArgs false
set_option maxRecDepth 100000
namespace Go.AD.Sc
open Go.Proofs
def ints (l : List Nat) : List Int := l.map fun (n : Nat) => (n : Int)
theorem ints_len (l : List Nat) : (ints l).length = l.length := by simp [ints]
theorem ints_getD (l : List Nat) (i : Nat) : (ints l).getD i 0 = ((l.getD i 0 : Nat) : Int) := by
  simp only [ints, List.getD_eq_getElem?_getD, List.getElem?_map]
  cases l[i]? <;> rfl
theorem ints_set (l : List Nat) (i v : Nat) : (ints l).set i (v : Int) = ints (l.set i v) := by simp [ints, List.map_set]
structure Rel (cs : List Nat) (room : Nat) (st : St) (M : Ms) : Prop where
  hcs : M.cs = ints cs
  hdn : M.done = ints st.done
  hrl : M.ready.length = cs.length
  hrd : ∀ i, i < cs.length → (M.ready.getD i 0 = 1 ↔ st.done.getD i 0 = cs.getD i 0 ∧ st.stg.getD i 0 = 0)
  hal : M.aside.length = cs.length
  has : ∀ i, i < cs.length → st.next ≤ i → (M.aside.getD i false = true ↔ st.stg.getD i 0 = 2)
  hwy : M.way = ints st.way
  hrm : M.room = room
  hnx : M.next = st.next
  hhe : M.held = st.held
  hop : M.opn = decide (M.way.length < M.room)
section
variable {cs : List Nat} {room : Nat} {st : St} {M : Ms}
theorem Rel.may (R : Rel cs room st M) (V : Inv cs room st) (i : Nat) (hi : i < cs.length) : mayB M i = mayW cs room st i := by
  have h1 := R.hrd i hi
  have h2 := V.dn i hi
  unfold mayB mayW
  rw [R.hdn, R.hcs, ints_getD, ints_getD, R.hop, R.hwy, ints_len, R.hrm]
  by_cases h : st.done.getD i 0 < cs.getD i 0
  · have : ((st.done.getD i 0 : Nat) : Int) < ((cs.getD i 0 : Nat) : Int) := by omega
    simp only [this, h, decide_true, Bool.true_or]
  · have h3 : ¬ ((st.done.getD i 0 : Nat) : Int) < ((cs.getD i 0 : Nat) : Int) := by omega
    simp only [h3, h, decide_false, Bool.false_or]
    congr 1
    rw [decide_eq_decide, h1]
    constructor
    · exact fun h => h.2
    · exact fun h => ⟨by omega, h⟩
theorem filt_get (f : Nat → Bool) : ∀ k i, i < k → f i = true → ((List.range k).filter f)[((List.range i).filter f).length]? = some i := by
  intro k
  induction k with
  | zero => intro i h; omega
  | succ k ih =>
    intro i hi hf
    rw [List.range_succ, List.filter_append]
    rcases Nat.lt_or_eq_of_le (Nat.lt_succ_iff.1 hi) with h | h
    · have := ih i h hf
      rw [List.getElem?_append_left (List.getElem?_eq_some_iff.1 this).1]
      exact this
    · subst h
      rw [List.getElem?_append_right (Nat.le_refl _), Nat.sub_self]
      simp [hf]
theorem Rel.cnt (R : Rel cs room st M) (V : Inv cs room st) (i : Nat) (hi : i ≤ cs.length) : cntM M i = ((List.range i).filter (mayW cs room st)).length := by
  unfold cntM
  congr 1
  apply List.filter_congr
  intro j hj
  exact R.may V j (by have := List.mem_range.1 hj; omega)
theorem Rel.tot (R : Rel cs room st M) (V : Inv cs room st) (hn : st.next < cs.length) : totM M = (opts cs room st).length ∧ cntM M cs.length = (wList cs room st).length ∧ tkM M = (tList st).length ∧ flM M = (fList st).length := by
  have e1 : cntM M cs.length = (wList cs room st).length := R.cnt V _ (Nat.le_refl _)
  have e2 : tkM M = (tList st).length := by
    unfold tkM tList
    rw [R.hwy, ints_len]
    cases st.way <;> simp
  have e3 : flM M = (fList st).length := by
    unfold flM fList
    rw [R.hnx]
    have := R.has st.next hn (Nat.le_refl _)
    by_cases h : st.stg.getD st.next 0 = 2
    · rw [if_pos (this.2 h), if_pos h]; rfl
    · rw [if_neg (fun h' => h (this.1 h')), if_neg h]; rfl
  have e0 : M.cs.length = cs.length := by rw [R.hcs, ints_len]
  refine ⟨?_, e1, e2, e3⟩
  unfold totM opts
  rw [e0, e1, e2, e3]
  simp only [List.length_append, List.length_map]
  omega
/-- The chosen one is a shard's. -/
theorem sel_w (R : Rel cs room st M) (V : Inv cs room st) (hn : st.next < cs.length) (pk : Nat → Nat) (j i : Nat) (h1 : pk j % totM M < cntM M M.cs.length) (hi : i < M.cs.length) (hm : mayB M i = true) (hc : cntM M i = pk j % totM M) : sel cs room pk j st = wOpt cs st i := by
  obtain ⟨e1, e2, e3, e4⟩ := R.tot V hn
  have e0 : M.cs.length = cs.length := by rw [R.hcs, ints_len]
  rw [e0] at h1 hi
  have hg := filt_get (mayW cs room st) cs.length i hi (by rw [← R.may V i hi]; exact hm)
  rw [← R.cnt V i (by omega), hc, e1] at hg
  rw [e2, e1] at h1
  have hg' : (wList cs room st)[pk j % (opts cs room st).length]? = some i := hg
  unfold sel
  have : (opts cs room st)[pk j % (opts cs room st).length]? = some (wOpt cs st i) := by
    conv => lhs; arg 1; unfold opts
    rw [List.getElem?_append_left (by rw [List.length_map]; exact h1), List.getElem?_map, hg']
    rfl
  rw [List.getD_eq_getElem?_getD, this]
  rfl
theorem sel_t (R : Rel cs room st M) (V : Inv cs room st) (hn : st.next < cs.length) (pk : Nat → Nat) (j : Nat) (h1 : pk j % totM M = cntM M M.cs.length) (ht : tkM M = 1) : sel cs room pk j st = (2, st.way.headD 0, 0) := by
  obtain ⟨e1, e2, e3, e4⟩ := R.tot V hn
  have e0 : M.cs.length = cs.length := by rw [R.hcs, ints_len]
  rw [e0, e1, e2] at h1
  have hl : tList st = [(2, st.way.headD 0, 0)] := by
    unfold tList at e3 ⊢
    split
    · rename_i h; rw [if_pos h] at e3; simp at e3; omega
    · rfl
  unfold sel
  have : (opts cs room st)[pk j % (opts cs room st).length]? = some (2, st.way.headD 0, 0) := by
    rw [h1]
    unfold opts
    rw [List.getElem?_append_right (by rw [List.length_map]; exact Nat.le_refl _), List.length_map, Nat.sub_self, hl]
    rfl
  rw [List.getD_eq_getElem?_getD, this]
  rfl
theorem sel_f (R : Rel cs room st M) (V : Inv cs room st) (hr : 1 ≤ room) (hn : st.next < cs.length) (pk : Nat → Nat) (j : Nat) (h1 : ¬ pk j % totM M < cntM M M.cs.length) (h2 : ¬ (pk j % totM M = cntM M M.cs.length ∧ tkM M = 1)) : sel cs room pk j st = (3, st.next, 0) ∧ st.stg.getD st.next 0 = 2 := by
  obtain ⟨e1, e2, e3, e4⟩ := R.tot V hn
  have e0 : M.cs.length = cs.length := by rw [R.hcs, ints_len]
  have hgo := V.go hr hn
  have hlt := Nat.mod_lt (pk j) hgo
  rw [e0, e1, e2] at h1 h2
  have hlen : (opts cs room st).length = (wList cs room st).length + ((tList st).length + (fList st).length) := by unfold opts; simp
  have htl : (tList st).length ≤ 1 := by unfold tList; split <;> simp
  have hfl : (fList st).length ≤ 1 := by unfold fList; split <;> simp
  rw [e3] at h2
  have hf1 : (fList st).length = 1 := by omega
  have hf : fList st = [(3, st.next, 0)] ∧ st.stg.getD st.next 0 = 2 := by
    unfold fList at hf1 ⊢
    split
    · rename_i h; exact ⟨rfl, h⟩
    · rename_i h; rw [if_neg h] at hf1; simp at hf1
  refine ⟨?_, hf.2⟩
  unfold sel
  have : (opts cs room st)[pk j % (opts cs room st).length]? = some (3, st.next, 0) := by
    have hp : pk j % (opts cs room st).length = (wList cs room st).length + (tList st).length := by omega
    rw [hp]
    unfold opts
    rw [List.getElem?_append_right (by rw [List.length_map]; omega), List.length_map, Nat.add_sub_cancel_left, List.getElem?_append_right (Nat.le_refl _), Nat.sub_self, hf.1]
    rfl
  rw [List.getD_eq_getElem?_getD, this]
  rfl
end
end Go.AD.Sc
