/- sched: the law SchedFirst. -/
import Derived.Test.YtcaidbmopehjhaaS23
set_option linter.unusedVariables false
set_option linter.unusedSimpArgs false
set_option maxRecDepth 100000
namespace Go.AD.Sc
open Go.Proofs
theorem planR_zeros (l : List Int) (room : Int) (n : Nat) : planR l room (List.replicate n 0) = planR l room [] := by
  have : pickAt (List.replicate n 0) = pickAt [] := by
    funext j
    unfold pickAt
    rw [rep_getD]
    simp
  unfold planR
  rw [this]
def csOf (l : List Int) : List Nat := l.map Int.toNat
theorem right_facts {l : List Int} {room : Int} (h : rightS l room ≠ none) : 1 ≤ (csOf l).length ∧ (csOf l).length ≤ 4096 ∧ 1 ≤ room.toNat ∧ room.toNat ≤ 4096 ∧ (csOf l).sum ≤ 1048576 ∧ l = ints (csOf l) ∧ room = (room.toNat : Nat) ∧ (csOf l).length = l.length := by
  cases hr : rightS l room with
  | none => exact absurd hr h
  | some n =>
    obtain ⟨cs, r, rfl, rfl, hk1, hk4, hr1, hr2, rfl, hsum⟩ := right_some hr
    have e : csOf (ints cs) = cs := ints_back cs
    rw [e, Int.toNat_natCast, ints_len]
    exact ⟨hk1, hk4, hr1, hr2, hsum, rfl, rfl, rfl⟩
theorem planR_eq {l : List Int} {room : Int} (picks : List Int) (h : rightS l room ≠ none) : planR l room picks = plan (csOf l) room.toNat (pickAt picks) := by rw [planR, if_neg h]; rfl
theorem planR_take (l : List Int) (room : Int) (picks : List Int) (hn : (planR l room picks).1.length < picks.length) : planR l room (picks.take (planR l room picks).1.length) = planR l room picks := by
  by_cases h : rightS l room = none
  · rw [planR, planR, if_pos h, if_pos h]
  · obtain ⟨hk1, hk4, hr1, hr2, hsum, _, _, _⟩ := right_facts h
    rw [planR_eq _ h, planR_eq _ h]
    rw [planR_eq _ h] at hn
    apply plan_congr
    intro i hi
    have hl := plan_len (cs := csOf l) hr1 (pickAt picks)
    rw [hl] at hn ⊢
    have hlt : (picks.take (total (csOf l))).length = total (csOf l) := by rw [List.length_take]; omega
    unfold pickAt
    rw [if_pos (by omega), if_pos (by omega)]
    congr 2
    simp [List.getD_eq_getElem?_getD, List.getElem?_take, hi]
/-- An element of a given list, in its own variable. -/
theorem own42P {σ0 σ : AS} {L : Objs} {l : List Stp} {p : Nat} (hS : Sep σ0 σ L) (hp : p < l.length) {KS : AV → AS → Prop}
    (hK : ∀ t σ', Sep σ0 σ' ((t, .cells ((stepPV l[p]).map .pv) (some 42)) :: L) → KS (.addr t 0) σ') :
    indexAddrD PS 36 (.pv (.lst l.length (flatS l))) (.pv (.int .i64 p)) fun t147 => loadD PS σ 42 t147 fun t148 => allocD PS σ 42 fun t22 σ15 => storeD PS σ15 42 t22 t148 fun σ16 => KS t22 σ16 := by
  refine flatS_ix hp ?_
  refine alloc_of T.zo42 rfl ?_
  intro t ht
  have h1 := hS.alloc ht (.cells [.pv (.str []), .pv (.int .i64 0), .pv (.int .i64 0)] (some 42))
  have hg : (σ.set t (.cells [.pv (.str []), .pv (.int .i64 0), .pv (.int .i64 0)] (some 42))) t = some (.cells [.pv (.str []), .pv (.int .i64 0), .pv (.int .i64 0)] (some 42)) := h1.get (by simp)
  simp only [storeD]
  rw [hg]
  refine ⟨T.hT42, by rw [T.sz42]; rfl, rfl, by simp [AV.cells, stepPV], ?_⟩
  exact hK t _ (Sep.set (l1 := []) h1 _)
theorem nmWork (n : Nat) : (names n == [119, 111, 114, 107]) = decide (n = 0) := by
  unfold names
  split
  · rename_i h; subst h; rfl
  · rename_i h
    rw [decide_eq_false h]
    split
    · rfl
    · split <;> rfl
def T10 : Tr := T8
theorem j14 {env : Env} (h24 : env 24 = Tr.wk T24) (h26 : env 26 = Tr.wk T26) {l picks : List Int} {room : Int} {σ : AS} {K : AV → AS → Prop} {X : PV → AS → Prop} (hl : ∀ c ∈ l, in64 c) (hp : ∀ c ∈ picks, in64 c) (hll : l.length ≤ 100000000000000) (hpl : picks.length ≤ 100000000000000) (hK : ∀ σ', K (.pv (.bool true)) σ') :
    J10_14 env (.pv (.lst l.length (i64s l))) (.pv (.int .i64 room)) (.pv (.lst picks.length (i64s picks))) (.pv (.lst (planR l room []).1.length (flatS (planR l room []).1))) σ K X := by
  have hA := planR_len l room []
  unfold J10_14
  simp only [go_sem]
  refine lp10_16 (fun (a : Nat × Nat) _ => (planR l room []).1.length - a.1) (fun a τ => a.1 ≤ (planR l room []).1.length ∧ a.2 ≤ 4096 ∧ (rightS l room ≠ none → ∀ k, k < a.2 → (runSt (csOf l) room.toNat (pickAt []) a.1).done.getD k 0 = (csOf l).getD k 0)) (fun a => .pv (.int .i64 a.2)) (fun a => .pv (.int .i64 a.1)) (0, 0) ⟨by simp, by simp, fun _ k hk => absurd hk (Nat.not_lt_zero _)⟩ ?_
  rintro ⟨i, last⟩ τ ⟨hi, hlb, hI⟩
  simp only at hi hlb hI
  unfold L10_16
  simp (disch := omega) only [go_sem]
  refine iteI (fun hlt => ?_) (fun hge => ?_)
  · refine own42P (Sep.start τ) hlt ?_
    intro t σ2 hS2
    have hne : rightS l room ≠ none := by
      intro h
      rw [planR, if_pos h] at hlt
      exact absurd hlt (Nat.not_lt_zero _)
    have hI := hI hne
    obtain ⟨hk1, hk4, hr1, hr2, hsum, _, _, _⟩ := right_facts hne
    have e := planR_eq [] hne
    have hs : (planR l room []).1[i] = sel (csOf l) room.toNat (pickAt []) i (runSt (csOf l) room.toNat (pickAt []) i) := by
      have := plan_get hr1 (pickAt []) (j := i) (by rw [← e]; exact hlt)
      rw [← this]
      simp only [e]
    rw [hs] at hS2
    have hti : i < total (csOf l) := by rw [← plan_len hr1 (pickAt []), ← e]; exact hlt
    obtain ⟨V, hpot⟩ := run_inv (cs := csOf l) hr1 (pickAt []) i (by omega)
    have hn := more V (by omega)
    have hfw := first_work V hr1 hn (pk := pickAt []) (j := i) (by simp [pickAt])
    have hmem := opts_mem (sel_mem V hr1 hn (pickAt []) i)
    generalize hse : sel (csOf l) room.toNat (pickAt []) i (runSt (csOf l) room.toNat (pickAt []) i) = s at hS2 hfw hmem
    have hg : σ2 t = some (.cells ((stepPV s).map .pv) (some 42)) := hS2.get (by simp)
    have hrun : runSt (csOf l) room.toNat (pickAt []) (i + 1) = app (runSt (csOf l) room.toNat (pickAt []) i) s := by rw [runSt, hse]
    simp (disch := omega) only [go_sem, T.fa42_0, hg, ldM_cells, stepPV, List.map_cons, List.map_nil, List.getElem?_cons_zero, List.getElem?_cons_succ, someEx, nmWork]
    refine iteI (fun hw => ?_) (fun hw => ?_)
    · obtain ⟨w, hw1, rfl, hw2, hw3⟩ := hfw hw
      have hwl : ¬ w < last := fun h => by have := hI w h; omega
      simp (disch := omega) only [go_sem, T.fa42_1, hg, ldM_cells, stepPV, List.map_cons, List.map_nil, List.getElem?_cons_zero, List.getElem?_cons_succ, someEx]
      rw [if_neg hwl]
      refine back (i + 1, w) rfl (by simp only; omega) ⟨by simp only; omega, by simp only; omega, fun _ k hk => ?_⟩
      simp only at hk ⊢
      rw [hrun]
      simp only [app]
      rw [getD_set _ _ _ _ (by rw [V.ld]; exact hw1), if_neg (by omega)]
      exact hw3 k hk
    · refine back (i + 1, last) rfl (by simp only; omega) ⟨by simp only; omega, by simp only; omega, fun _ k hk => ?_⟩
      simp only at hk ⊢
      rw [hrun]
      have : (app (runSt (csOf l) room.toNat (pickAt []) i) s).done = (runSt (csOf l) room.toNat (pickAt []) i).done := by
        rcases hmem with ⟨x, _, rfl, _⟩ | ⟨x, _, rfl, _⟩ | ⟨x, w, _, rfl⟩ | ⟨rfl, _⟩
        · exact absurd rfl hw
        · rfl
        · rfl
        · rfl
      rw [this]
      exact hI k hk
  · rw [h24]
    refine Tr.wk_same (T24_of hp hpl fun σ2 _ => ?_)
    have hC := planR_len l room picks
    simp only [go_sem, outV, List.getElem?_cons_zero, List.getElem?_cons_succ]
    refine iteI (fun hlt => ?_) (fun hge => retV_self (hK _))
    have hsl : ∀ K : AV → Prop, sliceD PS 22 (.pv (.lst picks.length (i64s picks))) none (some (.pv (.int .i64 (planR l room picks).1.length))) K = K (.pv (.lst (picks.take (planR l room picks).1.length).length (i64s (picks.take (planR l room picks).1.length)))) := by
      intro K
      have : (planR l room picks).1.length ≤ picks.length := by omega
      have e : (picks.take (planR l room picks).1.length).length = (planR l room picks).1.length := by rw [List.length_take]; omega
      simp [sliceD, T.el22, cutAt, T.iS3, T.sz3, this, i64s, e, List.map_take]
    rw [hsl]
    refine Tr.wk_same (T24_of (fun c hc => hp c (List.mem_of_mem_take hc)) (by rw [List.length_take]; omega) fun σ3 _ => ?_)
    rw [planR_take l room picks hlt]
    simp only [go_sem, outV, List.getElem?_cons_zero, List.getElem?_cons_succ, beq_self_eq_true, if_true]
    rw [h26]
    exact Tr.wk_same ⟨_, rfl, by omega, retV_self (hK _)⟩
theorem T10_ok {env : Env} (h22 : env 22 = T22) (h23 : env 23 = T23) (h24 : env 24 = Tr.wk T24) (h26 : env 26 = Tr.wk T26) (args : List AV) (σ : AS) (K : AV → AS → Prop) (X : PV → AS → Prop) (h : T10 args σ K X) : bodyD PS env an10 Try.f10 args σ K X := by
  obtain ⟨l, picks, room, rfl, hl, hp, hll, hpl, hK⟩ := h
  rw [← S10_eq env, S10, h22]
  refine ⟨rfl, fun σ1 _ => ?_⟩
  simp only [go_sem, Bool.not_true, Bool.false_eq_true, if_false]
  rw [h23]
  refine ⟨l, rfl, hl, ?_⟩
  simp only [go_sem]
  refine iteI (fun _ => retV_self (hK _)) (fun hf => ?_)
  rw [h24]
  refine Tr.wk_intro (wkS (wkS (wkP rfl wkN))) (T24_of (picks := []) (by simp) (by simp) fun σ2 _ => ?_)
  have hA := planR_len l room []
  simp (disch := omega) only [go_sem, outV, List.getElem?_cons_zero, List.getElem?_cons_succ]
  refine lp10_8 (fun (a : Nat × AV) _ => (planR l room []).1.length + 3 - a.1) (fun a τ => a.1 ≤ (planR l room []).1.length + 3 ∧ ∃ L, RowV PS 3 a.2 L (List.replicate a.1 (0 : Int)).length (i64s (List.replicate a.1 0)) ∧ Sep σ2 τ ([] ++ L)) (fun a => a.2) (fun a => .pv (.int .i64 a.1)) (0, .nilS) ⟨by simp, [], RowV.nil PS 3, Sep.start σ2⟩ ?_
  rintro ⟨i, nv⟩ τ ⟨hi, L, hR, hS⟩
  simp only at hi hR
  unfold L10_8
  simp (disch := omega) only [go_sem]
  refine iteI (fun hlt => ?_) (fun hge => ?_)
  · refine appInt hR hS (by simp; omega) ?_
    intro v' L' τ' hR2 hS2
    refine back (i + 1, v') rfl (by simp only; omega) ⟨by simp only; omega, L', ?_, hS2⟩
    simp only
    rw [List.replicate_succ']
    exact hR2
  · have : i = (planR l room []).1.length + 3 := by omega
    subst this
    rw [h24]
    refine Tr.wk_intro (wkS (wkS (wkP hR.toPV wkN))) (T24_of (picks := List.replicate ((planR l room []).1.length + 3) 0) ?_ (by simp; omega) fun σ3 _ => ?_)
    · intro c hc
      obtain ⟨_, rfl⟩ := List.mem_replicate.1 hc
      unfold in64; omega
    rw [planR_zeros]
    simp only [go_sem, outV, List.getElem?_cons_zero, List.getElem?_cons_succ, bne_self_eq_false, Bool.false_eq_true, if_false]
    rw [h26]
    refine Tr.wk_same ⟨_, rfl, by omega, ?_⟩
    simp only [go_sem, Bool.not_true, Bool.false_eq_true, if_false]
    exact j14 h24 h26 hl hp hll hpl hK
end Go.AD.Sc
