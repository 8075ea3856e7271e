/- ere: group, atom. -/
import Derived.Test.YtjgjmpophpifgaaLe6
set_option linter.unusedVariables false
set_option linter.unusedSimpArgs false
set_option maxRecDepth 100000
namespace Go.AD.Lx
open Go.Proofs RowKit
section
variable {env : Env} {args : List AV} {σ0 σ τ : AS} {K : AV → AS → Prop} {X : PV → AS → Prop} {l : Nat} {s : Bytes} {d : Nat} {Y : Objs}
abbrev treeX (σ0 : AS) (l d : Nat) (Y : Objs) (K : AV → AS → Prop) (X : PV → AS → Prop) (r : Except Nat (ETree × Bytes)) : Prop := okX r (fun r => ∀ σ', RdAt σ0 σ' l r.2 d Y → K (ereAV r.1) σ') (fun n => ∀ σ', σ0.sub σ' → X (faultV n) σ')
def T_eBranches (f : Nat) : Tr := fun args σ K X => ∃ (g : Nat) (σ0 : AS) (l : Nat) (s : Bytes) (d : Nat) (Y : Objs), g ≤ f ∧ args = [.addr l 0] ∧ RdAt σ0 σ l s d Y ∧ s.length ≤ 70000 ∧ d ≤ 199 ∧ 3 * s.length + 3 ≤ g ∧ treeX σ0 l d Y K X (branchesE g d s)
def T_eGroup (f : Nat) : Tr := fun args σ K X => ∃ (g : Nat) (σ0 : AS) (l : Nat) (s : Bytes) (d : Nat) (Y : Objs), g ≤ f ∧ args = [.addr l 0] ∧ RdAt σ0 σ l s d Y ∧ s.length ≤ 70000 ∧ d ≤ 199 ∧ 3 * s.length + 3 ≤ g ∧ treeX σ0 l d Y K X (groupE g d s)
def T_eAtom (f : Nat) : Tr := fun args σ K X => ∃ (g : Nat) (σ0 : AS) (l : Nat) (s : Bytes) (d : Nat) (Y : Objs), g ≤ f ∧ args = [.addr l 0] ∧ RdAt σ0 σ l s d Y ∧ s ≠ [] ∧ s.length ≤ 70000 ∧ d ≤ 199 ∧ 3 * s.length + 1 ≤ g ∧ treeX σ0 l d Y K X (atomE g d s)
theorem treeX.pan {r : Except Nat (ETree × Bytes)} {K' : AV → AS → Prop} (h : treeX σ0 l d Y K X r) (hk : ∀ e s' σ', r = .ok (e, s') → RdAt σ0 σ' l s' d Y → K (ereAV e) σ' → K' (ereAV e) σ') : treeX σ0 l d Y K' (panV X) r := by
  cases r with
  | error n => exact err_go h
  | ok q => exact fun σ' hR => hk _ _ σ' rfl hR (h σ' hR)
theorem T_eGroup_ok {f : Nat} (h1 : env 48 = T_eTake) (h2 : env 31 = T_eBranches f) (h : T_eGroup f args σ K X) : bodyD PS env an66 Try.f66 args σ K X := by
  obtain ⟨g, σ0, l, s, d, Y, hg, rfl, hR, hlen, hd, hfu, hK⟩ := h
  rw [← S66_eq env, S66]
  simp only [lock_eq]
  refine alloc_E hR ?_
  intro t2 σ1 hS1
  have hR1 : RdAt σ0 σ1 l s d (VarE t2 vZero :: Y) := Sep.perm hS1 (List.Perm.swap _ _ _)
  have hl1 := hR1.get
  simp (disch := omega) only [go_sem, hl1, ldM_cells, stM_cells, Nat.zero_add, List.getElem?_cons_zero, List.getElem?_cons_succ, someEx, List.set_cons_zero, List.set_cons_succ]
  refine ⟨by simp, ?_⟩
  have hR2 := hR1.deep (d + 1)
  generalize (σ1.set l (.cells [.pv (.str s), .pv (.int .i64 ((d + 1 : Nat) : Int))] none)) = σ2 at hR2 ⊢
  have hl2 := hR2.get
  unfold groupE at hK
  refine iteI (fun g1 => ?_) (fun g1 => ?_)
  · rw [if_pos g1] at hK
    exact fault_go (n := 1) (hK σ2 hR2.sub)
  rw [if_neg g1] at hK
  unfold J66_4
  rw [h2]
  refine ⟨g, σ0, l, s, d + 1, _, hg, rfl, hR2, hlen, by omega, hfu, ?_⟩
  cases hb : branchesE g (d + 1) s with
  | error n => rw [hb] at hK; exact err_go hK
  | ok q =>
    obtain ⟨e, r⟩ := q
    rw [hb] at hK
    simp only at hK
    intro σ3 hR3
    simp only [lock_eq]
    refine alloc_E hR3 ?_
    intro t3 σ4 hS4
    refine store_E (A := []) EV.zero (EV.self e) hS4 ?_
    intro σ5 hS5
    have hR5 : RdAt σ0 σ5 l r (d + 1) (VarE t3 (ereAV e) :: VarE t2 vZero :: Y) := Sep.perm hS5 (List.Perm.swap _ _ _)
    refine take_call' h1 hR5 ?_
    intro σ6 hR6
    have e1 : ([41] : Bytes).length = 1 := rfl
    rw [e1] at hR6
    simp only [go_sem]
    by_cases g2 : Lib.hasPrefix r [41] = true
    · rw [if_pos g2] at hR6 hK
      rw [if_neg (by rw [g2]; decide)]
      have hl6 := hR6.get
      unfold J66_7
      simp (disch := omega) only [lock_eq, go_sem, hl6, ldM_cells, stM_cells, Nat.zero_add, List.getElem?_cons_zero, List.getElem?_cons_succ, someEx, List.set_cons_zero, List.set_cons_succ, Nat.add_sub_cancel]
      refine ⟨by simp, ?_⟩
      have hR7 := hR6.deep d
      generalize (σ6.set l (.cells [.pv (.str (r.drop 1)), .pv (.int .i64 ((d : Nat) : Int))] none)) = σ7 at hR7 ⊢
      have hg3 : σ7 t3 = some (.cells (ereAV e).cells (some 34)) := Sep.get hR7 (by simp [VarE])
      rw [load_E (EV.self e) hg3]
      refine end_E (A := [_, _]) EV.zero (EV.self e) hR7 ?_
      intro σ8 hS8
      exact hK σ8 (Sep.sublist hS8 (List.Sublist.cons_cons _ (List.sublist_cons_self _ _)))
    · rw [if_neg g2] at hR6 hK
      rw [if_pos (by simpa using g2)]
      exact fault_go (n := 1) (hK σ6 hR6.sub)
theorem bld_op {x : Bytes} {K : AV → Prop} : buildD PS 34 [(0, .pv (.str x))] K = K (.agg [.pv (.str x), .pv (.str []), .nilS, .pv (.int .i64 0), .pv (.int .i64 0)]) := by
  simp [buildD, buildFill, go_sem, AV.cells, AV.cellOk, setAll]
theorem EV.plain (op st : Bytes) : EV (.agg [.pv (.str op), .pv (.str st), .nilS, .pv (.int .i64 0), .pv (.int .i64 0)]) (.mk op st [] 0 0) := ⟨.nilS, rfl, rfl, rfl, rfl⟩
theorem T_eAtom_ok {f : Nat} (h1 : env 66 = T_eGroup f) (h2 : env 67 = T_eSet) (h3 : env 68 = T_eText) (h4 : env 69 = T_eEscaped) (h : T_eAtom (f + 1) args σ K X) : bodyD PS env an60 Try.f60 args σ K X := by
  obtain ⟨g, σ0, l, s, d, Y, hg, rfl, hR, hne, hlen, hd, hfu, hK⟩ := h
  obtain ⟨g, rfl⟩ : ∃ m, g = m + 1 := ⟨g - 1, by omega⟩
  have hp : 0 < s.length := List.length_pos_iff.2 hne
  rw [← S60_eq env, S60]
  simp only [lock_eq]
  refine alloc_E hR ?_
  intro t2 σ1 hS1
  have hR1 : RdAt σ0 σ1 l s d (VarE t2 vZero :: Y) := Sep.perm hS1 (List.Perm.swap _ _ _)
  have hl1 := hR1.get
  have i0 : ∀ (K : AV → Prop), indexD PS 9 (.pv (.str s)) (.pv (.int .i64 0)) K = K (.pv (.int .u8 (s.getD 0 0).toNat)) := fun K => T.is9 (i := 0) hp
  have s1 : ∀ (K : AV → Prop), sliceD PS 9 (.pv (.str s)) (some (.pv (.int .i64 1))) none K = K (.pv (.str (s.drop 1))) := fun K => T.ss9 (i := 1) hp
  have hl1d : (s.drop 1).length = s.length - 1 := List.length_drop ..
  simp (disch := omega) only [T.fa54_0, nilD, Nat.add_zero, T.ld9, T.stp9, hl1, ldM_cells, stM_cells, List.getElem?_cons_zero, List.getElem?_cons_succ, someEx, i0, s1, List.set_cons_zero]
  refine ⟨by simp, ?_⟩
  have hR2 := hR1.put (s.drop 1)
  generalize (σ1.set l (.cells [.pv (.str (s.drop 1)), .pv (.int .i64 (d : Nat))] none)) = σ2 at hR2 ⊢
  rw [atomE] at hK
  generalize s.getD 0 0 = c at hK ⊢
  have fin : ∀ (σ3 : AS) (r : Bytes) (v : AV) (e : ETree), EV v e → RdAt σ0 σ3 l r d (VarE t2 vZero :: Y) → (∀ σ', RdAt σ0 σ' l r d Y → K (ereAV e) σ') → storeD PS σ3 34 (.addr t2 0) v fun σ' => loadD PS σ' 34 (.addr t2 0) fun r => retV r σ' K := by
    intro σ3 r v e hv hR3 hk
    exact end_E (A := [_]) EV.zero hv hR3 fun σ' hS' => hk σ' hS'
  rw [bin_eql, cond_bool]
  refine iteI (fun g1 => ?_) (fun g1 => ?_)
  · rw [nBeqL, beq_iff_eq] at g1
    rw [if_pos g1] at hK
    rw [h1]
    refine ⟨g, σ0, l, s.drop 1, d, _, by omega, rfl, hR2, by omega, hd, by omega, ?_⟩
    have hK : treeX σ0 l d Y K X (groupE g d (s.drop 1)) := hK
    cases hb : groupE g d (s.drop 1) with
    | error n => rw [hb] at hK; exact err_go hK
    | ok q =>
      obtain ⟨e, r⟩ := q
      rw [hb] at hK
      intro σ3 hR3
      exact fin σ3 r _ e (EV.self e) hR3 hK
  rw [nBeqL, beq_iff_eq] at g1
  rw [if_neg g1] at hK
  rw [bin_eql, cond_bool]
  refine iteI (fun g2 => ?_) (fun g2 => ?_)
  · rw [nBeqL, beq_iff_eq] at g2
    rw [if_pos g2] at hK
    rw [h2]
    refine ⟨σ0, l, s.drop 1, d, _, rfl, hR2, by omega, ?_⟩
    cases hb : setE (s.drop 1) with
    | error n => rw [hb] at hK; exact err_go hK
    | ok q =>
      obtain ⟨e, r⟩ := q
      rw [hb] at hK
      intro σ3 hR3
      exact fin σ3 r _ e (EV.self e) hR3 hK
  rw [nBeqL, beq_iff_eq] at g2
  rw [if_neg g2] at hK
  rw [bin_eql, cond_bool]
  refine iteI (fun g3 => ?_) (fun g3 => ?_)
  · rw [nBeqL, beq_iff_eq] at g3
    rw [if_pos g3] at hK
    rw [bld_op]
    exact fin σ2 _ _ _ (EV.plain _ _) hR2 hK
  rw [nBeqL, beq_iff_eq] at g3
  rw [if_neg g3] at hK
  rw [bin_eql, cond_bool]
  refine iteI (fun g4 => ?_) (fun g4 => ?_)
  · rw [nBeqL, beq_iff_eq] at g4
    rw [if_pos g4] at hK
    rw [bld_op]
    exact fin σ2 _ _ _ (EV.plain _ _) hR2 hK
  rw [nBeqL, beq_iff_eq] at g4
  rw [if_neg g4] at hK
  rw [bin_eql, cond_bool]
  refine iteI (fun g5 => ?_) (fun g5 => ?_)
  · rw [nBeqL, beq_iff_eq] at g5
    rw [if_pos g5] at hK
    refine alloc_of zoSet (by unfold cellsB; simp [AV.cellOk]) ?_
    intro t5 ht5
    have hS5 := Sep.alloc hR2 ht5 (.cells (cellsB noB) (some 83))
    rw [h3]
    refine ⟨t5, noB, some 83, false, rfl, hS5.get (by simp), ?_⟩
    intro σ6 hs6
    have hS6 := sepUp hS5 hs6
    rw [bld_set]
    exact fin σ6 _ _ _ (EV.plain _ _) hS6.drop hK
  rw [nBeqL, beq_iff_eq] at g5
  rw [if_neg g5] at hK
  have j16 : ∀ (σ3 : AS) (c : UInt8) (r : Bytes), RdAt σ0 σ3 l r d (VarE t2 vZero :: Y) → (∀ σ', RdAt σ0 σ' l r d Y → K (ereAV (.mk eSet [c] [] 0 0)) σ') → J60_16 env (.addr t2 0) (.pv (.int .u8 c.toNat)) σ3 K X := by
    intro σ3 c r hR3 hk
    unfold J60_16
    simp only [lock_eq, bb1 c rfl]
    rw [conv_bytes (l := [c]) (isSlice T.el50) Try.underlying9 Try.underlying5 T.sz5 rfl, bld_set]
    exact fin σ3 r _ _ (EV.plain _ _) hR3 hk
  rw [bin_eql, cond_bool]
  refine iteI (fun g6 => ?_) (fun g6 => ?_)
  · rw [nBeqL, beq_iff_eq] at g6
    rw [if_pos g6] at hK
    rw [h4]
    refine ⟨σ0, l, s.drop 1, d, _, rfl, hR2, by omega, ?_⟩
    cases hb : escE (s.drop 1) with
    | error n => rw [hb] at hK; exact err_go hK
    | ok q =>
      obtain ⟨c', r⟩ := q
      rw [hb] at hK
      intro σ3 hR3
      exact j16 σ3 c' r hR3 hK
  · rw [nBeqL, beq_iff_eq] at g6
    rw [if_neg g6] at hK
    exact j16 σ2 c _ hR2 hK
end
end Go.AD.Lx
