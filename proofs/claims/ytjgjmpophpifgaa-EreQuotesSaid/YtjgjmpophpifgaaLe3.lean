/- ere: a set's text, a class, an item. -/
import Derived.Test.YtjgjmpophpifgaaLe2
set_option linter.unusedVariables false
set_option linter.unusedSimpArgs false
set_option maxRecDepth 100000
namespace Go.AD.Lx
open Go.Proofs RowKit
section
variable {env : Env} {args : List AV} {σ0 σ τ : AS} {K : AV → AS → Prop} {X : PV → AS → Prop} {l : Nat} {s : Bytes} {d : Nat} {Y : Objs}
def T_eText : Tr := fun args σ K _ => ∃ (b : Nat) (B : BSet) (var : Option TypeId) (x : Bool), args = [.addr b 0, .pv (.bool x)] ∧ σ b = some (.cells (cellsB B) var) ∧ ∀ σ', σ.sub σ' → K (.pv (.str (textB B x))) σ'
theorem T_eText_ok (h : T_eText args σ K X) : bodyD PS env an68 Try.f68 args σ K X := by
  obtain ⟨b, B, var, x, rfl, hg, hK⟩ := h
  rw [← S68_eq env, S68]
  refine lp68_3 (fun (a : Nat × AV) _ => 256 - a.1) (fun a τ => a.1 ≤ 256 ∧ ∃ L, RowF a.2 L (((List.range a.1).filter fun k => B k == x).map UInt8.ofNat) ∧ Sep σ τ ([] ++ L)) (fun a => a.2) (fun a => .pv (.int .i64 ((a.1 : Nat) : Int))) (0, .nilS) ⟨Nat.zero_le _, [], RowF.nil, Sep.start σ⟩ ?_
  rintro ⟨k, v⟩ τ ⟨hk, L, hR, hS⟩
  simp only at hk hR
  have hlen : (((List.range k).filter fun k => B k == x).map UInt8.ofNat).length ≤ 256 := by
    rw [List.length_map]
    have := List.length_filter_le (fun k => B k == x) (List.range k)
    rw [List.length_range] at this
    omega
  unfold L68_3
  simp (disch := omega) only [lock_eq, go_sem]
  refine iteI (fun g1 => ?_) (fun g1 => ?_)
  · have hg1 : τ b = some (.cells (cellsB B) var) := hS.sub _ _ hg
    simp (disch := omega) only [ixB g1, go_sem, hg1, ldM_cells, cellsB_get g1, someEx, bin_beql (P := PS) (t := 4) Try.underlying4, conv_u8]
    have hr : (List.range (k + 1)).filter (fun k => B k == x) = (List.range k).filter (fun k => B k == x) ++ (if (B k == x) = true then [k] else []) := by
      rw [List.range_succ, List.filter_append]
      congr 1
      by_cases h : (B k == x) = true <;> simp [h]
    refine iteI (fun g2 => ?_) (fun g2 => ?_)
    · rw [if_pos g2] at hr
      refine add1 hR hS (UInt8.ofNat k) rfl (by omega) ?_
      intro v' L' σ' hR' hS'
      refine back (k + 1, v') rfl (by simp only; omega) ⟨g1, L', ?_, hS'⟩
      simp only
      rw [hr, List.map_append]
      exact hR'
    · rw [if_neg g2, List.append_nil] at hr
      refine back (k + 1, v) rfl (by simp only; omega) ⟨g1, L, ?_, hS⟩
      simp only
      rw [hr]
      exact hR
  · have hk' : k = 256 := by omega
    subst hk'
    rw [conv_bytes (l := ((List.range 256).filter fun k => B k == x).map UInt8.ofNat) (isSlice T.el50) Try.underlying9 Try.underlying5 T.sz5 hR.toPV]
    exact retV_self (hK τ hS.sub)
def T_eClass : Tr := fun args σ K _ => ∃ (σ0 : AS) (b : Nat) (B : BSet) (var : Option TypeId) (Y : Objs) (n : Bytes), args = [.addr b 0, .pv (.str n)] ∧ Sep σ0 σ ((b, .cells (cellsB B) var) :: Y) ∧ ∀ σ', Sep σ0 σ' ((b, .cells (cellsB (putsB (endsE n) B)) var) :: Y) → K (.pv (.bool (decide (endsE n ≠ [])))) σ'
theorem T_eClass_ok (h1 : env 76 = T_ePut) (h : T_eClass args σ K X) : bodyD PS env an81 Try.f81 args σ K X := by
  obtain ⟨σ0, b, B, var, Y, n, rfl, hS, hK⟩ := h
  rw [← S81_eq env, S81]
  have j27 : ∀ e : Bytes, (∃ m, e.length = 2 * m) → e.length ≤ 8 → (∀ σ', Sep σ0 σ' ((b, .cells (cellsB (putsB e B)) var) :: Y) → K (.pv (.bool (decide (e ≠ [])))) σ') → J81_27 env (.addr b 0) (.pv (.str e)) σ K X := by
    intro e hev he8 hK
    unfold J81_27
    refine lp81_28 (fun (a : Nat × BSet) _ => e.length - a.1) (fun a τ => a.1 ≤ e.length ∧ (∃ m, e.length = a.1 + 2 * m) ∧ putsB (e.drop a.1) a.2 = putsB e B ∧ Sep σ0 τ ((b, .cells (cellsB a.2) var) :: Y)) (fun a => .pv (.int .i64 ((a.1 : Nat) : Int))) (0, B) ⟨Nat.zero_le _, by simpa using hev, rfl, hS⟩ ?_
    rintro ⟨i, B'⟩ τ ⟨hi, ⟨m, hm⟩, hp, hS'⟩
    simp only at hi hm hp hS'
    unfold L81_28
    simp (disch := omega) only [lock_eq, go_sem]
    refine iteI (fun g1 => ?_) (fun g1 => ?_)
    · have g2 : i + 1 < e.length := by omega
      simp (disch := omega) only [T.is9]
      rw [h1]
      refine ⟨σ0, b, B', var, Y, _, _, rfl, hS', ?_⟩
      intro σ' hS''
      rw [drop_consD (d := 0) g1, drop_consD (d := 0) g2, putsB] at hp
      exact back (i + 2, _) rfl (by simp only; omega) ⟨by simp only; omega, ⟨m - 1, by simp only; omega⟩, hp, hS''⟩
    · rw [List.drop_eq_nil_of_le (by omega), putsB] at hp
      · rw [hp] at hS'
        have e1 : (!e == []) = decide (e ≠ []) := by rw [Bool.eq_iff_iff]; simp
        have := hK τ hS'
        rw [← e1] at this
        exact retV_self this
      · intro _ _ _ h; cases h
  simp only [lock_eq]
  unfold endsE at hK
  iterate 12
    rw [bin_seql, cond_bool]
    refine iteI (fun g => ?_) (fun g => ?_)
    · rw [beq_iff_eq] at g
      rw [if_pos g] at hK
      exact j27 _ (by first | exact ⟨1, rfl⟩ | exact ⟨2, rfl⟩ | exact ⟨3, rfl⟩ | exact ⟨4, rfl⟩) (by decide) hK
    rw [beq_iff_eq] at g
    rw [if_neg g] at hK
  exact j27 [] ⟨0, rfl⟩ (by decide) hK
def itemV : Option UInt8 → AV
  | none => .tuple [.pv (.int .u8 0), .pv (.bool false)]
  | some c => .tuple [.pv (.int .u8 c.toNat), .pv (.bool true)]
def T_eItem : Tr := fun args σ K X => ∃ (σ0 : AS) (l : Nat) (s : Bytes) (d b : Nat) (B : BSet) (var : Option TypeId) (Y : Objs), args = [.addr l 0, .addr b 0] ∧ RdAt σ0 σ l s d ((b, .cells (cellsB B) var) :: Y) ∧ s ≠ [] ∧ s.length ≤ 90000 ∧
  okX (itemE s B) (fun r => ∀ σ', RdAt σ0 σ' l r.2.1 d ((b, .cells (cellsB r.2.2) var) :: Y) → K (itemV r.1) σ') (fun n => ∀ σ', σ0.sub σ' → X (faultV n) σ')
theorem err_go {p : PV} (h : ∀ σ', σ0.sub σ' → X p σ') : ∀ σ', σ0.sub σ' → panV X p σ' := fun σ' hs => ⟨σ', sub_refl σ', h σ' hs⟩
theorem hasP_len {s p : Bytes} (h : Lib.hasPrefix s p = true) : p.length ≤ s.length := (List.isPrefixOf_iff_prefix.1 h).length_le
theorem T_eItem_ok (h1 : env 48 = T_eTake) (h2 : env 80 = T_CutE) (h3 : env 81 = T_eClass) (h4 : env 69 = T_eEscaped) (h : T_eItem args σ K X) : bodyD PS env an75 Try.f75 args σ K X := by
  obtain ⟨σ0, l, s, d, b, B, var, Y, rfl, hR, hne, hlen, hK⟩ := h
  rw [← S75_eq env, S75]
  unfold itemE at hK
  have hp : 0 < s.length := List.length_pos_iff.2 hne
  refine take_call' h1 hR ?_
  intro σ1 hR1
  simp only [lock_eq, go_sem]
  refine iteI (fun g1 => ?_) (fun g1 => ?_)
  · rw [if_pos g1] at hK hR1
    have hl1 := hR1.get
    have e2 : ([91, 58] : Bytes).length = 2 := rfl
    rw [e2] at hR1 hl1
    simp (disch := omega) only [go_sem, hl1, ldM_cells, List.getElem?_cons_zero, someEx]
    rw [h2]
    refine ⟨_, _, rfl, by rw [List.length_drop]; omega, ?_⟩
    simp only [lock_eq, ext_tuple, List.getElem?_cons_zero, List.getElem?_cons_succ, someEx, go_sem]
    generalize Lib.cut (s.drop 2) [58, 93] = q at hK ⊢
    obtain ⟨q1, q2, q3⟩ := q
    simp only at hK ⊢
    cases q3 with
    | false =>
      rw [if_neg (fun h => by cases h.1)] at hK
      simp only [Bool.not_false, if_true]
      exact fault_go (hK σ1 hR1.sub)
    | true =>
      simp only [Bool.not_true, Bool.false_eq_true, if_false]
      rw [h3]
      refine ⟨σ0, b, B, var, _, q1, rfl, Sep.perm hR1 (List.Perm.swap _ _ _), ?_⟩
      intro σ2 hS2
      have hR2 : RdAt σ0 σ2 l (s.drop 2) d _ := Sep.perm hS2 (List.Perm.swap _ _ _)
      simp only [go_sem]
      by_cases g2 : endsE q1 = []
      · rw [if_neg (fun h => h.2 g2)] at hK
        rw [if_pos (by simp [g2])]
        exact fault_go (hK σ2 hR2.sub)
      · rw [if_pos ⟨rfl, g2⟩] at hK
        rw [if_neg (by simp [g2])]
        have hl2 := hR2.get
        unfold J75_5
        simp (disch := omega) only [lock_eq, go_sem, hl2, stM_cells, List.set_cons_zero]
        exact ⟨by simp, retV_self (hK _ (hR2.put _))⟩
  · rw [if_neg g1] at hK hR1
    refine take_call' h1 hR1 ?_
    intro σ2 hR2
    simp only [go_sem]
    refine iteI (fun g2 => ?_) (fun g2 => ?_)
    · rw [if_pos g2] at hK hR2
      have e1 : ([92] : Bytes).length = 1 := rfl
      rw [e1] at hR2
      rw [h4]
      refine ⟨σ0, l, _, d, _, rfl, hR2, by rw [List.length_drop]; omega, ?_⟩
      cases he : escE (s.drop 1) with
      | error n => rw [he] at hK; exact err_go hK
      | ok r =>
        obtain ⟨c, r⟩ := r
        rw [he] at hK
        exact fun σ' hR' => retV_self (hK σ' hR')
    · rw [if_neg g2] at hK hR2
      have hl2 := hR2.get
      have i0 : ∀ (K : AV → Prop), indexD PS 9 (.pv (.str s)) (.pv (.int .i64 0)) K = K (.pv (.int .u8 (s.getD 0 0).toNat)) := fun K => T.is9 (i := 0) hp
      have s1 : ∀ (K : AV → Prop), sliceD PS 9 (.pv (.str s)) (some (.pv (.int .i64 1))) none K = K (.pv (.str (s.drop 1))) := fun K => T.ss9 (i := 1) hp
      simp (disch := omega) only [go_sem, hl2, ldM_cells, stM_cells, List.getElem?_cons_zero, someEx, i0, s1, List.set_cons_zero]
      exact ⟨by simp, retV_self (hK _ (hR2.put _))⟩
/-! ### trees as cells -/
mutual
def ereCells : ETree → List PV
  | .mk op set kids lo hi => [.str op, .str set, .lst kids.length (flatE kids), .int .i64 lo, .int .i64 hi]
def flatE : List ETree → List PV
  | [] => []
  | e :: l => ereCells e ++ flatE l
end
def ereAV (e : ETree) : AV := .agg ((ereCells e).map .pv)
theorem ereCells_len (e : ETree) : (ereCells e).length = 5 := by cases e; simp [ereCells]
theorem zoSet : zeroOf PS 83 = some (cellsB noB) := by kernel_rfl
def T_eSet : Tr := fun args σ K X => ∃ (σ0 : AS) (l : Nat) (s : Bytes) (d : Nat) (Y : Objs), args = [.addr l 0] ∧ RdAt σ0 σ l s d Y ∧ s.length ≤ 80000 ∧ okX (setE s) (fun r => ∀ σ', RdAt σ0 σ' l r.2 d Y → K (ereAV r.1) σ') (fun n => ∀ σ', σ0.sub σ' → X (faultV n) σ')
theorem bset_box {KS : AV → AS → Prop} (h : ∀ id, σ id = none → KS (.addr id 0) (σ.set id (.cells (cellsB noB) none))) : buildD PS 83 [] fun t => boxD σ t KS := by
  have hu : PS.underlying 83 = some (.array 256 4) := Try.underlying83
  simp only [buildD, zoSet, hu, buildFill, T.iS4, true_and, boxD, AV.cells]
  exact ⟨by unfold cellsB; simp [AV.cellOk], h⟩
end
end Go.AD.Lx
