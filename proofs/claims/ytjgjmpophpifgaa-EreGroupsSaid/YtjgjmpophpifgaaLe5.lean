import Derived.Test.YtjgjmpophpifgaaLe3
/- ere: a set. -/
set_option linter.unusedVariables false
set_option linter.unusedSimpArgs false
set_option maxRecDepth 100000
namespace Go.AD.Lx
open Go.Proofs RowKit
section
variable {env : Env} {args : List AV} {σ0 σ τ : AS} {K : AV → AS → Prop} {X : PV → AS → Prop} {l : Nat} {s : Bytes} {d : Nat} {Y : Objs}
theorem escE_len {s : Bytes} {c : UInt8} {r : Bytes} (h : escE s = .ok (c, r)) : r.length < s.length := by
  unfold escE at h
  split at h
  · cases h
  rename_i hne
  have hp : 0 < s.length := List.length_pos_iff.2 hne
  split at h
  · rename_i h0
    simp only [Except.ok.injEq, Prod.mk.injEq] at h
    rw [← h.2, List.length_drop]; omega
  · simp only [Except.ok.injEq, Prod.mk.injEq] at h
    rw [← h.2, List.length_drop]; omega
theorem itemE_len {s : Bytes} {b : BSet} {c : Option UInt8} {r : Bytes} {b' : BSet} (hne : s ≠ []) (h : itemE s b = .ok (c, r, b')) : r.length < s.length := by
  have hp : 0 < s.length := List.length_pos_iff.2 hne
  unfold itemE at h
  split at h
  · rename_i h2
    have := hasP_len h2
    simp only [List.length_cons, List.length_nil] at this
    split at h
    · simp only [Except.ok.injEq, Prod.mk.injEq] at h
      rw [← h.2.1]
      have : (Lib.cut (s.drop 2) [58, 93]).2.1.length ≤ (s.drop 2).length := by
        unfold Lib.cut
        split
        · simp only [List.length_drop]; omega
        · simp
      rw [List.length_drop] at this
      omega
    · cases h
  split at h
  · rename_i h2
    have := hasP_len h2
    simp only [List.length_cons, List.length_nil] at this
    split at h
    · cases h
    · rename_i he
      have := escE_len he
      simp only [Except.ok.injEq, Prod.mk.injEq] at h
      rw [← h.2.1]
      rw [List.length_drop] at this
      omega
  · simp only [Except.ok.injEq, Prod.mk.injEq] at h
    rw [← h.2.1, List.length_drop]; omega
def ere0 : AObj := .cells [.pv (.str []), .pv (.str []), .nilS, .pv (.int .i64 0), .pv (.int .i64 0)] (some 34)
abbrev SInv (σ0 : AS) (l d : Nat) (Y : Objs) (t2 t3 : Nat) (x : Bool) (Q : Except Nat (Bytes × BSet)) : Nat → List AV → AS → Prop := Inv (fun a : Bool × Bytes × BSet => [AV.addr l 0, .addr t2 0, .addr t3 0, .pv (.bool x), .pv (.bool a.1)]) (fun a _ => a.2.1.length)
  (fun a τ => RdAt σ0 τ l a.2.1 d ((t3, .cells (cellsB a.2.2) (some 83)) :: (t2, ere0) :: Y) ∧ a.2.1.length ≤ 80000 ∧ ∃ n, a.2.1.length < n ∧ Q = setL n a.1 a.2.1 a.2.2)
theorem bld_set {x : Bytes} {K : AV → Prop} : buildD PS 34 [(0, .pv (.str [115, 101, 116])), (1, .pv (.str x))] K = K (.agg [.pv (.str eSet), .pv (.str x), .nilS, .pv (.int .i64 0), .pv (.int .i64 0)]) := by
  simp [buildD, buildFill, go_sem, AV.cells, AV.cellOk, setAll, eSet]
theorem T_eSet_ok (h1 : env 48 = T_eTake) (h2 : env 75 = T_eItem) (h3 : env 76 = T_ePut) (h4 : env 68 = T_eText) (h : T_eSet args σ K X) : bodyD PS env an67 Try.f67 args σ K X := by
  obtain ⟨σ0, l, s, d, Y, rfl, hR, hlen, hK⟩ := h
  rw [← S67_eq env, S67]
  simp only [lock_eq]
  refine alloc_of T.zo34 rfl ?_
  intro t2 ht2
  have hS1 := Sep.alloc hR ht2 ere0
  refine alloc_of zoSet (by unfold cellsB; simp [AV.cellOk]) ?_
  intro t3 ht3
  have hS2 := hS1.alloc ht3 (.cells (cellsB noB) (some 83))
  have hR2 : RdAt σ0 ((σ.set t2 ere0).set t3 (.cells (cellsB noB) (some 83))) l s d ((t3, .cells (cellsB noB) (some 83)) :: (t2, ere0) :: Y) :=
    Sep.perm hS2 ((List.Perm.cons _ (List.Perm.swap _ _ _)).trans (List.Perm.swap _ _ _))
  refine take_call' h1 hR2 ?_
  intro σ3 hR3
  have e1 : ([94] : Bytes).length = 1 := rfl
  rw [e1] at hR3
  unfold setE at hK
  generalize hx : Lib.hasPrefix s [94] = x at hK hR3 ⊢
  generalize hs' : (if x = true then s.drop 1 else s) = s1 at hK hR3
  have hs1 : s1.length ≤ s.length := by
    rw [← hs']; split
    · rw [List.length_drop]; omega
    · exact Nat.le_refl _
  generalize hQ : setL (s.length + 1) true s1 noB = Q at hK
  simp only [go_sem]
  refine lp67_4 (fun (a : Bool × Bytes × BSet) _ => a.2.1.length) (fun a τ => RdAt σ0 τ l a.2.1 d ((t3, .cells (cellsB a.2.2) (some 83)) :: (t2, ere0) :: Y) ∧ a.2.1.length ≤ 80000 ∧ ∃ n, a.2.1.length < n ∧ Q = setL n a.1 a.2.1 a.2.2) (fun a => .pv (.bool a.1)) (true, s1, noB) ⟨hR3, by simp only; omega, s.length + 1, by simp only; omega, hQ.symm⟩ ?_
  clear hQ hx hR3 hs' hs1 hR2 hS2 hS1 hR
  rintro ⟨first, s, B⟩ τ ⟨hR, hlen, n, hn, hq⟩
  simp only at hR hlen hn hq
  obtain ⟨n, rfl⟩ : ∃ m, n = m + 1 := ⟨n - 1, by omega⟩
  rw [setL] at hq
  have fault : ∀ (τ' : AS), σ0.sub τ' → Q = .error 2 → X (faultV 2) τ' := by
    intro τ' hs he
    rw [he] at hK
    exact hK τ' hs
  have round : ∀ (τ' : AS) (f' : Bool) (s' : Bytes) (B' : BSet), RdAt σ0 τ' l s' d ((t3, .cells (cellsB B') (some 83)) :: (t2, ere0) :: Y) → s'.length < s.length → Q = setL n false s' B' → ∃ m', m' < s.length ∧ SInv σ0 l d Y t2 t3 (!x) Q m' [.addr l 0, .addr t2 0, .addr t3 0, .pv (.bool (!x)), .pv (.bool false)] τ' := by
    intro τ' f' s' B' hR' hl' hq'
    exact back (false, s', B') rfl hl' ⟨hR', by simp only; omega, n, by simp only; omega, hq'⟩
  have j17 : ∀ (τ' : AS) (fr : Option UInt8) (to : UInt8) (s' : Bytes) (B' : BSet), RdAt σ0 τ' l s' d ((t3, .cells (cellsB B') (some 83)) :: (t2, ere0) :: Y) → s'.length < s.length → Q = (match fr with | none => setL n false s' B' | some c => setL n false s' (putB B' c.toNat to.toNat)) → ∀ c0 : UInt8, (∀ c, fr = some c → c = c0) → J67_17 env (SInv σ0 l d Y t2 t3 (!x) Q) s.length (.addr l 0) (.addr t2 0) (.addr t3 0) (.pv (.bool (!x))) (.pv (.int .u8 c0.toNat)) (.pv (.bool fr.isSome)) (.pv (.int .u8 to.toNat)) τ' K X := by
    intro τ' fr to s' B' hR' hl' hq' c0 hc0
    unfold J67_17
    cases fr with
    | none =>
      simp only [go_sem, Option.isSome_none, Bool.false_eq_true, if_false]
      exact round τ' false s' B' hR' hl' hq'
    | some c =>
      simp only [go_sem, Option.isSome_some, if_true]
      obtain rfl := hc0 c rfl
      rw [h3]
      refine ⟨σ0, t3, B', _, _, c, to, rfl, Sep.perm hR' (List.Perm.swap _ _ _), ?_⟩
      intro τ2 hS2
      exact round τ2 false s' _ (Sep.perm hS2 (List.Perm.swap _ _ _)) hl' hq'
  have j6 : ∀ (τ : AS), RdAt σ0 τ l s d ((t3, .cells (cellsB B) (some 83)) :: (t2, ere0) :: Y) → ¬ (first = false ∧ Lib.hasPrefix s [93] = true) → J67_6 env (SInv σ0 l d Y t2 t3 (!x) Q) s.length (.addr l 0) (.addr t2 0) (.addr t3 0) (.pv (.bool (!x))) τ K X := by
    intro τ hR hno
    rw [if_neg hno] at hq
    have hl := hR.get
    unfold J67_6
    simp (disch := omega) only [lock_eq, go_sem, hl, ldM_cells, List.getElem?_cons_zero, someEx, beq_iff_eq]
    refine iteI (fun g1 => ?_) (fun g1 => ?_)
    · rw [if_pos g1] at hq
      exact fault_go (fault τ hR.sub hq)
    rw [if_neg g1] at hq
    unfold J67_8
    rw [h2]
    refine ⟨σ0, l, s, d, t3, B, _, _, rfl, hR, g1, by omega, ?_⟩
    cases hi : itemE s B with
    | error m =>
      rw [hi] at hq
      simp only at hq
      rw [hq] at hK
      exact err_go hK
    | ok q =>
      obtain ⟨fr, s1, B1⟩ := q
      rw [hi] at hq
      simp only at hq
      have hl1 := itemE_len g1 hi
      intro τ1 hR1
      simp only at hR1
      have hg1 := hR1.get
      obtain ⟨c0, hc0, hv⟩ : ∃ c0 : UInt8, (∀ c, fr = some c → c = c0) ∧ itemV fr = .tuple [.pv (.int .u8 c0.toNat), .pv (.bool fr.isSome)] := by
        cases fr with
        | none => exact ⟨0, (fun c h => by cases h), rfl⟩
        | some c => exact ⟨c, (fun c' h => by cases h; rfl), rfl⟩
      have j11 : ∀ bb : Bool, (bb = true ↔ (1 < s1.length ∧ (s1.getD 0 0).toNat = 45 ∧ (s1.getD 1 0).toNat ≠ 93)) → J67_11 env (SInv σ0 l d Y t2 t3 (!x) Q) s.length (.addr l 0) (.addr t2 0) (.addr t3 0) (.pv (.bool (!x))) (.pv (.int .u8 c0.toNat)) (.pv (.bool fr.isSome)) (.pv (.int .u8 c0.toNat)) (.pv (.bool bb)) τ1 K X := by
        intro bb hbb
        unfold J67_11
        simp only [lock_eq, cond_bool]
        refine iteI (fun g2 => ?_) (fun g2 => ?_)
        · have g3 := hbb.1 g2
          rw [if_pos g3] at hq
          have s1d : ∀ (K : AV → Prop), sliceD PS 9 (.pv (.str s1)) (some (.pv (.int .i64 1))) none K = K (.pv (.str (s1.drop 1))) := fun K => T.ss9 (i := 1) (by omega)
          simp (disch := omega) only [lock_eq, go_sem, hg1, ldM_cells, stM_cells, List.getElem?_cons_zero, someEx, s1d, List.set_cons_zero]
          refine ⟨by simp, ?_⟩
          have hR2 := hR1.put (s1.drop 1)
          generalize (τ1.set l (.cells [.pv (.str (s1.drop 1)), .pv (.int .i64 (d : Nat))] none)) = τ2 at hR2 ⊢
          cases fr with
          | none =>
            simp only [Option.isSome_none, Bool.false_eq_true, if_false]
            unfold J67_15
            simp only [lock_eq, go_sem, Bool.not_false, if_true]
            exact fault_go (fault _ hR2.sub hq)
          | some c =>
            obtain rfl := hc0 c rfl
            simp only [Option.isSome_some, if_true]
            refine bset_box ?_
            intro t5 ht5
            have hS3 := Sep.alloc hR2 ht5 (.cells (cellsB noB) none)
            have hR3 : RdAt σ0 _ l (s1.drop 1) d ((t5, .cells (cellsB noB) none) :: (t3, .cells (cellsB B1) (some 83)) :: (t2, ere0) :: Y) := Sep.perm hS3 (List.Perm.swap _ _ _)
            have hne2 : s1.drop 1 ≠ [] := by
              intro e; have := congrArg List.length e; rw [List.length_drop] at this; simp at this; omega
            rw [h2]
            refine ⟨σ0, l, s1.drop 1, d, t5, noB, none, _, rfl, hR3, hne2, by rw [List.length_drop]; omega, ?_⟩
            cases hi2 : itemE (s1.drop 1) noB with
            | error m =>
              rw [hi2] at hq
              simp only at hq
              rw [hq] at hK
              exact err_go hK
            | ok q2 =>
              obtain ⟨to, s3, B3⟩ := q2
              rw [hi2] at hq
              have hl3 := itemE_len hne2 hi2
              rw [List.length_drop] at hl3
              intro τ4 hR4
              have hR5 : RdAt σ0 τ4 l s3 d ((t3, .cells (cellsB B1) (some 83)) :: (t2, ere0) :: Y) := Sep.sublist hR4 (List.Sublist.cons_cons _ (List.sublist_cons_self _ _))
              cases to with
              | none =>
                simp only [itemV, lock_eq, ext_tuple, List.getElem?_cons_zero, List.getElem?_cons_succ, someEx]
                unfold J67_15
                simp only [lock_eq, go_sem, Bool.not_true, Bool.not_false, Bool.false_eq_true, if_false, if_true]
                exact fault_go (fault _ hR5.sub hq)
              | some t =>
                simp only at hq
                simp only [itemV, lock_eq, ext_tuple, List.getElem?_cons_zero, List.getElem?_cons_succ, someEx]
                unfold J67_15
                simp only [lock_eq, go_sem, Bool.not_true, Bool.false_eq_true, if_false]
                refine iteI (fun g4 => ?_) (fun g4 => ?_)
                · rw [if_pos g4] at hq
                  exact fault_go (fault _ hR5.sub hq)
                · rw [if_neg g4] at hq
                  exact j17 τ4 (some c) t s3 B1 hR5 (by omega) hq c (fun c' h => by cases h; rfl)
        · rw [if_neg (fun h => g2 (hbb.2 h))] at hq
          refine j17 τ1 fr c0 s1 B1 hR1 hl1 ?_ c0 hc0
          cases fr with
          | none => exact hq
          | some c => obtain rfl := hc0 c rfl; exact hq
      rw [hv]
      simp (disch := omega) only [lock_eq, ext_tuple, List.getElem?_cons_zero, List.getElem?_cons_succ, someEx, go_sem, hg1, ldM_cells]
      refine iteI (fun g2 => ?_) (fun g2 => j11 _ (fIff (fun h => g2 h.1)))
      have i0 : ∀ (K : AV → Prop), indexD PS 9 (.pv (.str s1)) (.pv (.int .i64 0)) K = K (.pv (.int .u8 (s1.getD 0 0).toNat)) := fun K => T.is9 (i := 0) (by omega)
      have i1 : ∀ (K : AV → Prop), indexD PS 9 (.pv (.str s1)) (.pv (.int .i64 1)) K = K (.pv (.int .u8 (s1.getD 1 0).toNat)) := fun K => T.is9 (i := 1) (by omega)
      simp (disch := omega) only [i0, i1, go_sem, beq_iff_eq]
      refine iteI (fun g3 => ?_) (fun g3 => j11 _ (fIff (fun h => g3 h.2.1)))
      refine j11 _ ?_
      rw [bne, Bool.not_eq_true', beq_eq_false_iff_ne]
      exact ⟨fun h => ⟨g2, g3, by omega⟩, fun h => by have := h.2.2; omega⟩
  have j19 : ∀ (τ : AS), RdAt σ0 τ l (s.drop 1) d ((t3, .cells (cellsB B) (some 83)) :: (t2, ere0) :: Y) → Q = .ok (s.drop 1, B) → J67_19 env (.addr t2 0) (.addr t3 0) (.pv (.bool (!x))) τ K X := by
    intro τ hR hq
    rw [hq] at hK
    unfold J67_19
    rw [h4]
    refine ⟨t3, B, some 83, !x, rfl, Sep.get hR (by simp), ?_⟩
    intro τ2 hs2
    have hR2 : RdAt σ0 τ2 l (s.drop 1) d _ := sepUp hR hs2
    have hg : τ2 t2 = some ere0 := Sep.get hR2 (by simp)
    unfold ere0 at hg
    simp only [lock_eq, bld_set]
    rw [storeD]
    simp only [hg]
    refine ⟨T.hT34, by rw [T.sz34]; rfl, rfl, by simp [AV.cells], ?_⟩
    have hcs : setAll [.pv (.str []), .pv (.str []), .nilS, .pv (.int .i64 0), .pv (.int .i64 0)] 0 (AV.cells (.agg [.pv (.str eSet), .pv (.str (textB B (!x))), .nilS, .pv (.int .i64 0), .pv (.int .i64 0)])) = [.pv (.str eSet), .pv (.str (textB B (!x))), .nilS, .pv (.int .i64 0), .pv (.int .i64 0)] := rfl
    rw [hcs]
    have hS3 : Sep σ0 _ ([_, _] ++ (t2, _) :: Y) := Sep.set (l1 := [_, _]) (l2 := Y) (i := t2) (o := ere0) hR2 (.cells [.pv (.str eSet), .pv (.str (textB B (!x))), .nilS, .pv (.int .i64 0), .pv (.int .i64 0)] (some 34))
    have hg3 := hS3.get (i := t2) (o := .cells [.pv (.str eSet), .pv (.str (textB B (!x))), .nilS, .pv (.int .i64 0), .pv (.int .i64 0)] (some 34)) (by simp)
    rw [load_addrA T.hT34 T.ag34 hg3, T.sz34]
    refine ⟨by simp, ?_⟩
    have hR4 : RdAt σ0 _ l (s.drop 1) d Y := Sep.sublist hS3 (List.Sublist.cons_cons _ ((List.sublist_cons_self _ _).trans (List.sublist_cons_self _ _)))
    have hk := hK _ hR4
    refine ⟨ereAV (.mk eSet (textB B (!x)) [] 0 0), _, .inr ?_, sub_refl _, hk⟩
    show wkL [.pv (.str eSet), .pv (.str (textB B (!x))), .nilS, .pv (.int .i64 0), .pv (.int .i64 0)] _
    exact wkS (wkS (wkP (p := .lst 0 []) rfl (wkS (wkS wkN))))
  unfold L67_4
  simp (disch := omega) only [lock_eq, go_sem]
  cases first with
  | true =>
    simp only [if_true]
    exact j6 τ hR (fun h => by cases h.1)
  | false =>
    simp only [Bool.false_eq_true, if_false]
    refine take_call' h1 hR ?_
    intro τ1 hR1
    have e3 : ([93] : Bytes).length = 1 := rfl
    rw [e3] at hR1
    simp only [go_sem]
    by_cases g1 : Lib.hasPrefix s [93] = true
    · rw [if_pos g1] at hR1
      rw [if_pos ⟨rfl, g1⟩] at hq
      rw [if_neg (by rw [g1]; decide)]
      exact j19 τ1 hR1 hq
    · rw [if_neg g1] at hR1
      rw [if_pos (by simpa using g1)]
      exact j6 τ1 hR1 (fun h => g1 h.2)
end
end Go.AD.Lx

/- ere: counts, intervals, repeats. -/
set_option linter.unusedVariables false
set_option linter.unusedSimpArgs false
set_option maxRecDepth 100000
namespace Go.AD.Lx
open Go.Proofs RowKit
section
variable {env : Env} {args : List AV} {σ0 σ τ : AS} {K : AV → AS → Prop} {X : PV → AS → Prop} {l : Nat} {s : Bytes} {d : Nat} {Y : Objs}
def digits9 (t : Bytes) : Prop := ∀ i, i < t.length → 48 ≤ (t.getD i 0).toNat ∧ (t.getD i 0).toNat ≤ 57
theorem dig_take (s : Bytes) (m : Nat) : digits9 (s.take (digN 57 m s)) := by
  intro i hi
  have hk : digN 57 m s ≤ spanL (upB 57) s := Nat.min_le_left _ _
  rw [List.length_take] at hi
  rw [take_getD (by omega)]
  have := span_every (p := upB 57) (s := s) (i := i) (by omega)
  unfold upB at this
  rw [Bool.and_eq_true] at this
  exact ⟨of_decide_eq_true this.1, of_decide_eq_true this.2⟩
def T_eCount : Tr := fun args σ K X => ∃ t : Bytes, args = [.pv (.str t)] ∧ t.length ≤ 100000 ∧ digits9 t ∧ okX (countL t 0) (fun n => ∀ σ', σ.sub σ' → K (.pv (.int .i64 (n : Nat))) σ') (fun n => ∀ σ', σ.sub σ' → X (faultV n) σ')
theorem T_eCount_ok (h : T_eCount args σ K X) : bodyD PS env an74 Try.f74 args σ K X := by
  obtain ⟨x, rfl, hlen, hdig, hK⟩ := h
  rw [← S74_eq env, S74]
  simp only [lock_eq]
  refine bytes_go (by omega) ?_
  intro id σ2 hs2
  simp only [T.lng50]
  refine lp74_3 (fun (a : Nat × Nat) _ => x.length - a.1) (fun a τ => τ = σ2 ∧ a.1 ≤ x.length ∧ a.2 ≤ 255 ∧ countL x 0 = countL (x.drop a.1) a.2) (fun a => .pv (.int .i64 ((a.2 : Nat) : Int))) (fun a => .pv (.int .i64 ((a.1 : Nat) : Int))) (0, 0) ⟨rfl, Nat.zero_le _, Nat.zero_le _, rfl⟩ ?_
  rintro ⟨i, n⟩ τ ⟨rfl, hi, hn, ho⟩
  simp only at hi hn ho
  unfold L74_3
  simp (disch := omega) only [lock_eq, go_sem]
  refine iteI (fun g3 => ?_) (fun g3 => ?_)
  · obtain ⟨d1, d2⟩ := hdig i (by omega)
    have hcc := pvBytes_get x i g3
    rw [drop_consD (d := 0) g3, countL] at ho
    generalize x.getD i 0 = c at hcc ho d1 d2
    have hwr : IntKind.wrap .u8 ((c.toNat : Int) - 48) = ((c.toNat - 48 : Nat) : Int) := by
      rw [wrapU8 (by omega) (by omega)]; omega
    have hcv : ∀ (K : AV → Prop), convD PS τ 5 3 (.pv (.int .u8 ((c.toNat - 48 : Nat) : Int))) K = K (.pv (.int .i64 ((c.toNat - 48 : Nat) : Int))) := by
      intro K
      have e : c.toNat - 48 = (UInt8.ofNat (c.toNat - 48)).toNat := by
        have hc := u8lt c
        simp; omega
      rw [e]
      exact conv_int
    simp (disch := omega) only [ixg g3, T.le5, hcc, someEx, go_sem, hwr, hcv]
    refine iteI (fun g4 => ?_) (fun g4 => ?_)
    · rw [if_pos g4] at ho
      rw [ho] at hK
      exact fault_go (n := 3) (hK τ hs2)
    · rw [if_neg g4] at ho
      exact back (i + 1, n * 10 + (c.toNat - 48)) rfl (by simp only; omega) ⟨rfl, g3, by simp only; omega, ho⟩
  · rw [List.drop_eq_nil_of_le (by omega), countL] at ho
    rw [ho] at hK
    exact retV_self (hK τ hs2)
theorem count_call (h : env 74 = T_eCount) {t : Bytes} (hl : t.length ≤ 100000) (hd : digits9 t) (hK : okX (countL t 0) (fun n => ∀ σ', σ.sub σ' → K (.pv (.int .i64 (n : Nat))) σ') (fun n => ∀ σ', σ.sub σ' → X (faultV n) σ')) : env 74 [.pv (.str t)] σ K X := by
  rw [h]; exact ⟨t, rfl, hl, hd, hK⟩
def T_eInterval : Tr := fun args σ K X => ∃ (σ0 : AS) (l : Nat) (s : Bytes) (d : Nat) (Y : Objs), args = [.addr l 0] ∧ RdAt σ0 σ l s d Y ∧ s.length ≤ 80000 ∧ okX (intervalE s) (fun r => ∀ σ', RdAt σ0 σ' l r.2 d Y → K (.tuple [.pv (.int .i64 r.1.1), .pv (.int .i64 r.1.2)]) σ') (fun n => ∀ σ', σ0.sub σ' → X (faultV n) σ')
theorem T_eInterval_ok (h1 : env 48 = T_eTake) (h2 : env 73 = T_eDigits) (h3 : env 74 = T_eCount) (h : T_eInterval args σ K X) : bodyD PS env an65 Try.f65 args σ K X := by
  obtain ⟨σ0, l, s, d, Y, rfl, hR, hlen, hK⟩ := h
  rw [← S65_eq env, S65]
  have hl := hR.get
  simp (disch := omega) only [lock_eq, go_sem, hl, ldM_cells, List.getElem?_cons_zero, someEx]
  rw [h2]
  refine ⟨σ0, l, s, d, Y, 57, s.length, rfl, hR, by omega, ?_⟩
  intro σ1 hR1
  unfold intervalE at hK
  have hda := dig_take s s.length
  have hla : (s.take (digN 57 s.length s)).length ≤ s.length := by rw [List.length_take]; omega
  have hlb : (s.drop (digN 57 s.length s)).length ≤ s.length := by rw [List.length_drop]; omega
  generalize s.take (digN 57 s.length s) = lo at hK hda hla ⊢
  generalize s.drop (digN 57 s.length s) = s1 at hK hR1 hlb
  have j5 : ∀ (σ2 : AS) (to s3 : Bytes), RdAt σ0 σ2 l s3 d Y → digits9 to → to.length ≤ 100000 → okX (ivEnd lo to s3) (fun r => ∀ σ', RdAt σ0 σ' l r.2 d Y → K (.tuple [.pv (.int .i64 r.1.1), .pv (.int .i64 r.1.2)]) σ') (fun n => ∀ σ', σ0.sub σ' → X (faultV n) σ') → J65_5 env (.addr l 0) (.pv (.str lo)) (.pv (.str to)) σ2 K X := by
    intro σ2 to s3 hR2 hdt hlt hK
    unfold J65_5
    refine take_call' h1 hR2 ?_
    intro σ3 hR3
    have e1 : ([125] : Bytes).length = 1 := rfl
    rw [e1] at hR3
    unfold ivEnd at hK
    refine count_call h3 (by omega) hda ?_
    cases ha : countL lo 0 with
    | error n =>
      rw [ha] at hK
      exact fun σ' hs => ⟨σ', sub_refl _, hK σ' (AS.sub_trans hR3.sub hs)⟩
    | ok a =>
      rw [ha] at hK
      intro σ4 hs4
      have hR4 : RdAt σ0 σ4 l _ d Y := sepUp hR3 hs4
      have j9 : ∀ (σ5 : AS) (h : Int), RdAt σ0 σ5 l (if Lib.hasPrefix s3 [125] = true then s3.drop 1 else s3) d Y → okX (if Lib.hasPrefix s3 [125] = true ∧ ¬ (0 ≤ h ∧ h < (a : Int)) then .ok ((((a : Nat) : Int), h), s3.drop 1) else .error 3 : Except Nat ((Int × Int) × Bytes)) (fun r => ∀ σ', RdAt σ0 σ' l r.2 d Y → K (.tuple [.pv (.int .i64 r.1.1), .pv (.int .i64 r.1.2)]) σ') (fun n => ∀ σ', σ0.sub σ' → X (faultV n) σ') → J65_9 env (.pv (.bool (Lib.hasPrefix s3 [125]))) (.pv (.int .i64 (a : Nat))) (.pv (.int .i64 h)) σ5 K X := by
        intro σ5 h hR5 hK
        unfold J65_9
        have bad : (¬ (Lib.hasPrefix s3 [125] = true ∧ ¬ (0 ≤ h ∧ h < (a : Int)))) → X (faultV 3) σ5 := by
          intro hn
          rw [if_neg hn] at hK
          exact hK σ5 hR5.sub
        simp (disch := omega) only [lock_eq, go_sem]
        cases hc : Lib.hasPrefix s3 [125] with
        | false =>
          simp only [Bool.not_false, if_true]
          exact fault_go (n := 3) (bad (fun h => by rw [hc] at h; cases h.1))
        | true =>
          rw [hc] at hR5 hK
          simp only [if_true] at hR5
          simp only [Bool.not_true, Bool.false_eq_true, if_false]
          have good : ¬ (0 ≤ h ∧ h < (a : Int)) → K (.tuple [.pv (.int .i64 (a : Nat)), .pv (.int .i64 h)]) σ5 := by
            intro hn
            rw [if_pos ⟨rfl, hn⟩] at hK
            exact hK σ5 hR5
          unfold J65_11
          refine iteI (fun g1 => ?_) (fun g1 => retV_self (good (fun h => g1 h.1)))
          refine iteI (fun g2 => ?_) (fun g2 => retV_self (good (fun h => g2 h.2)))
          exact fault_go (n := 3) (bad (fun h => h.2 ⟨g1, g2⟩))
      unfold ivHi at hK
      simp only [lock_eq, go_sem, bne, Bool.not_eq_true', beq_eq_false_iff_ne, ne_eq]
      refine iteI (fun g1 => ?_) (fun g1 => ?_)
      · rw [if_neg g1] at hK
        refine count_call h3 hlt hdt ?_
        cases hh : countL to 0 with
        | error n =>
          rw [hh] at hK
          exact fun σ' hs => ⟨σ', sub_refl _, hK σ' (AS.sub_trans hR4.sub hs)⟩
        | ok hv =>
          rw [hh] at hK
          exact fun σ5 hs5 => j9 σ5 _ (sepUp hR4 hs5) hK
      · have g1 : to = [] := by
          by_cases h : to = []
          · exact h
          · exact absurd h g1
        rw [if_pos g1] at hK
        exact j9 σ4 (-1) hR4 hK
  refine take_call' h1 hR1 ?_
  intro σ2 hR2
  have e1 : ([44] : Bytes).length = 1 := rfl
  rw [e1] at hR2
  simp only [go_sem]
  refine iteI (fun g1 => ?_) (fun g1 => ?_)
  · rw [if_pos g1] at hR2 hK
    have hl2 := hR2.get
    have hd1 : (s1.drop 1).length ≤ s1.length := by rw [List.length_drop]; omega
    simp (disch := omega) only [go_sem, hl2, ldM_cells, List.getElem?_cons_zero, someEx]
    refine ⟨σ0, l, _, d, Y, 57, (s1.drop 1).length, rfl, hR2, by omega, ?_⟩
    intro σ3 hR3
    exact j5 σ3 _ _ hR3 (dig_take _ _) (by rw [List.length_take]; omega) hK
  · rw [if_neg g1] at hR2 hK
    exact j5 σ2 lo s1 hR2 hda (by omega) hK
def repV : Option (Int × Int) → AV
  | none => .tuple [.pv (.int .i64 0), .pv (.int .i64 0), .pv (.bool false)]
  | some (a, b) => .tuple [.pv (.int .i64 a), .pv (.int .i64 b), .pv (.bool true)]
def T_eRepeat : Tr := fun args σ K X => ∃ (σ0 : AS) (l : Nat) (s : Bytes) (d : Nat) (Y : Objs), args = [.addr l 0] ∧ RdAt σ0 σ l s d Y ∧ s.length ≤ 80000 ∧ okX (repE s) (fun r => ∀ σ', RdAt σ0 σ' l r.2 d Y → K (repV r.1) σ') (fun n => ∀ σ', σ0.sub σ' → X (faultV n) σ')
theorem T_eRepeat_ok (h1 : env 48 = T_eTake) (h2 : env 65 = T_eInterval) (h : T_eRepeat args σ K X) : bodyD PS env an59 Try.f59 args σ K X := by
  obtain ⟨σ0, l, s, d, Y, rfl, hR, hlen, hK⟩ := h
  rw [← S59_eq env, S59]
  unfold repE at hK
  refine take_call' h1 hR ?_
  intro σ1 hR1
  have e1 : ([42] : Bytes).length = 1 := rfl
  rw [e1] at hR1
  simp only [lock_eq, go_sem]
  refine iteI (fun g1 => ?_) (fun g1 => ?_)
  · rw [if_pos g1] at hR1 hK
    exact retV_self (hK _ hR1)
  rw [if_neg g1] at hR1 hK
  refine take_call' h1 hR1 ?_
  intro σ2 hR2
  have e2 : ([43] : Bytes).length = 1 := rfl
  rw [e2] at hR2
  simp only [go_sem]
  refine iteI (fun g2 => ?_) (fun g2 => ?_)
  · rw [if_pos g2] at hR2 hK
    exact retV_self (hK _ hR2)
  rw [if_neg g2] at hR2 hK
  refine take_call' h1 hR2 ?_
  intro σ3 hR3
  have e3 : ([63] : Bytes).length = 1 := rfl
  rw [e3] at hR3
  simp only [go_sem]
  refine iteI (fun g3 => ?_) (fun g3 => ?_)
  · rw [if_pos g3] at hR3 hK
    exact retV_self (hK _ hR3)
  rw [if_neg g3] at hR3 hK
  have hl := hR3.get
  have j8 : ∀ bb : Bool, (bb = true ↔ (1 < s.length ∧ (s.getD 0 0).toNat = 123 ∧ digitB (s.getD 1 0) = true)) → J59_8 env (.addr l 0) (.pv (.bool bb)) σ3 K X := by
    intro bb hbb
    unfold J59_8
    simp only [lock_eq, cond_bool]
    refine iteI (fun g4 => ?_) (fun g4 => ?_)
    · have g5 := hbb.1 g4
      rw [if_pos g5] at hK
      have s1 : ∀ (K : AV → Prop), sliceD PS 9 (.pv (.str s)) (some (.pv (.int .i64 1))) none K = K (.pv (.str (s.drop 1))) := fun K => T.ss9 (i := 1) (by omega)
      simp (disch := omega) only [go_sem, hl, ldM_cells, stM_cells, List.getElem?_cons_zero, someEx, s1, List.set_cons_zero]
      refine ⟨by simp, ?_⟩
      rw [h2]
      refine ⟨σ0, l, _, d, Y, rfl, hR3.put _, by rw [List.length_drop]; omega, ?_⟩
      cases hi : intervalE (s.drop 1) with
      | error n => rw [hi] at hK; exact err_go hK
      | ok q =>
        obtain ⟨⟨a, b⟩, r⟩ := q
        rw [hi] at hK
        intro σ' hR'
        simp only [ext_tuple, List.getElem?_cons_zero, List.getElem?_cons_succ, someEx]
        exact retV_self (hK σ' hR')
    · rw [if_neg (fun h => g4 (hbb.2 h))] at hK
      exact retV_self (hK _ hR3)
  simp (disch := omega) only [go_sem, hl, ldM_cells, List.getElem?_cons_zero, someEx]
  refine iteI (fun g4 => ?_) (fun g4 => j8 _ (fIff (fun h => g4 h.1)))
  have i0 : ∀ (K : AV → Prop), indexD PS 9 (.pv (.str s)) (.pv (.int .i64 0)) K = K (.pv (.int .u8 (s.getD 0 0).toNat)) := fun K => T.is9 (i := 0) (by omega)
  have i1 : ∀ (K : AV → Prop), indexD PS 9 (.pv (.str s)) (.pv (.int .i64 1)) K = K (.pv (.int .u8 (s.getD 1 0).toNat)) := fun K => T.is9 (i := 1) (by omega)
  simp (disch := omega) only [i0, i1, go_sem, beq_iff_eq]
  refine iteI (fun g5 => ?_) (fun g5 => j8 _ (fIff (fun h => g5 h.2.1)))
  refine iteI (fun g6 => ?_) (fun g6 => j8 _ (fIff (fun h => by have := h.2.2; unfold digitB at this; rw [decide_eq_false g6, Bool.false_and] at this; cases this)))
  refine j8 _ ?_
  unfold digitB
  rw [decide_eq_true g6, Bool.true_and]
  exact ⟨fun h => ⟨g4, g5, h⟩, fun h => h.2.2⟩
end
end Go.AD.Lx
