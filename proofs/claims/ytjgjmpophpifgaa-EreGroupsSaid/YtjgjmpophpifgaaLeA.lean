import Derived.Test.YtjgjmpophpifgaaLe7
/- ere: pieces, branches; the parser's recursion. -/
set_option linter.unusedVariables false
set_option linter.unusedSimpArgs false
set_option maxRecDepth 100000
namespace Go.AD.Lx
open Go.Proofs RowKit
/-! ### lengths -/
theorem setL_len : ∀ (f : Nat) (first : Bool) (s : Bytes) (b : BSet) (r : Bytes) (b' : BSet), setL f first s b = .ok (r, b') → r.length ≤ s.length
  | 0, _, _, _, _, _, h => by cases h
  | f + 1, first, s, b, r, b', h => by
    rw [setL] at h
    split at h
    · simp only [Except.ok.injEq, Prod.mk.injEq] at h
      rw [← h.1, List.length_drop]; omega
    split at h
    · cases h
    rename_i hne
    split at h
    · cases h
    rename_i fr s1 b1 hi
    have h1 := itemE_len hne hi
    split at h
    · split at h
      · cases h
      rename_i hc c
      have hne2 : s1.drop 1 ≠ [] := by
        intro e; have := congrArg List.length e; rw [List.length_drop] at this; simp at this; omega
      split at h
      · cases h
      · cases h
      · rename_i t s2 b2 hi2
        have h2 := itemE_len hne2 hi2
        rw [List.length_drop] at h2
        split at h
        · cases h
        · have := setL_len f _ _ _ _ _ h
          omega
    · split at h
      · have := setL_len f _ _ _ _ _ h; omega
      · have := setL_len f _ _ _ _ _ h; omega
theorem setE_len {s r : Bytes} {e : ETree} (h : setE s = .ok (e, r)) : r.length ≤ s.length := by
  unfold setE at h
  split at h
  · cases h
  · rename_i r' b' hs
    have := setL_len _ _ _ _ _ _ hs
    simp only [Except.ok.injEq, Prod.mk.injEq] at h
    rw [← h.2]
    split at this
    · rw [List.length_drop] at this; omega
    · exact this
theorem ivEnd_len {lo to s : Bytes} {x : Int × Int} {r : Bytes} (h : ivEnd lo to s = .ok (x, r)) : r.length ≤ s.length := by
  unfold ivEnd at h
  split at h
  · cases h
  split at h
  · cases h
  split at h
  · simp only [Except.ok.injEq, Prod.mk.injEq] at h
    rw [← h.2, List.length_drop]; omega
  · cases h
theorem intervalE_len {s : Bytes} {x : Int × Int} {r : Bytes} (h : intervalE s = .ok (x, r)) : r.length ≤ s.length := by
  unfold intervalE at h
  split at h
  · have := ivEnd_len h
    simp only [List.length_drop] at this; omega
  · have := ivEnd_len h
    simp only [List.length_drop] at this; omega
theorem repE_len {s : Bytes} {o : Option (Int × Int)} {r : Bytes} (h : repE s = .ok (o, r)) : (o = none ∧ r = s) ∨ (o ≠ none ∧ r.length < s.length) := by
  unfold repE at h
  split at h
  · rename_i h1
    have := hasP_len h1
    simp only [List.length_cons, List.length_nil] at this
    simp only [Except.ok.injEq, Prod.mk.injEq] at h
    exact .inr ⟨by rw [← h.1]; simp, by rw [← h.2, List.length_drop]; omega⟩
  split at h
  · rename_i h1
    have := hasP_len h1
    simp only [List.length_cons, List.length_nil] at this
    simp only [Except.ok.injEq, Prod.mk.injEq] at h
    exact .inr ⟨by rw [← h.1]; simp, by rw [← h.2, List.length_drop]; omega⟩
  split at h
  · rename_i h1
    have := hasP_len h1
    simp only [List.length_cons, List.length_nil] at this
    simp only [Except.ok.injEq, Prod.mk.injEq] at h
    exact .inr ⟨by rw [← h.1]; simp, by rw [← h.2, List.length_drop]; omega⟩
  split at h
  · rename_i hc
    split at h
    · cases h
    · rename_i hi
      have := intervalE_len hi
      rw [List.length_drop] at this
      simp only [Except.ok.injEq, Prod.mk.injEq] at h
      exact .inr ⟨by rw [← h.1]; simp, by rw [← h.2]; omega⟩
  · simp only [Except.ok.injEq, Prod.mk.injEq] at h
    exact .inl ⟨h.1.symm, h.2.symm⟩
theorem repsE_len : ∀ (f : Nat) (s : Bytes) (e e' : ETree) (r : Bytes), repsE f s e = .ok (e', r) → r.length ≤ s.length
  | 0, _, _, _, _, h => by cases h
  | f + 1, s, e, e', r, h => by
    rw [repsE] at h
    split at h
    · cases h
    · rename_i hr
      simp only [Except.ok.injEq, Prod.mk.injEq] at h
      rcases repE_len hr with ⟨_, h1⟩ | ⟨h1, _⟩
      · rw [← h.2, h1]
        exact Nat.le_refl _
      · exact absurd rfl h1
    · rename_i hr
      have h2 := repsE_len f _ _ _ _ h
      rcases repE_len hr with ⟨h1, _⟩ | ⟨_, h1⟩
      · cases h1
      · omega
theorem parse_len : ∀ f : Nat, (∀ d s e r, s ≠ [] → atomE f d s = .ok (e, r) → r.length < s.length) ∧ (∀ d s l e r, piecesE f d s l = .ok (e, r) → r.length ≤ s.length) ∧ (∀ d s e r, branchesE f d s = .ok (e, r) → r.length ≤ s.length) ∧ (∀ d s l e r, altsE f d s l = .ok (e, r) → r.length ≤ s.length)
  | 0 => ⟨(fun _ _ _ _ _ h => by rw [atomE] at h; cases h), (fun _ _ _ _ _ h => by rw [piecesE] at h; cases h), (fun _ _ _ _ h => by rw [branchesE] at h; cases h), (fun _ _ _ _ _ h => by rw [altsE] at h; cases h)⟩
  | f + 1 => by
    obtain ⟨ha, hp, hb, hal⟩ := parse_len f
    refine ⟨fun d s e r hne h => ?_, fun d s l e r h => ?_, fun d s e r h => ?_, fun d s l e r h => ?_⟩
    · have hp0 : 0 < s.length := List.length_pos_iff.2 hne
      have hd1 : (s.drop 1).length = s.length - 1 := List.length_drop ..
      rw [atomE] at h
      split at h
      · split at h
        · cases h
        split at h
        · cases h
        · rename_i hbr
          have := hb _ _ _ _ hbr
          split at h
          · simp only [Except.ok.injEq, Prod.mk.injEq] at h
            rw [← h.2, List.length_drop]; omega
          · cases h
      split at h
      · have := setE_len h; omega
      split at h
      · simp only [Except.ok.injEq, Prod.mk.injEq] at h
        rw [← h.2]; omega
      split at h
      · simp only [Except.ok.injEq, Prod.mk.injEq] at h
        rw [← h.2]; omega
      split at h
      · simp only [Except.ok.injEq, Prod.mk.injEq] at h
        rw [← h.2]; omega
      split at h
      · split at h
        · cases h
        · rename_i he
          have := escE_len he
          simp only [Except.ok.injEq, Prod.mk.injEq] at h
          rw [← h.2]; omega
      · simp only [Except.ok.injEq, Prod.mk.injEq] at h
        rw [← h.2]; omega
    · rw [piecesE] at h
      split at h
      · simp only [Except.ok.injEq, Prod.mk.injEq] at h
        rw [← h.2]; exact Nat.le_refl _
      rename_i hc
      have hne : s ≠ [] := fun e => hc (.inl e)
      split at h
      · cases h
      · cases h
      split at h
      · cases h
      · rename_i hat
        have h1 := ha _ _ _ _ hne hat
        split at h
        · cases h
        · rename_i hre
          have h2 := repsE_len _ _ _ _ _ hre
          have h3 := hp _ _ _ _ _ h
          omega
    · rw [branchesE] at h
      split at h
      · cases h
      · rename_i hpi
        have h1 := hp _ _ _ _ _ hpi
        have h2 := hal _ _ _ _ _ h
        omega
    · rw [altsE] at h
      split at h
      · split at h
        · cases h
        · rename_i hpi
          have h1 := hp _ _ _ _ _ hpi
          have h2 := hal _ _ _ _ _ h
          rw [List.length_drop] at h1
          omega
      · simp only [Except.ok.injEq, Prod.mk.injEq] at h
        rw [← h.2]; exact Nat.le_refl _
end Go.AD.Lx

/- ere: pieces. -/
set_option linter.unusedVariables false
set_option linter.unusedSimpArgs false
set_option maxRecDepth 100000
namespace Go.AD.Lx
open Go.Proofs RowKit
section
variable {env : Env} {args : List AV} {σ0 σ τ : AS} {K : AV → AS → Prop} {X : PV → AS → Prop} {l : Nat} {s : Bytes} {d : Nat} {Y : Objs}
def T_ePieces (f : Nat) : Tr := fun args σ K X => ∃ (g : Nat) (σ0 : AS) (l : Nat) (s : Bytes) (d : Nat) (Y : Objs), g ≤ f ∧ args = [.addr l 0] ∧ RdAt σ0 σ l s d Y ∧ s.length ≤ 70000 ∧ d ≤ 199 ∧ 3 * s.length + 2 ≤ g ∧ treeX σ0 l d Y K X (piecesE g d s [])
theorem joined_call (h : env 49 = Tr.wk T_eJoined) {op : Bytes} {ls : List ETree} {v : AV} (hv : toPV v = some (.lst ls.length (flatE ls))) (hl : ls.length ≤ 1000000) (hK : ∀ σ', σ.sub σ' → K (ereAV (joinedE op ls)) σ') : env 49 [.pv (.str op), v] σ K X := by
  rw [h]
  exact Tr.wk_intro (wkS (wkP hv wkN)) ⟨op, ls, rfl, hl, hK⟩
theorem peek_call (h : env 58 = T_ePeek) (hR : RdAt σ0 σ l s d Y) (hK : K (.tuple [.pv (.int .u8 (s.getD 0 0).toNat), .pv (.bool (decide (s ≠ [])))]) σ) : env 58 [.addr l 0] σ K X := by
  rw [h]; exact ⟨σ0, l, s, d, Y, rfl, hR, hK⟩
theorem rep_call (h : env 59 = T_eRepeat) (hR : RdAt σ0 σ l s d Y) (hs : s.length ≤ 80000) (hK : okX (repE s) (fun r => ∀ σ', RdAt σ0 σ' l r.2 d Y → K (repV r.1) σ') (fun n => ∀ σ', σ0.sub σ' → X (faultV n) σ')) : env 59 [.addr l 0] σ K X := by
  rw [h]; exact ⟨σ0, l, s, d, Y, rfl, hR, hs, hK⟩
theorem row1_E {v : AV} {e : ETree} (h : EV v e) {K : AV → AS → Prop} : buildSliceD PS false σ 32 1 1 [(0, v)] K = K (.full 1 (ereCells e)) σ := by
  obtain ⟨cs, rfl, l1, c1, o1, p1⟩ := h.cells5
  rw [build1 (ys := ereCells e) rowTE T.hT34 (by rw [c1, T.sz34]; exact l1) (by rw [c1]; exact p1) (by rw [c1]; exact o1) (by rw [T.sz34]; decide)]
def repLo : Option (Int × Int) → Int
  | none => 0
  | some x => x.1
def repHi : Option (Int × Int) → Int
  | none => 0
  | some x => x.2
theorem repV_eq (o : Option (Int × Int)) : repV o = .tuple [.pv (.int .i64 (repLo o)), .pv (.int .i64 (repHi o)), .pv (.bool o.isSome)] := by cases o <;> rfl
theorem bld_rep {e : ETree} {a b : Int} {K : AV → Prop} : buildD PS 34 [(0, .pv (.str [114, 101, 112])), (2, .full 1 (ereCells e)), (3, .pv (.int .i64 a)), (4, .pv (.int .i64 b))] K = K (.agg [.pv (.str eRep), .pv (.str []), .full 1 (ereCells e), .pv (.int .i64 a), .pv (.int .i64 b)]) := by
  simp [buildD, buildFill, go_sem, AV.cells, AV.cellOk, setAll, eRep]
theorem EV.rep (e : ETree) (a b : Int) : EV (.agg [.pv (.str eRep), .pv (.str []), .full 1 (ereCells e), .pv (.int .i64 a), .pv (.int .i64 b)]) (.mk eRep [] [e] a b) :=
  ⟨.full 1 (ereCells e), rfl, by simp [ETree.kids, flatE, toPV], rfl, rfl⟩
def repMatch (n : Nat) (s : Bytes) (e : ETree) : Option (Int × Int) → Except Nat (ETree × Bytes)
  | none => .ok (e, s)
  | some x => repsE n s (.mk eRep [] [e] x.1 x.2)
theorem T_ePieces_ok {f : Nat} (h1 : env 58 = T_ePeek) (h2 : env 59 = T_eRepeat) (h3 : env 60 = T_eAtom f) (h4 : env 49 = Tr.wk T_eJoined) (h : T_ePieces (f + 1) args σ K X) : bodyD PS env an47 Try.f47 args σ K X := by
  obtain ⟨g, σ0, l, s, d, Y, hg, rfl, hR, hlen, hd, hfu, hK⟩ := h
  rw [← S47_eq env, S47]
  simp only [lock_eq]
  refine alloc_E hR ?_
  intro t2 σ1 hS1
  have hR1 : RdAt σ0 σ1 l s d (VarE t2 vZero :: Y) := Sep.perm hS1 (List.Perm.swap _ _ _)
  refine peek_call h1 hR1 ?_
  simp only [ext_tuple, List.getElem?_cons_zero, List.getElem?_cons_succ, someEx]
  generalize hQ : piecesE g d s [] = Q at hK
  refine lp47_3 (fun (a : Nat × Bytes × List ETree × AV) _ => a.2.1.length) (fun a τ => (∃ L, RowV PS 34 a.2.2.2 L a.2.2.1.length (flatE a.2.2.1) ∧ RdAt σ0 τ l a.2.1 d ((VarE t2 vZero :: Y) ++ L)) ∧ a.2.2.1.length + a.2.1.length ≤ 70000 ∧ a.1 ≤ f + 1 ∧ 3 * a.2.1.length + 2 ≤ a.1 ∧ Q = piecesE a.1 d a.2.1 a.2.2.1)
    (fun a => a.2.2.2) (fun a => .pv (.int .u8 (a.2.1.getD 0 0).toNat)) (fun a => .pv (.bool (decide (a.2.1 ≠ [])))) (g, s, [], .nilS) ⟨⟨[], RowV.nil PS 34, by rw [List.append_nil]; exact hR1⟩, by simpa using hlen, hg, hfu, hQ.symm⟩ ?_
  clear hQ hR1 hS1 hR hlen hg hfu
  rintro ⟨g, s, ls, v⟩ τ ⟨⟨L, hRow, hR⟩, hlen, hg, hfu, hq⟩
  simp only at hRow hR hlen hg hfu hq
  obtain ⟨g, rfl⟩ : ∃ m, g = m + 1 := ⟨g - 1, by omega⟩
  rw [piecesE] at hq
  unfold L47_3
  have fin : Q = .ok (joinedE eCat ls, s) → env 49 [.pv (.str [99, 97, 116]), v] τ (fun t65 σ16 => storeD PS σ16 34 (.addr t2 0) t65 fun σ17 => loadD PS σ17 34 (.addr t2 0) fun r0 => retV r0 σ17 K) (panV X) := by
    intro hq
    rw [hq] at hK
    refine joined_call h4 (ls := ls) hRow.toPV (by omega) ?_
    intro σ' hs'
    have hR' : RdAt σ0 σ' l s d _ := sepUp hR hs'
    refine end_E (A := [_]) (B := Y ++ L) EV.zero (EV.self _) hR' ?_
    intro σ'' hS''
    exact hK σ'' (Sep.sublist hS'' (List.Sublist.cons_cons _ (List.sublist_append_left _ _)))
  have j5 : ¬ (s = [] ∨ (s.getD 0 0).toNat = 124 ∨ (s.getD 0 0).toNat = 41) → J47_5 env (Inv (fun a : Nat × Bytes × List ETree × AV => [AV.addr l 0, .addr t2 0, a.2.2.2, .pv (.int .u8 (a.2.1.getD 0 0).toNat), .pv (.bool (decide (a.2.1 ≠ [])))]) (fun a _ => a.2.1.length) (fun a τ => (∃ L, RowV PS 34 a.2.2.2 L a.2.2.1.length (flatE a.2.2.1) ∧ RdAt σ0 τ l a.2.1 d ((VarE t2 vZero :: Y) ++ L)) ∧ a.2.2.1.length + a.2.1.length ≤ 70000 ∧ a.1 ≤ f + 1 ∧ 3 * a.2.1.length + 2 ≤ a.1 ∧ Q = piecesE a.1 d a.2.1 a.2.2.1)) s.length (.addr l 0) (.addr t2 0) v τ K X := by
    intro hno
    rw [if_neg hno] at hq
    have hne : s ≠ [] := fun e => hno (.inl e)
    unfold J47_5
    refine rep_call h2 hR (by omega) ?_
    cases hr : repE s with
    | error n =>
      rw [hr] at hq
      simp only at hq
      rw [hq] at hK
      exact err_go hK
    | ok q =>
      obtain ⟨o, r⟩ := q
      rw [hr] at hq
      intro σ2 hR2
      cases o with
      | some x =>
        simp only at hq
        rw [hq] at hK
        simp only [repV_eq, lock_eq, ext_tuple, List.getElem?_cons_zero, List.getElem?_cons_succ, someEx, Option.isSome_some, cond_bool, if_true]
        exact fault_go (n := 3) (hK σ2 hR2.sub)
      | none =>
        have hrs : r = s := by
          rcases repE_len hr with ⟨_, h⟩ | ⟨h, _⟩
          · exact h
          · exact absurd rfl h
        subst hrs
        simp only at hq
        simp only [repV_eq, lock_eq, ext_tuple, List.getElem?_cons_zero, List.getElem?_cons_succ, someEx, Option.isSome_none, cond_bool, Bool.false_eq_true, if_false]
        unfold J47_8
        rw [h3]
        refine ⟨g, σ0, l, r, d, _, by omega, rfl, hR2, hne, by omega, hd, by omega, ?_⟩
        cases ha : atomE g d r with
        | error n =>
          rw [ha] at hq
          simp only at hq
          rw [hq] at hK
          exact err_go hK
        | ok q =>
          obtain ⟨e, r1⟩ := q
          rw [ha] at hq
          simp only at hq
          have hl1 := (parse_len g).1 _ _ _ _ hne ha
          intro σ3 hR3
          simp only [lock_eq]
          refine alloc_E hR3 ?_
          intro t9 σ4 hS4
          refine store_E (A := []) EV.zero (EV.self e) hS4 ?_
          intro σ5 hS5
          have hR5 : RdAt σ0 σ5 l r1 d (VarE t9 (ereAV e) :: ((VarE t2 vZero :: Y) ++ L)) := Sep.perm hS5 (List.Perm.swap _ _ _)
          refine rep_call h2 hR5 (by omega) ?_
          generalize hQr : repsE (r1.length + 1) r1 e = Qr at hq
          rw [repsE] at hQr
          cases hr1 : repE r1 with
          | error n =>
            rw [hr1] at hQr
            simp only at hQr
            rw [← hQr] at hq
            simp only at hq
            rw [hq] at hK
            exact err_go hK
          | ok q =>
            obtain ⟨o, r2⟩ := q
            rw [hr1] at hQr
            have hl2 := repE_len hr1
            intro σ6 hR6
            simp only [repV_eq, ext_tuple, List.getElem?_cons_zero, List.getElem?_cons_succ, someEx]
            refine lp47_10 (fun (a : Bytes × ETree × AV × Option (Int × Int)) _ => 2 * a.1.length + (if a.2.2.2.isSome = true then 1 else 0)) (fun a τ => EV a.2.2.1 a.2.1 ∧ RdAt σ0 τ l a.1 d (VarE t9 a.2.2.1 :: ((VarE t2 vZero :: Y) ++ L)) ∧ a.1.length ≤ r1.length ∧ ∃ n, (a.2.2.2 ≠ none → a.1.length < n) ∧ Qr = repMatch n a.1 a.2.1 a.2.2.2)
              (fun a => .pv (.int .i64 (repLo a.2.2.2))) (fun a => .pv (.int .i64 (repHi a.2.2.2))) (fun a => .pv (.bool a.2.2.2.isSome)) (r2, e, ereAV e, o) ⟨EV.self e, hR6, ?_, r1.length, ?_, ?_⟩ ?_
            · simp only; rcases hl2 with ⟨_, h⟩ | ⟨_, h⟩
              · rw [h]; exact Nat.le_refl _
              · omega
            · simp only; intro ho
              rcases hl2 with ⟨h, _⟩ | ⟨_, h⟩
              · exact absurd h ho
              · exact h
            · simp only
              rw [← hQr]
              cases o with
              | none => rfl
              | some x => rfl
            · clear hl2 hR6 hQr hr1 hR5 hS5 hS4
              rintro ⟨s1, e1, v1, o1⟩ τ1 ⟨hv1, hRd, hls, n, hn, hqr⟩
              simp only at hv1 hRd hls hn hqr
              have hg9 : τ1 t9 = some (.cells v1.cells (some 34)) := Sep.get hRd (by simp [VarE])
              unfold L47_10
              simp only [lock_eq, load_E hv1 hg9, cond_bool]
              cases o1 with
              | some x =>
                simp only [Option.isSome_some, if_true, row1_E hv1, bld_rep, repLo, repHi]
                refine store_E (A := [_]) hv1 (EV.rep e1 x.1 x.2) hRd ?_
                intro τ2 hS2
                have hR7 : RdAt σ0 τ2 l s1 d _ := hS2
                refine rep_call h2 hR7 (by omega) ?_
                have hn := hn (by simp)
                obtain ⟨n, rfl⟩ : ∃ m, n = m + 1 := ⟨n - 1, by omega⟩
                rw [repMatch, repsE] at hqr
                cases hr2 : repE s1 with
                | error m =>
                  rw [hr2] at hqr
                  simp only at hqr
                  rw [hqr] at hq
                  simp only at hq
                  rw [hq] at hK
                  exact err_go hK
                | ok q =>
                  obtain ⟨o2, r3⟩ := q
                  rw [hr2] at hqr
                  have hl3 := repE_len hr2
                  intro τ3 hR8
                  simp only [repV_eq, ext_tuple, List.getElem?_cons_zero, List.getElem?_cons_succ, someEx]
                  refine back (r3, .mk eRep [] [e1] x.1 x.2, _, o2) rfl ?_ ⟨EV.rep e1 x.1 x.2, hR8, ?_, n, ?_, ?_⟩
                  · simp only [Option.isSome_some, if_true]
                    rcases hl3 with ⟨h, h'⟩ | ⟨_, h⟩
                    · rw [h, h']; simp
                    · split <;> omega
                  · simp only; rcases hl3 with ⟨_, h⟩ | ⟨_, h⟩
                    · rw [h]; exact hls
                    · omega
                  · simp only; intro ho
                    rcases hl3 with ⟨h, _⟩ | ⟨_, h⟩
                    · exact absurd h ho
                    · omega
                  · simp only
                    rw [hqr]
                    cases o2 with
                    | none => rfl
                    | some y => rfl
              | none =>
                rw [repMatch] at hqr
                rw [hqr] at hq
                simp only at hq
                simp only [Option.isSome_none, Bool.false_eq_true, if_false, row1_E hv1]
                have hSl : Sep σ0 τ1 (((l, .cells [.pv (.str s1), .pv (.int .i64 (d : Nat))] none) :: VarE t9 v1 :: VarE t2 vZero :: Y) ++ L) := hRd
                refine hRow.append hSl rowTE (m := 1) (ys := ereCells e1) rfl (by rw [T.sz34]; exact ereCells_len e1) (by omega) (by rw [T.by34]; omega) (by omega) ?_
                intro v' L' τ2 hRow' hS'
                have hR9 : RdAt σ0 τ2 l s1 d ((VarE t2 vZero :: Y) ++ L') := Sep.sublist hS' (List.Sublist.cons_cons _ (List.sublist_cons_self _ _))
                refine peek_call h1 hR9 ?_
                simp only [ext_tuple, List.getElem?_cons_zero, List.getElem?_cons_succ, someEx]
                refine back (g, s1, ls ++ [e1], v') rfl (by simp only; omega) ⟨⟨L', ?_, hR9⟩, by simp only [List.length_append, List.length_singleton]; omega, by simp only; omega, by simp only; omega, hq⟩
                simp only
                rw [flatE_app, List.length_append]
                have : flatE [e1] = ereCells e1 := by simp [flatE]
                rw [this]
                exact hRow'
  simp only [lock_eq]
  by_cases g1 : s = []
  · have e1 : decide (s ≠ []) = false := by simp [g1]
    rw [if_pos (.inl g1)] at hq
    rw [e1]
    simp only [go_sem, Bool.false_eq_true, if_false]
    exact fin hq
  · have e1 : decide (s ≠ []) = true := by simp [g1]
    rw [e1]
    simp only [go_sem, if_true, bne, Bool.not_eq_true', beq_eq_false_iff_ne, ne_eq]
    refine iteI (fun g2 => ?_) (fun g2 => ?_)
    · refine iteI (fun g3 => ?_) (fun g3 => ?_)
      · exact j5 (fun h => by
          rcases h with h | h | h
          · exact g1 h
          · exact g2 h
          · exact g3 h)
      · have g3 : (s.getD 0 0).toNat = 41 := by
          by_cases h : (s.getD 0 0).toNat = 41
          · exact h
          · exact absurd h g3
        rw [if_pos (.inr (.inr g3))] at hq
        exact fin hq
    · have g2 : (s.getD 0 0).toNat = 124 := by
        by_cases h : (s.getD 0 0).toNat = 124
        · exact h
        · exact absurd h g2
      rw [if_pos (.inr (.inl g2))] at hq
      exact fin hq
end
end Go.AD.Lx

/- ere: branches; the recursion. -/
set_option linter.unusedVariables false
set_option linter.unusedSimpArgs false
set_option maxRecDepth 100000
namespace Go.AD.Lx
open Go.Proofs RowKit
section
variable {env : Env} {args : List AV} {σ0 σ τ : AS} {K : AV → AS → Prop} {X : PV → AS → Prop} {l : Nat} {s : Bytes} {d : Nat} {Y : Objs}
/-- A row of trees, as it was built or grown. -/
def RowFE (v : AV) (L : Objs) (ls : List ETree) : Prop := RowV PS 34 v L ls.length (flatE ls) ∨ (v = .full ls.length (flatE ls) ∧ L = [])
theorem RowFE.toPV {v : AV} {L : Objs} {ls : List ETree} (h : RowFE v L ls) : AD.toPV v = some (.lst ls.length (flatE ls)) := by
  rcases h with h | ⟨rfl, rfl⟩
  · exact h.toPV
  · rfl
theorem RowFE.append {v : AV} {L Z : Objs} {ls : List ETree} {e : ETree} (G : RowFE v L ls) (hS : Sep σ0 σ (Z ++ L)) (hb : ls.length ≤ 1000000)
    (hK : ∀ v' L' σ', RowFE v' L' (ls ++ [e]) → Sep σ0 σ' (Z ++ L') → K v' σ') : appendD PS false σ 32 v (.full 1 (ereCells e)) K := by
  have hfl : flatE (ls ++ [e]) = flatE ls ++ ereCells e := by rw [flatE_app]; simp [flatE]
  rcases G with G | ⟨rfl, rfl⟩
  · refine G.append hS rowTE (m := 1) (ys := ereCells e) rfl (by rw [T.sz34]; exact ereCells_len e) (by omega) (by rw [T.by34]; omega) (by omega) ?_
    intro v' L' σ' h1 h2
    exact hK v' L' σ' (.inl (by rw [List.length_append, hfl]; exact h1)) h2
  · obtain ⟨h1, h2, z, h3, h4⟩ := rowTE
    have hsh : shown PS σ 34 (.full 1 (ereCells e)) = some (1, ereCells e) := rfl
    simp only [appendD, appendCore, h1, h2, h3, h4, hsh, true_and, Nat.one_ne_zero, if_false]
    refine ⟨by rw [T.sz34]; exact ereCells_len e, by rw [T.sz34]; exact flatE_len ls, by rw [T.by34]; omega, by omega, ?_⟩
    simp only [newRowD, Bool.false_eq_true, if_false, toPVs_pv]
    intro id hid
    have h5 := hS.alloc hid (.front (ls.length + 1) (szOf PS 34) (some 34))
    refine hK _ [(id, .front (ls ++ [e]).length (szOf PS 34) (some 34))] _ (.inl ⟨by rw [flatE_len, T.sz34], .inr ⟨id, _, ?_, rfl⟩⟩) ?_
    · rw [hfl, List.length_append]; rfl
    · rw [List.length_append]
      refine h5.perm ?_
      simpa using List.perm_append_comm (l₁ := [(id, AObj.front (ls.length + 1) (szOf PS 34) (some 34))]) (l₂ := Z)
theorem T_eBranches_ok {f : Nat} (h1 : env 48 = T_eTake) (h2 : env 47 = T_ePieces f) (h3 : env 49 = Tr.wk T_eJoined) (h : T_eBranches (f + 1) args σ K X) : bodyD PS env an31 Try.f31 args σ K X := by
  obtain ⟨g, σ0, l, s, d, Y, hg, rfl, hR, hlen, hd, hfu, hK⟩ := h
  obtain ⟨g, rfl⟩ : ∃ m, g = m + 1 := ⟨g - 1, by omega⟩
  rw [← S31_eq env, S31]
  simp only [lock_eq]
  refine alloc_E hR ?_
  intro t2 σ1 hS1
  have hR1 : RdAt σ0 σ1 l s d (VarE t2 vZero :: Y) := Sep.perm hS1 (List.Perm.swap _ _ _)
  rw [branchesE] at hK
  rw [h2]
  refine ⟨g, σ0, l, s, d, _, by omega, rfl, hR1, hlen, by omega, by omega, ?_⟩
  cases hp : piecesE g d s [] with
  | error n =>
    rw [hp] at hK
    exact err_go hK
  | ok q =>
    obtain ⟨e, r⟩ := q
    rw [hp] at hK
    simp only at hK
    have hlr := (parse_len g).2.1 _ _ _ _ _ hp
    intro σ2 hR2
    simp only [row1_E (EV.self e)]
    generalize hQ : altsE g d r [e] = Q at hK
    refine lp31_2 (fun (a : Nat × Bytes × List ETree × AV) _ => a.2.1.length) (fun a τ => (∃ L, RowFE a.2.2.2 L a.2.2.1 ∧ RdAt σ0 τ l a.2.1 d ((VarE t2 vZero :: Y) ++ L)) ∧ a.2.2.1.length + a.2.1.length ≤ 70001 ∧ a.2.1.length ≤ 70000 ∧ a.1 ≤ f ∧ 3 * a.2.1.length + 2 ≤ a.1 ∧ Q = altsE a.1 d a.2.1 a.2.2.1)
      (fun a => a.2.2.2) (g, r, [e], .full 1 (ereCells e)) ⟨⟨[], .inr ⟨by simp [flatE], rfl⟩, by rw [List.append_nil]; exact hR2⟩, by simp only [List.length_singleton]; omega, by simp only; omega, by simp only; omega, by simp only; omega, hQ.symm⟩ ?_
    clear hQ hR2 hlr hp hR1 hS1 hR hlen hg hfu
    rintro ⟨g, s, ls, v⟩ τ ⟨⟨L, hRow, hR⟩, hlen, hl7, hg, hfu, hq⟩
    simp only at hRow hR hlen hl7 hg hfu hq
    obtain ⟨g, rfl⟩ : ∃ m, g = m + 1 := ⟨g - 1, by omega⟩
    rw [altsE] at hq
    unfold L31_2
    refine take_call' h1 hR ?_
    intro τ1 hRt
    have e1 : ([124] : Bytes).length = 1 := rfl
    rw [e1] at hRt
    simp only [lock_eq, cond_bool]
    refine iteI (fun g1 => ?_) (fun g1 => ?_)
    · rw [if_pos g1] at hRt hq
      have hl1 := hasP_len g1
      simp only [List.length_cons, List.length_nil] at hl1
      have hd1 : (s.drop 1).length = s.length - 1 := List.length_drop ..
      rw [h2]
      refine ⟨g, σ0, l, s.drop 1, d, _, by omega, rfl, hRt, by omega, by omega, by omega, ?_⟩
      cases hp : piecesE g d (s.drop 1) [] with
      | error n =>
        rw [hp] at hq
        simp only at hq
        rw [hq] at hK
        exact err_go hK
      | ok q =>
        obtain ⟨e2, r2⟩ := q
        rw [hp] at hq
        simp only at hq
        have hlr := (parse_len g).2.1 _ _ _ _ _ hp
        intro τ2 hR2
        simp only [row1_E (EV.self e2)]
        have hSl : Sep σ0 τ2 (((l, .cells [.pv (.str r2), .pv (.int .i64 (d : Nat))] none) :: VarE t2 vZero :: Y) ++ L) := hR2
        refine hRow.append hSl (by omega) ?_
        intro v' L' τ3 hRow' hS'
        exact back (g, r2, ls ++ [e2], v') rfl (by simp only; omega) ⟨⟨L', hRow', hS'⟩, by simp only [List.length_append, List.length_singleton]; omega, by simp only; omega, by simp only; omega, by simp only; omega, hq⟩
    · rw [if_neg g1] at hRt hq
      rw [hq] at hK
      refine joined_call h3 (ls := ls) hRow.toPV (by omega) ?_
      intro τ2 hs2
      have hR' : RdAt σ0 τ2 l s d _ := sepUp hRt hs2
      refine end_E (A := [_]) (B := Y ++ L) EV.zero (EV.self _) hR' ?_
      intro σ'' hS''
      exact hK σ'' (Sep.sublist hS'' (List.Sublist.cons_cons _ (List.sublist_append_left _ _)))
end
end Go.AD.Lx
