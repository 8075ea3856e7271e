/- ere: no reading ends for want of fuel; EreGroups walked. -/
import Derived.Test.YtjgjmpophpifgaaLeM
set_option linter.unusedVariables false
set_option linter.unusedSimpArgs false
set_option maxRecDepth 100000
namespace Go.AD.Lx
open Go.Proofs RowKit ETree
/-! ### faults are from 1 on -/
theorem escE_no0 (s : Bytes) : escE s ≠ .error 0 := by
  unfold escE
  split
  · simp
  · split <;> simp
theorem itemE_no0 (s : Bytes) (b : BSet) : itemE s b ≠ .error 0 := by
  unfold itemE
  split
  · split <;> simp
  split
  · have := escE_no0 (s.drop 1)
    cases h : escE (s.drop 1) with
    | error n => rw [h] at this; simpa using this
    | ok z => simp
  · simp
theorem setL_no0 : ∀ (f : Nat) (first : Bool) (s : Bytes) (b : BSet), setL f first s b ≠ .error 0
  | 0, _, _, _ => by rw [setL]; simp
  | f + 1, first, s, b => by
    rw [setL]
    split
    · simp
    split
    · simp
    cases h : itemE s b with
    | error n => have := itemE_no0 s b; rw [h] at this; simpa using this
    | ok x =>
      obtain ⟨fr, s1, b1⟩ := x
      dsimp only
      split
      · cases fr with
        | none => simp
        | some c =>
          dsimp only
          cases h2 : itemE (s1.drop 1) noB with
          | error n => have := itemE_no0 (s1.drop 1) noB; rw [h2] at this; simpa using this
          | ok y =>
            obtain ⟨o, s2, b2⟩ := y
            cases o with
            | none => simp
            | some t =>
              dsimp only
              split
              · simp
              · exact setL_no0 _ _ _ _
      · cases fr with
        | none => exact setL_no0 _ _ _ _
        | some c => exact setL_no0 _ _ _ _
theorem setE_no0 (s : Bytes) : setE s ≠ .error 0 := by
  unfold setE
  have := setL_no0 (s.length + 1) true (if Lib.hasPrefix s [94] = true then s.drop 1 else s) noB
  cases h : setL (s.length + 1) true (if Lib.hasPrefix s [94] = true then s.drop 1 else s) noB with
  | error n => rw [h] at this; simpa using this
  | ok z => simp
theorem countL_no0 : ∀ (t : Bytes) (n : Nat), countL t n ≠ .error 0
  | [], _ => by rw [countL]; simp
  | c :: t, n => by
    rw [countL]
    split
    · simp
    · exact countL_no0 _ _
theorem ivEnd_no0 (lo to s : Bytes) : ivEnd lo to s ≠ .error 0 := by
  unfold ivEnd ivHi
  cases h : countL lo 0 with
  | error n => have := countL_no0 lo 0; rw [h] at this; simpa using this
  | ok a =>
    dsimp only
    by_cases h1 : to = []
    · rw [if_pos h1]
      dsimp only
      split <;> simp
    · rw [if_neg h1]
      cases h2 : countL to 0 with
      | error n => have := countL_no0 to 0; rw [h2] at this; simpa using this
      | ok b =>
        dsimp only
        split <;> simp
theorem intervalE_no0 (s : Bytes) : intervalE s ≠ .error 0 := by
  unfold intervalE
  split
  · exact ivEnd_no0 _ _ _
  · exact ivEnd_no0 _ _ _
theorem repE_no0 (s : Bytes) : repE s ≠ .error 0 := by
  unfold repE
  split
  · simp
  split
  · simp
  split
  · simp
  split
  · cases h : intervalE (s.drop 1) with
    | error n => have := intervalE_no0 (s.drop 1); rw [h] at this; simpa using this
    | ok z => simp
  · simp
theorem repsE_no0 : ∀ (f : Nat) (s : Bytes) (e : ETree), repsE f s e ≠ .error 0
  | 0, _, _ => by rw [repsE]; simp
  | f + 1, s, e => by
    rw [repsE]
    cases h : repE s with
    | error n => have := repE_no0 s; rw [h] at this; simpa using this
    | ok z =>
      obtain ⟨o, r⟩ := z
      cases o with
      | none => simp
      | some p => exact repsE_no0 _ _ _
theorem parse_no0 : ∀ f : Nat,
    (∀ d s, s ≠ [] → 3 * s.length ≤ f → atomE f d s ≠ .error 0) ∧
    (∀ d s l, 3 * s.length + 1 ≤ f → piecesE f d s l ≠ .error 0) ∧
    (∀ d s, 3 * s.length + 2 ≤ f → branchesE f d s ≠ .error 0) ∧
    (∀ d s l, 3 * s.length + 1 ≤ f → altsE f d s l ≠ .error 0)
  | 0 => ⟨fun d s hne h => by have := List.length_pos_iff.2 hne; omega, fun _ _ _ h => by omega, fun _ _ h => by omega, fun _ _ _ h => by omega⟩
  | f + 1 => by
    obtain ⟨ha, hp, hb, hal⟩ := parse_no0 f
    refine ⟨fun d s hne h1 => ?_, fun d s l h1 => ?_, fun d s h1 => ?_, fun d s l h1 => ?_⟩
    · have hp0 := List.length_pos_iff.2 hne
      have hd1 : (s.drop 1).length = s.length - 1 := List.length_drop ..
      rw [atomE]
      split
      · split
        · simp
        · cases h : branchesE f (d + 1) (s.drop 1) with
          | error n => have := hb (d + 1) (s.drop 1) (by omega); rw [h] at this; simpa using this
          | ok z => dsimp only; split <;> simp
      split
      · exact setE_no0 _
      split
      · simp
      split
      · simp
      split
      · simp
      split
      · cases h : escE (s.drop 1) with
        | error n => have := escE_no0 (s.drop 1); rw [h] at this; simpa using this
        | ok z => simp
      · simp
    · rw [piecesE]
      by_cases hq : s = [] ∨ (s.getD 0 0).toNat = 124 ∨ (s.getD 0 0).toNat = 41
      · rw [if_pos hq]; simp
      rw [if_neg hq]
      have hne : s ≠ [] := fun e => hq (.inl e)
      cases hr : repE s with
      | error n => have := repE_no0 s; rw [hr] at this; simpa using this
      | ok x =>
        obtain ⟨o, r0⟩ := x
        cases o with
        | some z => simp
        | none =>
          dsimp only
          cases hat : atomE f d s with
          | error n => have := ha d s hne (by omega); rw [hat] at this; simpa using this
          | ok y =>
            obtain ⟨e, r⟩ := y
            have hl := (parse_len f).1 d s e r hne hat
            dsimp only
            cases hrs : repsE (r.length + 1) r e with
            | error n => have := repsE_no0 (r.length + 1) r e; rw [hrs] at this; simpa using this
            | ok z =>
              obtain ⟨e', r'⟩ := z
              have := repsE_len _ _ _ _ _ hrs
              exact hp d r' _ (by omega)
    · rw [branchesE]
      cases hr : piecesE f d s [] with
      | error n => have := hp d s [] (by omega); rw [hr] at this; simpa using this
      | ok x =>
        obtain ⟨e, r⟩ := x
        have hl := (parse_len f).2.1 d s [] e r hr
        exact hal d r [e] (by omega)
    · rw [altsE]
      by_cases hq : Lib.hasPrefix s [124] = true
      · have hp0 := hasP_len hq
        simp only [List.length_cons, List.length_nil] at hp0
        have hd1 : (s.drop 1).length = s.length - 1 := List.length_drop ..
        rw [if_pos hq]
        cases hr : piecesE f d (s.drop 1) [] with
        | error n => have := hp d (s.drop 1) [] (by omega); rw [hr] at this; simpa using this
        | ok x =>
          obtain ⟨e, r⟩ := x
          have hl := (parse_len f).2.1 d (s.drop 1) [] e r hr
          exact hal d r _ (by omega)
      · rw [if_neg hq]; simp
theorem parseE_no0 (s : Bytes) : parseE s ≠ .error 0 := by
  unfold parseE
  cases h : branchesE (3 * s.length + 3) 0 s with
  | error n => have := (parse_no0 (3 * s.length + 3)).2.2.1 0 s (by omega); rw [h] at this; simpa using this
  | ok z =>
    dsimp only
    split
    · simp
    split <;> simp
theorem parse_val (s : Bytes) : ∃ (v : AV) (x : ETree) (n : Nat), EV v x ∧ parseV (parseE s) = .tuple [v, .pv (.int .i64 (n : Nat))] ∧ ((n ≠ 0 ∧ parseE s = .error n) ∨ (n = 0 ∧ v = ereAV x ∧ parseE s = .ok x)) := by
  cases h : parseE s with
  | error n => exact ⟨_, _, n, EV.zero, rfl, .inl ⟨fun e => parseE_no0 s (by rw [h, e]), rfl⟩⟩
  | ok x => exact ⟨_, x, 0, EV.self x, rfl, .inr ⟨rfl, rfl, rfl⟩⟩
theorem parse_okT {s : Bytes} {e : ETree} (hs : s.length ≤ 70000) (h : parseE s = .ok e) : okT e :=
  (parse_ok _).2.2.1 _ _ _ _ (by omega) (parse_inv h).1
section
variable {env : Env} {args : List AV} {σ0 σ τ : AS} {K : AV → AS → Prop} {X : PV → AS → Prop}
def T_tSameA : Tr := fun args σ K X => ∃ n, T_tSame n args σ K X
theorem F_tSameA (hm : HME) : SoundF PS 17 T_tSameA := by
  rintro w0 hS ρ σ w args us K X H hr ⟨n, h⟩
  exact F_tSame hm n w0 hS ρ σ w args us K X H hr h
theorem same_call (h : env 17 = T_tSameA) {e : ETree} (hok : okT e) (hK : ∀ σ', σ.sub σ' → K (.pv (.bool true)) σ') : env 17 [ereAV e, ereAV e] σ K X := by
  rw [h]; exact ⟨htE e, _, _, e, rfl, EV.self e, EV.self e, hok, Nat.le_refl _, hK⟩
def T_EreGroups : Tr := fun args σ K _ => ∃ s t : Bytes, args = [.pv (.str s), .pv (.str t)] ∧ ∀ σ', K (.pv (.bool true)) σ'
theorem groups_true {s t e g : AV} {n m : Nat} (hK : ∀ σ', K (.pv (.bool true)) σ') (h : n ≠ 0 ∨ m = 1) : J8_8 env s t e (.pv (.int .i64 (n : Nat))) g (.pv (.int .i64 (m : Nat))) (.pv (.bool true)) σ K X := by
  unfold J8_8
  simp only [lock_eq, cond_bool, if_true, bin_neq]
  by_cases hn : n ≠ 0
  · have hn' : ((n : Int) != 0) = true := by simpa using hn
    simp only [hn', guard_false, if_true]
    exact retV_self (hK σ)
  · obtain rfl : n = 0 := by omega
    have hm : m = 1 := by omega
    subst hm
    have hz : (((0 : Nat) : Int) != 0) = false := rfl
    have h1 : (((1 : Nat) : Int) == 1) = true := rfl
    simp only [hz, guard_false, Bool.false_eq_true, if_false, bin_eql, h1, if_true]
    exact retV_self (hK σ)
theorem groups_end {t5 t9 t11 : Nat} {e a : ETree} (h3 : env 17 = T_tSameA) (hK : ∀ σ', K (.pv (.bool true)) σ') (oe : okT e) (oa : okT a)
    (he : ∀ τ, σ.sub τ → τ t5 = some (.cells (ereAV e).cells (some 34))) (ha : ∀ τ, σ.sub τ → τ t9 = some (.cells (ereAV a).cells (some 34)))
    (hb : ∀ τ, σ.sub τ → τ t11 = some (.cells [.pv (.str eAlt), .pv (.str []), .pv (.lst 2 (flatE [e, a])), .pv (.int .i64 0), .pv (.int .i64 0)] (some 34))) :
    J8_15 env (.addr t5 0) (.addr t9 0) (.addr t11 0) σ K X := by
  have hx0 : ∀ K : AV → Prop, indexAddrD PS 32 (.pv (.lst 2 (flatE [e, a]))) (.pv (.int .i64 0)) K = K (.elemP (flatE [e, a]) (0 * 5)) := fun K => T.ixl32 (i := 0) (by decide) (flatE_len _)
  have hx1 : ∀ K : AV → Prop, indexAddrD PS 32 (.pv (.lst 2 (flatE [e, a]))) (.pv (.int .i64 1)) K = K (.elemP (flatE [e, a]) (1 * 5)) := fun K => T.ixl32 (i := 1) (by decide) (flatE_len _)
  have hl0 : ∀ σ K, loadD PS σ 34 (.elemP (flatE [e, a]) (0 * 5)) K = K (ereAV e) := by
    intro σ K
    rw [load_elemA T.hT34 T.ag34, T.sz34, flatE_get [e, a] 0 (by simp)]
    exact propext ⟨fun h => h.2, fun h => ⟨by rw [flatE_len]; simp, h⟩⟩
  have hl1 : ∀ σ K, loadD PS σ 34 (.elemP (flatE [e, a]) (1 * 5)) K = K (ereAV a) := by
    intro σ K
    rw [load_elemA T.hT34 T.ag34, T.sz34, flatE_get [e, a] 1 (by simp)]
    exact propext ⟨fun h => h.2, fun h => ⟨by rw [flatE_len]; simp, h⟩⟩
  have hb0 := hb σ (sub_refl σ)
  have e1 : (eAlt == [97, 108, 116]) = true := by decide
  have e2 : (((2 : Nat) : Int) == 2) = true := rfl
  have le : ∀ τ K, σ.sub τ → loadD PS τ 34 (.addr t5 0) K = K (ereAV e) := fun τ K hs => load_E (EV.self e) (he τ hs)
  have la : ∀ τ K, σ.sub τ → loadD PS τ 34 (.addr t9 0) K = K (ereAV a) := fun τ K hs => load_E (EV.self a) (ha τ hs)
  have last : ∀ τ, σ.sub τ → ∀ K' : AV → AS → Prop, (∀ σ', K' (.pv (.bool true)) σ') → env 17 [ereAV a, ereAV a] τ K' (panV X) := fun τ hs K' hk => same_call h3 oa (fun σ' _ => hk σ')
  unfold J8_15
  simp only [lock_eq, T.fa34_0, T.fa34_2, nilD, Nat.add_zero, Nat.zero_add, T.ld9, T.ld32, hb0, ldM_cells, List.getElem?_cons_zero, List.getElem?_cons_succ, someEx, bin_seql, e1, guard_true, if_true, T.lnl32, bin_eql, e2, hx0, hl0, le σ _ (sub_refl σ), and_true]
  repeat' refine And.intro ?_ ?_
  all_goals
    refine same_call h3 oe (fun τ hs => ?_)
    have hbt := hb τ hs
    simp only [guard_true, if_true, hbt, ldM_cells, List.getElem?_cons_zero, List.getElem?_cons_succ, someEx, hx1, hl1, la τ _ hs, and_true]
    repeat' refine And.intro ?_ ?_
    all_goals exact last τ hs _ (fun σ' => retV_self (hK σ'))
theorem T_EreGroups_ok (h1 : env 15 = T_awake3) (h2 : env 16 = T_eParse) (h3 : env 17 = T_tSameA) (h : T_EreGroups args σ K X) : bodyD PS env an8 Try.f8 args σ K X := by
  obtain ⟨s, t, rfl, hK⟩ := h
  rw [← S8_eq env, S8]
  simp only [lock_eq]
  rw [h1]
  refine ⟨rfl, ?_⟩
  intro σ1 hs1
  simp (disch := omega) only [go_sem]
  refine iteI (fun g1 => ?_) (fun g1 => ?_)
  · exact absurd g1 (by decide)
  refine iteI (fun g4 => ?_) (fun g4 => ?_)
  · exact retV_self (hK σ1)
  refine iteI (fun g2 => ?_) (fun g2 => ?_)
  · exact retV_self (hK σ1)
  unfold J8_5
  simp only [lock_eq]
  rw [h2]
  refine ⟨_, rfl, by omega, ?_⟩
  intro σ2 hs2
  obtain ⟨v, e, n, hv, p1, hn⟩ := parse_val s
  rw [p1]
  simp only [extractD, List.getElem?_cons_zero, List.getElem?_cons_succ, someEx]
  refine alloc_E (Sep.start σ2) ?_
  intro t5 σ3 hS3
  refine store_E (A := []) EV.zero hv hS3 ?_
  intro σ4 hS4
  simp (disch := omega) only [go_sem]
  refine ⟨by simp; omega, by simp; omega, ?_⟩
  refine ⟨_, rfl, by simp; omega, ?_⟩
  intro σ5 hs5
  obtain ⟨w, g, m, hw, p2, hmm⟩ := parse_val ([40] ++ s ++ [41])
  rw [p2]
  have hS5 := sepUp hS4 hs5
  simp only [List.getElem?_cons_zero, List.getElem?_cons_succ, someEx]
  refine alloc_E hS5 ?_
  intro t7 σ6 hS6
  refine store_E (A := []) EV.zero hw hS6 ?_
  intro σ7 hS7
  have ec : ([40] : Bytes) ++ s ++ [41] = 40 :: (s ++ [41]) := rfl
  rw [ec] at hmm
  rcases hn with ⟨hn, hn2⟩ | ⟨rfl, hv', pe⟩
  · have hn' : ((n : Int) != 0) = true := by simpa using hn
    simp (disch := omega) only [go_sem, hn', if_true]
    exact groups_true hK (.inl hn)
  have hz : (((0 : Nat) : Int) != 0) = false := rfl
  rcases hmm with ⟨hm, hm2⟩ | ⟨rfl, hw', pg⟩
  · have hm' : ((m : Int) != 0) = true := by simpa using hm
    have hm1 : m = 1 := by
      rcases parse_group pe with h | h
      · rw [h] at hm2; cases hm2
      · rw [h] at hm2; cases hm2; rfl
    simp (disch := omega) only [go_sem, hz, hm', Bool.false_eq_true, if_false]
    exact groups_true hK (.inr hm1)
  simp (disch := omega) only [go_sem, hz, Bool.false_eq_true, if_false]
  have heg : e = g := by
    rcases parse_group pe with h | h
    · rw [h] at pg; cases pg; rfl
    · rw [h] at pg; cases pg
  subst heg hv' hw'
  have oe := parse_okT (by omega) pe
  have hge : σ7 t5 = some (.cells (ereAV e).cells (some 34)) := hS7.get (by simp [VarE])
  have hgg : σ7 t7 = some (.cells (ereAV e).cells (some 34)) := hS7.get (by simp [VarE])
  unfold J8_8
  simp only [lock_eq, cond_bool, Bool.false_eq_true, if_false, load_E (EV.self e) hge, load_E (EV.self e) hgg]
  refine same_call h3 oe ?_
  intro σ8 hs8
  have hS8 := sepUp hS7 hs8
  simp only [un_not, cond_bool, Bool.not_true, Bool.false_eq_true, if_false]
  rw [h2]
  refine ⟨_, rfl, by omega, ?_⟩
  intro σ9 hs9
  have hS9 := sepUp hS8 hs9
  obtain ⟨v2, a, n2, hv2, p3, hn2⟩ := parse_val t
  rw [p3]
  simp only [extractD, List.getElem?_cons_zero, List.getElem?_cons_succ, someEx]
  refine alloc_E hS9 ?_
  intro t9 σ10 hS10
  refine store_E (A := []) EV.zero hv2 hS10 ?_
  intro σ11 hS11
  simp (disch := omega) only [go_sem]
  refine ⟨by simp; omega, by simp; omega, by simp; omega, by simp; omega, ?_⟩
  refine ⟨_, rfl, by simp; omega, ?_⟩
  intro σ12 hs12
  have hS12 := sepUp hS11 hs12
  obtain ⟨v3, b, n3, hv3, p4, hn3⟩ := parse_val ([40] ++ s ++ [41, 124, 40] ++ t ++ [41])
  rw [p4]
  simp only [List.getElem?_cons_zero, List.getElem?_cons_succ, someEx]
  refine alloc_E hS12 ?_
  intro t11 σ13 hS13
  refine store_E (A := []) EV.zero hv3 hS13 ?_
  intro σ14 hS14
  have ec : ([40] : Bytes) ++ s ++ [41, 124, 40] ++ t ++ [41] = 40 :: (s ++ 41 :: 124 :: 40 :: (t ++ [41])) := by simp
  rw [ec] at hn3
  rcases hn2 with ⟨hn, hn2⟩ | ⟨rfl, hv', pa⟩
  · have hn' : ((n2 : Int) != 0) = true := by simpa using hn
    simp (disch := omega) only [go_sem, hn', if_true]
    exact retV_self (hK σ14)
  rcases hn3 with ⟨hm, hm2⟩ | ⟨rfl, hw', pb⟩
  · have hm' : ((n3 : Int) != 0) = true := by simpa using hm
    simp (disch := omega) only [go_sem, hz, hm', Bool.false_eq_true, if_false, if_true]
    exact retV_self (hK σ14)
  simp (disch := omega) only [go_sem, hz, Bool.false_eq_true, if_false]
  have hb := parse_two pe pa pb
  subst hb hv' hw'
  have oa := parse_okT (by omega) pa
  refine groups_end h3 hK oe oa (fun τ hs => hs _ _ (hS14.get (by simp [VarE]))) (fun τ hs => hs _ _ (hS14.get (by simp [VarE]))) (fun τ hs => hs _ _ (hS14.get (List.mem_cons.2 (.inl rfl))))
theorem F_EreGroups (hm : HME) : SoundF PS 8 T_EreGroups :=
  body_sound hm (EnvOk.add (EnvOk.add (EnvOk.add (env0_ok PS) (F_awake3 hm)) (F_eParse hm)) (F_tSameA hm)) an8 Try.func8 Try.call8 S8_ok (fun args σ K X h => T_EreGroups_ok rfl rfl rfl h)
end
end Go.AD.Lx
