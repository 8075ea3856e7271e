import Derived.Test.YtjgjmpophpifgaaLeF
/- ere: what the reader answers at the two texts that the package reads when it wakes. Plain. -/
set_option linter.unusedVariables false
set_option linter.unusedSimpArgs false
namespace Go.AD.Lx
open ETree
def eSet1 (c : UInt8) : ETree := mk eSet [c] [] 0 0
theorem parse_w2 : parseE [40] = .error 1 := by kernel_rfl
theorem parse_w1 : parseE [97, 124, 98, 42] = .ok (mk eAlt [] [eSet1 97, mk eRep [] [eSet1 98] 0 (-1)] 0 0) := by kernel_rfl
end Go.AD.Lx

/- ere: Same of equal trees; awake. -/
set_option linter.unusedVariables false
set_option linter.unusedSimpArgs false
set_option maxRecDepth 100000
namespace Go.AD.Lx
open Go.Proofs RowKit
section
variable {env : Env} {args : List AV} {σ0 σ τ : AS} {K : AV → AS → Prop} {X : PV → AS → Prop}
def T_tSame (n : Nat) : Tr := fun args σ K _ => ∃ (v w : AV) (e : ETree), args = [v, w] ∧ EV v e ∧ EV w e ∧ okT e ∧ htE e ≤ n ∧ ∀ σ', σ.sub σ' → K (.pv (.bool true)) σ'
theorem T_tSame_ok {n : Nat} (h1 : env 17 = T_tSame n) (h : T_tSame (n + 1) args σ K X) : bodyD PS env an17 Try.f17 args σ K X := by
  obtain ⟨v, w, e, rfl, hv, hw, hok, hht, hK⟩ := h
  rw [← S17_eq env, S17]
  obtain ⟨cs, rfl, l1, c1, o1, p1⟩ := hv.cells5
  obtain ⟨ds, rfl, l2, c2, o2, p2⟩ := hw.cells5
  simp only [lock_eq]
  refine ⟨by rw [c1]; exact o1, ?_⟩
  intro t1 ht1
  have hS1 := (Sep.start σ).alloc ht1 (.cells cs none)
  rw [c1]
  generalize (σ.set t1 (.cells cs none)) = σ1 at hS1
  refine ⟨by rw [c2]; exact o2, ?_⟩
  intro t2 ht2
  have hS2 := hS1.alloc ht2 (.cells ds none)
  rw [c2]
  generalize (σ1.set t2 (.cells ds none)) = σ2 at hS2
  obtain ⟨op, st, kids, lo, hi⟩ := e
  obtain ⟨k, hk0, hk, hkc, hko⟩ := hv
  simp only [AV.agg.injEq] at hk0
  subst hk0
  obtain ⟨j, hj0, hj, hjc, hjo⟩ := hw
  simp only [AV.agg.injEq] at hj0
  subst hj0
  rw [okT] at hok
  obtain ⟨o1', o2', o3', o4', o5', o6'⟩ := hok
  rw [htE] at hht
  have hg : ∀ τ, σ2.sub τ → τ t1 = some (.cells [.pv (.str op), .pv (.str st), k, .pv (.int .i64 lo), .pv (.int .i64 hi)] none) := fun τ hs => hs _ _ (hS2.get (by simp [ETree.op, ETree.set, ETree.lo, ETree.hi]))
  have hh : ∀ τ, σ2.sub τ → τ t2 = some (.cells [.pv (.str op), .pv (.str st), j, .pv (.int .i64 lo), .pv (.int .i64 hi)] none) := fun τ hs => hs _ _ (hS2.get (by simp [ETree.op, ETree.set, ETree.lo, ETree.hi]))
  have hk : toPV k = some (.lst kids.length (flatE kids)) := hk
  have hj : toPV j = some (.lst kids.length (flatE kids)) := hj
  have hg1 := hg σ2 (sub_refl _)
  have hh1 := hh σ2 (sub_refl _)
  simp (disch := omega) only [go_sem, hg1, hh1, ldM_cells, Nat.zero_add, List.getElem?_cons_zero, List.getElem?_cons_succ, someEx, T.lnv32 hk, T.lnv32 hj, bin_sneq, bne, beq_self_eq_true, Bool.not_true, cond_bool]
  unfold J17_3
  refine lp17_4 (fun (i : Nat) _ => kids.length - i) (fun i τ => σ2.sub τ ∧ i ≤ kids.length) (fun i => .pv (.int .i64 ((i : Nat) : Int))) 0 ⟨sub_refl _, Nat.zero_le _⟩ ?_
  rintro i τ ⟨hs, hi'⟩
  have hgt := hg τ hs
  have hht' := hh τ hs
  unfold L17_4
  simp (disch := omega) only [lock_eq, go_sem, hgt, hht', ldM_cells, Nat.zero_add, List.getElem?_cons_zero, List.getElem?_cons_succ, someEx, T.lnv32 hk, T.lnv32 hj]
  refine iteI (fun g1 => ?_) (fun g1 => ?_)
  · refine T.ixv32 hk g1 (flatE_len kids) ?_
    have hld : ∀ σ K, loadD PS σ 34 (.elemP (flatE kids) (i * 5)) K = K (ereAV kids[i]) := by
      intro σ K
      rw [load_elemA T.hT34 T.ag34, T.sz34, flatE_get kids i g1]
      exact propext ⟨fun h => h.2, fun h => ⟨by rw [flatE_len]; omega, h⟩⟩
    have hok1 := okTs_mem o6' i g1
    have hht1 := htsE_mem i g1
    simp (disch := omega) only [hld, hgt, hht', ldM_cells, T.fa34_2, nilD, go_sem, List.getElem?_cons_zero, List.getElem?_cons_succ, someEx, Nat.zero_add]
    refine T.ixv32 hj g1 (flatE_len kids) ?_
    simp only [hld]
    generalize kids[i] = e1 at hok1 hht1
    rw [h1]
    refine ⟨_, _, e1, rfl, EV.self e1, EV.self e1, hok1, by omega, ?_⟩
    intro τ3 hs3
    simp (disch := omega) only [go_sem]
    exact back (i + 1) rfl (by omega) ⟨AS.sub_trans hs hs3, g1⟩
  · exact retV_self (hK τ (AS.sub_trans hS2.sub hs))
theorem F_tSame (hm : HME) : ∀ n : Nat, SoundF PS 17 (T_tSame n)
  | 0 => by
    rintro w0 hS ρ σ w args us K X H hr ⟨v, v2, e, _, _, _, _, hht, _⟩
    cases e
    rw [htE] at hht
    omega
  | n + 1 => body_sound hm (EnvOk.add (env0_ok PS) (F_tSame hm n)) an17 Try.func17 Try.call17 S17_ok (fun args σ K X h => T_tSame_ok rfl h)
end
end Go.AD.Lx

/- ere: awake. -/
set_option linter.unusedVariables false
set_option linter.unusedSimpArgs false
set_option maxRecDepth 100000
namespace Go.AD.Lx
open Go.Proofs RowKit
section
variable {env : Env} {args : List AV} {σ0 σ τ : AS} {K : AV → AS → Prop} {X : PV → AS → Prop}
def T_awake3 : Tr := fun args σ K _ => args = [] ∧ ∀ σ', σ.sub σ' → K (.pv (.bool true)) σ'
theorem T_awake3_ok (h1 : env 16 = T_eParse) (h : T_awake3 args σ K X) : bodyD PS env an15 Try.f15 args σ K X := by
  obtain ⟨rfl, hK⟩ := h
  rw [← S15_eq env, S15]
  simp only [lock_eq]
  rw [h1]
  refine ⟨_, rfl, by decide, ?_⟩
  intro σ1 hs1
  rw [parse_w1]
  generalize he : ETree.mk eAlt [] [eSet1 97, ETree.mk eRep [] [eSet1 98] 0 (-1)] 0 0 = e1
  simp only [parseV, extractD, List.getElem?_cons_zero, List.getElem?_cons_succ, someEx]
  refine alloc_E (Sep.start σ1) ?_
  intro t1 σ2 hS2
  refine store_E (A := []) EV.zero (EV.self e1) hS2 ?_
  intro σ3 hS3
  refine ⟨_, rfl, by decide, ?_⟩
  intro σ4 hs4
  rw [parse_w2]
  simp only [parseV, extractD, List.getElem?_cons_zero, List.getElem?_cons_succ, someEx]
  have hS4 := sepUp hS3 hs4
  refine alloc_E hS4 ?_
  intro t3 σ5 hS5
  refine store_E (A := []) EV.zero EV.zero hS5 ?_
  intro σ6 hS6
  have hg := hS6.get (i := t1) (o := .cells (ereAV e1).cells (some 34)) (by simp [VarE])
  subst he
  have hg : σ6 t1 = some (.cells [.pv (.str eAlt), .pv (.str []), .pv (.lst 2 (flatE [eSet1 97, ETree.mk eRep [] [eSet1 98] 0 (-1)])), .pv (.int .i64 0), .pv (.int .i64 0)] (some 34)) := hg
  have hld : ∀ σ K, loadD PS σ 9 (.elemP (flatE [eSet1 97, ETree.mk eRep [] [eSet1 98] 0 (-1)]) 5) K = K (.pv (.str eRep)) := by
    intro σ K
    have e : (flatE [eSet1 97, ETree.mk eRep [] [eSet1 98] 0 (-1)])[5]? = some (.str eRep) := rfl
    rw [T.le9, e, someEx]
  have hx : ∀ K : AV → Prop, indexAddrD PS 32 (.pv (.lst 2 (flatE [eSet1 97, ETree.mk eRep [] [eSet1 98] 0 (-1)]))) (.pv (.int .i64 1)) K = K (.elemP (flatE [eSet1 97, ETree.mk eRep [] [eSet1 98] 0 (-1)]) (1 * 5)) := fun K => T.ixl32 (i := 1) (by decide) (flatE_len _)
  simp (disch := omega) only [go_sem, hg, ldM_cells, Nat.zero_add, List.getElem?_cons_zero, List.getElem?_cons_succ, someEx, hx, hld]
  have e1 : (eAlt == [97, 108, 116]) = true := by decide
  have e2 : (eRep == [114, 101, 112]) = true := by decide
  simp only [e1, e2, beq_self_eq_true, if_true]
  exact retV_self (hK σ6 (AS.sub_trans hs1 hS6.sub))
theorem F_awake3 (hm : HME) : SoundF PS 15 T_awake3 :=
  body_sound hm (EnvOk.add (env0_ok PS) (F_eParse hm)) an15 Try.func15 Try.call15 S15_ok (fun args σ K X h => T_awake3_ok rfl h)
end
end Go.AD.Lx

/- ere: the quoted text's tree. Plain. -/
set_option linter.unusedVariables false
set_option linter.unusedSimpArgs false
set_option maxRecDepth 100000
namespace Go.AD.Lx
open ETree
def alnumB (c : UInt8) : Bool := (decide (48 ≤ c.toNat) && decide (c.toNat ≤ 57)) || (decide (97 ≤ c.toNat) && decide (c.toNat ≤ 122)) || (decide (65 ≤ c.toNat) && decide (c.toNat ≤ 90))
def quote1 (c : UInt8) : Bytes := if alnumB c = true then [91, c, 93] else [92, c]
def quoteE (s : Bytes) : Bytes := s.flatMap quote1
theorem textB_one_nat : ∀ n : Nat, n < 256 → textB (putB noB n n) true = [UInt8.ofNat n] := by decide +kernel
theorem textB_one (c : UInt8) : textB (putB noB c.toNat c.toNat) true = [c] := by
  rw [textB_one_nat c.toNat c.toNat_lt, UInt8.ofNat_toNat]
theorem hp1 (a c : UInt8) (r : Bytes) : Lib.hasPrefix (a :: r) [c] = decide (a = c) := by
  by_cases e : a = c
  · subst e
    show ((a == a) && true) = _
    rw [beq_self_eq_true]
    simp
  · show ((c == a) && true) = _
    have : (c == a) = false := beq_eq_false_iff_ne.2 (Ne.symm e)
    rw [this, decide_eq_false e]
    rfl
theorem setE_one {c : UInt8} (h : alnumB c = true) (r : Bytes) : setE (c :: 93 :: r) = .ok (eSet1 c, r) := by
  have n1 : c ≠ 94 := by rintro rfl; revert h; decide
  have n2 : c ≠ 91 := by rintro rfl; revert h; decide
  have n3 : c ≠ 92 := by rintro rfl; revert h; decide
  have i1 : itemE (c :: 93 :: r) noB = .ok (some c, 93 :: r, noB) := by
    have : Lib.hasPrefix (c :: 93 :: r) [91, 58] = false := by
      show ((91 == c) && _) = false
      have : (91 == c) = false := beq_eq_false_iff_ne.2 (fun e => n2 e.symm)
      rw [this]; rfl
    simp [itemE, this, hp1, n3]
  have s1 : setL (r.length + 2 + 1) true (c :: 93 :: r) noB = .ok (r, putB noB c.toNat c.toNat) := by
    rw [setL]
    simp [i1]
    rw [setL]
    simp [hp1]
  simp only [setE, hp1, n1, decide_false, List.length_cons]
  simp only [s1, textB_one, Bool.not_false, eSet1, if_false, Bool.false_eq_true]
theorem escE_one {c : UInt8} (h : alnumB c = false) (r : Bytes) : escE (c :: r) = .ok (c, r) := by
  have n0 : upB 55 c = false := by
    unfold upB
    unfold alnumB at h
    simp at h ⊢
    show 48 ≤ c.toNat → 55 < c.toNat
    omega
  have d0 : digN 55 3 (c :: r) = 0 := by simp [digN, spanL, n0]
  have ix : ∀ c : UInt8, alnumB c = false → ¬ 0 ≤ Lib.indexByte lPlain c := by
    intro c hc
    have : ∀ n : Nat, n < 256 → alnumB (UInt8.ofNat n) = false → ¬ 0 ≤ Lib.indexByte lPlain (UInt8.ofNat n) := by decide +kernel
    have h := this c.toNat c.toNat_lt
    rw [UInt8.ofNat_toNat] at h
    exact h hc
  simp [escE, d0, ix c h]
theorem atomE_one (f d : Nat) (c : UInt8) (r : Bytes) : atomE (f + 1) d (quote1 c ++ r) = .ok (eSet1 c, r) := by
  unfold quote1
  rw [atomE]
  by_cases h : alnumB c = true
  · simp [h, setE_one h]
  · simp only [Bool.not_eq_true] at h
    simp [h, escE_one h, eSet1]
/-- What stands behind a quoted octet: nothing, or a quoted octet. -/
theorem rep_none (s : Bytes) : repE (quoteE s) = .ok (none, quoteE s) := by
  cases s with
  | nil => rfl
  | cons c s =>
    unfold quoteE
    rw [List.flatMap_cons]
    unfold quote1
    by_cases h : alnumB c = true <;> simp [h, repE, hp1]
theorem pieces_quote : ∀ (s : Bytes) (f d : Nat) (l : List ETree), s.length < f → piecesE f d (quoteE s) l = .ok (joinedE eCat (l ++ s.map eSet1), [])
  | [], f + 1, d, l, _ => by
    rw [piecesE]
    simp [quoteE]
  | c :: s, f + 1, d, l, h => by
    have ih := pieces_quote s f d (l ++ [eSet1 c]) (by simpa using h)
    have hr := rep_none (c :: s)
    have e : quoteE (c :: s) = quote1 c ++ quoteE s := rfl
    have hq : ¬ (quoteE (c :: s) = [] ∨ ((quoteE (c :: s)).getD 0 0).toNat = 124 ∨ ((quoteE (c :: s)).getD 0 0).toNat = 41) := by
      rw [e]
      unfold quote1
      by_cases h : alnumB c = true <;> simp [h]
    obtain ⟨g, rfl⟩ : ∃ g, f = g + 1 := ⟨f - 1, by simp at h; omega⟩
    rw [piecesE, if_neg hq, hr, e]
    simp only [atomE_one, repsE, rep_none, ih]
    simp
theorem sizes_one : ∀ s : Bytes, sizesE (s.map eSet1) = s.length
  | [] => rfl
  | c :: s => by
    rw [List.map_cons, sizesE, sizes_one s, List.length_cons]
    have : sizeE (eSet1 c) = 1 := by
      unfold eSet1
      rw [sizeE, if_neg (by decide), if_neg (by decide), if_neg (by decide)]
      rfl
    omega
theorem quote_len : ∀ s : Bytes, s.length ≤ (quoteE s).length ∧ (quoteE s).length ≤ 3 * s.length
  | [] => ⟨Nat.le_refl _, Nat.le_refl _⟩
  | c :: s => by
    have := quote_len s
    have e : quoteE (c :: s) = quote1 c ++ quoteE s := rfl
    have : (quote1 c).length = 3 ∨ (quote1 c).length = 2 := by unfold quote1; split <;> simp
    rw [e, List.length_append, List.length_cons]
    omega
theorem parse_quote {s : Bytes} (h2 : 2 ≤ s.length) (h6 : s.length ≤ 600) : parseE (quoteE s) = .ok (mk eCat [] (s.map eSet1) 0 0) := by
  have hl := quote_len s
  have hp := pieces_quote s (3 * (quoteE s).length + 2) 0 [] (by omega)
  have hj : joinedE eCat ([] ++ s.map eSet1) = mk eCat [] (s.map eSet1) 0 0 := by
    match s, h2 with
    | a :: b :: r, _ => rfl
  rw [hj] at hp
  have hs : sizeE (mk eCat [] (s.map eSet1) 0 0) ≤ 600 := by
    rw [sizeE, if_pos rfl, sizes_one]
    omega
  unfold parseE
  have e3 : 3 * (quoteE s).length + 3 = (3 * (quoteE s).length + 2) + 1 := rfl
  rw [e3, branchesE, hp]
  have ha : altsE (3 * (quoteE s).length + 2) 0 [] [mk eCat [] (s.map eSet1) 0 0] = .ok (mk eCat [] (s.map eSet1) 0 0, []) := by
    have e2 : 3 * (quoteE s).length + 2 = (3 * (quoteE s).length + 1) + 1 := rfl
    rw [e2, altsE]
    rfl
  simp only [ha, ne_eq, not_true, if_false]
  rw [if_neg (by omega)]
theorem quote_snoc {s : Bytes} {i : Nat} (h : i < s.length) : quoteE (s.take (i + 1)) = quoteE (s.take i) ++ quote1 (s.getD i 0) := by
  have e : s.getD i 0 = s[i] := by rw [List.getD_eq_getElem?_getD, List.getElem?_eq_getElem h]; rfl
  rw [e, List.take_add_one, List.getElem?_eq_getElem h]
  unfold quoteE
  rw [List.flatMap_append]
  show _ ++ List.flatMap quote1 [s[i]] = _
  rw [List.flatMap_cons, List.flatMap_nil, List.append_nil]
end Go.AD.Lx

/- ere: EreQuotes walked. -/
set_option linter.unusedVariables false
set_option linter.unusedSimpArgs false
set_option maxRecDepth 100000
namespace Go.AD.Lx
open Go.Proofs RowKit
section
variable {env : Env} {args : List AV} {σ0 σ τ : AS} {K : AV → AS → Prop} {X : PV → AS → Prop}
def T_EreQuotes : Tr := fun args σ K _ => ∃ s : Bytes, args = [.pv (.str s)] ∧ ∀ σ', K (.pv (.bool true)) σ'
theorem quote_j11 {I7 : Nat → List AV → AS → Prop} {m i : Nat} {s q : Bytes} {b : Bool} (hi : i < s.length) (hs : s.length ≤ 600) (hq : q.length ≤ 3 * 600) (hb : b = alnumB (s.getD i 0))
    (hB : ∃ m', m' < m ∧ I7 m' [.pv (.str s), .pv (.str (q ++ quote1 (s.getD i 0))), .pv (.int .i64 ((i + 1 : Nat) : Int))] τ) : J7_11 env I7 m (.pv (.str s)) (.pv (.str q)) (.pv (.int .i64 (i : Nat))) (.pv (.bool b)) τ K X := by
  have hsb : ∀ K : AV → Prop, sliceD PS 9 (.pv (.str s)) (some (.pv (.int .i64 (i : Nat)))) (some (.pv (.int .i64 ((i + 1 : Nat) : Int)))) K = K (.pv (.str ((s.take (i + 1)).drop i))) := fun K => T.sb9 (by omega) hi
  have e1 : (s.take (i + 1)).drop i = [s.getD i 0] := by
    have e : s.getD i 0 = s[i] := by rw [List.getD_eq_getElem?_getD, List.getElem?_eq_getElem hi]; rfl
    rw [e, List.drop_take, show i + 1 - i = 1 by omega, List.drop_eq_getElem_cons hi]
    rfl
  rw [e1] at hsb
  unfold quote1 at hB
  unfold J7_11
  simp (disch := omega) only [lock_eq, go_sem, hsb]
  refine iteI (fun g1 => ?_) (fun g1 => ?_)
  · rw [hb] at g1
    rw [if_pos g1] at hB
    exact ⟨by simp only [List.length_append, List.length_cons, List.length_nil]; omega, by simp only [List.length_append, List.length_cons, List.length_nil]; omega, by simp only [List.length_append, List.length_cons, List.length_nil]; omega, hB⟩
  · rw [hb] at g1
    rw [if_neg g1] at hB
    exact ⟨by simp only [List.length_append, List.length_cons, List.length_nil]; omega, by simp only [List.length_append, List.length_cons, List.length_nil]; omega, hB⟩
theorem T_EreQuotes_ok (h1 : env 15 = T_awake3) (h2 : env 16 = T_eParse) (h : T_EreQuotes args σ K X) : bodyD PS env an7 Try.f7 args σ K X := by
  obtain ⟨s, rfl, hK⟩ := h
  rw [← S7_eq env, S7]
  simp only [lock_eq]
  rw [h1]
  refine ⟨rfl, ?_⟩
  intro σ1 hs1
  simp (disch := omega) only [go_sem]
  refine iteI (fun g1 => ?_) (fun g1 => ?_)
  · exact absurd g1 (by decide)
  refine iteI (fun g4 => ?_) (fun g4 => ?_)
  · exact retV_self (hK σ1)
  refine iteI (fun g2 => ?_) (fun g2 => ?_)
  · exact retV_self (hK σ1)
  unfold J7_5
  refine lp7_7 (fun (i : Nat) _ => s.length - i) (fun i τ => i ≤ s.length) (fun i => .pv (.str (quoteE (s.take i)))) (fun i => .pv (.int .i64 ((i : Nat) : Int))) 0 (Nat.zero_le _) ?_
  intro i τ hi
  have hql := quote_len (s.take i)
  rw [List.length_take] at hql
  unfold L7_7
  simp (disch := omega) only [lock_eq, go_sem]
  refine iteI (fun g3 => ?_) (fun g3 => ?_)
  · have ix : ∀ K : AV → Prop, indexD PS 9 (.pv (.str s)) (.pv (.int .i64 (i : Nat))) K = K (.pv (.int .u8 (s.getD i 0).toNat)) := fun K => T.is9 g3
    simp (disch := omega) only [ix, go_sem]
    have hB : ∃ m', m' < s.length - i ∧ Inv (fun a => [AV.pv (PV.str s), AV.pv (PV.str (quoteE (List.take a s))), AV.pv (PV.int IntKind.i64 ((a : Nat) : Int))]) (fun i x => s.length - i) (fun (i : Nat) (τ : AS) => i ≤ s.length) m' [.pv (.str s), .pv (.str (quoteE (s.take i) ++ quote1 (s.getD i 0))), .pv (.int .i64 ((i + 1 : Nat) : Int))] τ := by
      refine back (i + 1) ?_ (by omega) (by show i + 1 ≤ s.length; omega)
      rw [quote_snoc g3]
    have al : ∀ b : Bool, b = alnumB (s.getD i 0) ↔ (b = true ↔ ((48 ≤ (s.getD i 0).toNat ∧ (s.getD i 0).toNat ≤ 57) ∨ (97 ≤ (s.getD i 0).toNat ∧ (s.getD i 0).toNat ≤ 122) ∨ (65 ≤ (s.getD i 0).toNat ∧ (s.getD i 0).toNat ≤ 90))) := by
      intro b
      rw [Bool.eq_iff_iff]
      unfold alnumB
      simp only [Bool.or_eq_true, Bool.and_eq_true, decide_eq_true_eq, or_assoc]
    repeat' split
    all_goals refine quote_j11 g3 (by omega) (by omega) ((al _).2 ?_) hB
    all_goals simp only [decide_eq_true_eq, true_iff, Bool.false_eq_true, false_iff]
    all_goals omega
  · have e0 : i = s.length := by omega
    subst e0
    rw [List.take_length] at hql ⊢
    rw [h2]
    refine ⟨_, rfl, by omega, ?_⟩
    intro σ3 hs3
    rw [parse_quote (by omega) (by omega)]
    generalize he : ETree.mk eCat [] (s.map eSet1) 0 0 = e1
    simp only [parseV, extractD, List.getElem?_cons_zero, List.getElem?_cons_succ, someEx]
    refine alloc_E (Sep.start σ3) ?_
    intro t6 σ4 hS4
    refine store_E (A := []) EV.zero (EV.self e1) hS4 ?_
    intro σ5 hS5
    have hg := hS5.get (i := t6) (o := .cells (ereAV e1).cells (some 34)) (by simp [VarE])
    subst he
    have hlm : (s.map eSet1).length = s.length := List.length_map ..
    have hg : σ5 t6 = some (.cells [.pv (.str eCat), .pv (.str []), .pv (.lst (s.map eSet1).length (flatE (s.map eSet1))), .pv (.int .i64 0), .pv (.int .i64 0)] (some 34)) := hg
    have ec : (eCat == [99, 97, 116]) = true := by decide
    simp (disch := omega) only [go_sem, hg, ldM_cells, Nat.zero_add, List.getElem?_cons_zero, List.getElem?_cons_succ, someEx, bin_sneq, bne, ec, beq_self_eq_true, Bool.not_true, cond_bool, hlm]
    unfold J7_16
    simp (disch := omega) only [lock_eq, go_sem, hg, ldM_cells, Nat.zero_add, List.getElem?_cons_zero, List.getElem?_cons_succ, someEx, hlm]
    simp only [Bool.false_eq_true, if_false]
    refine lp7_17 (fun (i : Nat) _ => s.length - i) (fun i τ => i ≤ s.length) (fun i => .pv (.int .i64 ((i : Nat) : Int))) 0 (Nat.zero_le _) ?_
    intro i τ hi
    unfold L7_17
    simp (disch := omega) only [lock_eq, go_sem]
    refine iteI (fun g5 => ?_) (fun g5 => ?_)
    · have g6 : i < (s.map eSet1).length := by omega
      have hx : ∀ K : AV → Prop, indexAddrD PS 32 (.pv (.lst s.length (flatE (s.map eSet1)))) (.pv (.int .i64 (i : Nat))) K = K (.elemP (flatE (s.map eSet1)) (i * 5)) := fun K => T.ixl32 g5 (by rw [flatE_len, hlm])
      have hld : ∀ σ K, loadD PS σ 34 (.elemP (flatE (s.map eSet1)) (i * 5)) K = K (ereAV (eSet1 s[i])) := by
        intro σ K
        rw [load_elemA T.hT34 T.ag34, T.sz34, flatE_get (s.map eSet1) i g6, List.getElem_map]
        exact propext ⟨fun h => h.2, fun h => ⟨by rw [flatE_len]; omega, h⟩⟩
      have hsb : ∀ K : AV → Prop, sliceD PS 9 (.pv (.str s)) (some (.pv (.int .i64 (i : Nat)))) (some (.pv (.int .i64 ((i + 1 : Nat) : Int)))) K = K (.pv (.str ((s.take (i + 1)).drop i))) := fun K => T.sb9 (by omega) g5
      have e1 : (s.take (i + 1)).drop i = [s[i]] := by
        rw [List.drop_take, show i + 1 - i = 1 by omega, List.drop_eq_getElem_cons g5]
        rfl
      rw [e1] at hsb
      simp only [hx, hld]
      generalize s[i] = c at hsb
      refine alloc_E (Sep.start τ) ?_
      intro t9 σ7 hS7
      refine store_E (A := []) EV.zero (EV.self (eSet1 c)) hS7 ?_
      intro σ8 hS8
      have hg8 := hS8.get (i := t9) (o := .cells (ereAV (eSet1 c)).cells (some 34)) (by simp [VarE])
      have hg8 : σ8 t9 = some (.cells [.pv (.str eSet), .pv (.str [c]), .pv (.lst 0 []), .pv (.int .i64 0), .pv (.int .i64 0)] (some 34)) := hg8
      have ec : (eSet == [115, 101, 116]) = true := by decide
      simp (disch := omega) only [go_sem, hg8, hsb, ldM_cells, Nat.zero_add, List.getElem?_cons_zero, List.getElem?_cons_succ, someEx, bin_sneq, bne, ec, beq_self_eq_true, Bool.not_true, cond_bool, Bool.false_eq_true, if_false]
      exact back (i + 1) rfl (by omega) g5
    · exact retV_self (hK τ)
theorem F_EreQuotes (hm : HME) : SoundF PS 7 T_EreQuotes :=
  body_sound hm (EnvOk.add (EnvOk.add (env0_ok PS) (F_awake3 hm)) (F_eParse hm)) an7 Try.func7 Try.call7 S7_ok (fun args σ K X h => T_EreQuotes_ok rfl rfl h)
end
end Go.AD.Lx
