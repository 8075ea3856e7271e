import Derived.Test.YtjgjmpophpifgaaLeB
import Derived.Test.YtjgjmpophpifgaaAd21
/- ere: size. -/
set_option linter.unusedVariables false
set_option linter.unusedSimpArgs false
set_option maxRecDepth 100000
namespace Go.AD.Lx
open Go.Proofs RowKit
def timesE (lo hi : Int) : Nat := if hi < 0 then (lo + 1).toNat else (max 1 hi).toNat
mutual
def sizeE : ETree → Nat
  | .mk op _ kids lo hi => min (if op = eCat then sizesE kids else if op = eAlt then sizesE kids + 1 else if op = eRep then sizesE kids * timesE lo hi + 1 else 1) 2001
def sizesE : List ETree → Nat
  | [] => 0
  | e :: l => sizeE e + sizesE l
end
mutual
def okT : ETree → Prop
  | .mk _ _ kids lo hi => 0 ≤ lo ∧ lo ≤ 255 ∧ -1 ≤ hi ∧ hi ≤ 255 ∧ kids.length ≤ 100000 ∧ okTs kids
def okTs : List ETree → Prop
  | [] => True
  | e :: l => okT e ∧ okTs l
end
mutual
def htE : ETree → Nat
  | .mk _ _ kids _ _ => htsE kids + 1
def htsE : List ETree → Nat
  | [] => 0
  | e :: l => max (htE e) (htsE l)
end
theorem okTs_mem : ∀ {l : List ETree}, okTs l → ∀ (i : Nat) (h : i < l.length), okT l[i]
  | e :: l, h, 0, _ => by rw [okTs] at h; exact h.1
  | e :: l, h, i + 1, hi => by rw [okTs] at h; exact okTs_mem h.2 i (by simpa using hi)
theorem htsE_mem : ∀ {l : List ETree} (i : Nat) (h : i < l.length), htE l[i] ≤ htsE l
  | e :: l, 0, _ => by rw [htsE]; exact Nat.le_max_left _ _
  | e :: l, i + 1, hi => by rw [htsE]; exact Nat.le_trans (htsE_mem i (by simpa using hi)) (Nat.le_max_right _ _)
theorem sizeE_le : ∀ e, sizeE e ≤ 2001
  | .mk _ _ _ _ _ => by rw [sizeE]; exact Nat.min_le_right _ _
theorem sizesE_le : ∀ l, sizesE l ≤ l.length * 2001
  | [] => by simp [sizesE]
  | e :: l => by
    have h1 := sizeE_le e
    have h2 := sizesE_le l
    rw [sizesE, List.length_cons]; omega
theorem sizesE_snoc : ∀ (l : List ETree) (e : ETree), sizesE (l ++ [e]) = sizesE l + sizeE e
  | [], e => by simp [sizesE]
  | a :: l, e => by
    have := sizesE_snoc l e
    rw [List.cons_append, sizesE, sizesE, this]; omega
section
variable {env : Env} {args : List AV} {σ0 σ τ : AS} {K : AV → AS → Prop} {X : PV → AS → Prop}
def T_eSize (n : Nat) : Tr := fun args σ K _ => ∃ (v : AV) (e : ETree), args = [v] ∧ EV v e ∧ okT e ∧ htE e ≤ n ∧ ∀ σ', σ.sub σ' → K (.pv (.int .i64 (sizeE e : Nat))) σ'
theorem T_eSize_ok {n : Nat} (h1 : env 32 = T_eSize n) (h : T_eSize (n + 1) args σ K X) : bodyD PS env an32 Try.f32 args σ K X := by
  obtain ⟨v, e, rfl, hv, hok, hht, hK⟩ := h
  rw [← S32_eq env, S32]
  obtain ⟨cs, rfl, l1, c1, o1, p1⟩ := hv.cells5
  simp only [lock_eq]
  refine ⟨by rw [c1]; exact o1, ?_⟩
  intro t1 ht1
  have hS1 := (Sep.start σ).alloc ht1 (.cells cs none)
  rw [c1]
  generalize (σ.set t1 (.cells cs none)) = σ1 at hS1
  obtain ⟨op, st, kids, lo, hi⟩ := e
  obtain ⟨k, hk0, hk, hkc, hko⟩ := hv
  simp only [AV.agg.injEq] at hk0
  subst hk0
  rw [okT] at hok
  obtain ⟨o1', o2', o3', o4', o5', o6'⟩ := hok
  rw [htE] at hht
  rw [sizeE] at hK
  have hg : ∀ τ, σ1.sub τ → τ t1 = some (.cells [.pv (.str op), .pv (.str st), k, .pv (.int .i64 lo), .pv (.int .i64 hi)] none) := fun τ hs => hs _ _ (hS1.get (by simp [ETree.op, ETree.set, ETree.lo, ETree.hi]))
  have hk : toPV k = some (.lst kids.length (flatE kids)) := hk
  have hg1 := hg σ1 (sub_refl _)
  simp (disch := omega) only [go_sem, hg1, ldM_cells, Nat.zero_add, List.getElem?_cons_zero, List.getElem?_cons_succ, someEx, T.lnv32 hk]
  refine lp32_3 (fun (i : Nat) _ => kids.length - i) (fun i τ => σ1.sub τ ∧ i ≤ kids.length) (fun i => .pv (.int .i64 (sizesE (kids.take i) : Nat))) (fun i => .pv (.int .i64 ((i : Nat) : Int))) 0 ⟨sub_refl _, Nat.zero_le _⟩ ?_
  rintro i τ ⟨hs, hi'⟩
  have hsz := sizesE_le (kids.take i)
  rw [List.length_take] at hsz
  unfold L32_3
  simp (disch := omega) only [lock_eq, go_sem]
  refine iteI (fun g1 => ?_) (fun g1 => ?_)
  · have htk : kids.take (i + 1) = kids.take i ++ [kids[i]] := by rw [List.take_add_one, List.getElem?_eq_getElem g1]; rfl
    have hx : ∀ K : AV → Prop, K (.elemP (flatE kids) (i * 5)) → indexAddrD PS 32 k (.pv (.int .i64 (i : Nat))) K := fun K h => T.ixv32 hk g1 (flatE_len kids) h
    refine hx _ ?_
    have hld : ∀ σ K, loadD PS σ 34 (.elemP (flatE kids) (i * 5)) K = K (ereAV kids[i]) := by
      intro σ K
      rw [load_elemA T.hT34 T.ag34, T.sz34, flatE_get kids i g1]
      exact propext ⟨fun h => h.2, fun h => ⟨by rw [flatE_len]; omega, h⟩⟩
    have hok1 := okTs_mem o6' i g1
    have hht1 := htsE_mem i g1
    have hsi := sizeE_le kids[i]
    have hss := sizesE_snoc (kids.take i) kids[i]
    rw [← htk] at hss
    simp only [hld]
    generalize kids[i] = e1 at hok1 hht1 hsi hss
    refine alloc_E (Sep.start τ) ?_
    intro t5 τ1 hS5
    refine store_E (A := []) EV.zero (EV.self e1) hS5 ?_
    intro τ2 hS6
    have hg5 := hS6.get (i := t5) (o := .cells (ereAV e1).cells (some 34)) (by simp [VarE])
    rw [load_E (EV.self e1) hg5, h1]
    refine ⟨_, e1, rfl, EV.self e1, hok1, by omega, ?_⟩
    intro τ3 hs3
    simp (disch := omega) only [go_sem]
    refine back (i + 1) ?_ (by omega) ⟨AS.sub_trans hs (AS.sub_trans hS6.sub hs3), g1⟩
    rw [hss]
  · rw [List.take_of_length_le (by omega)] at hsz ⊢
    have hgt := hg τ hs
    have hsz2 : sizesE kids ≤ 100000 * 2001 := by
      have := sizesE_le kids
      omega
    have hKt := hK τ (AS.sub_trans hS1.sub hs)
    simp (disch := omega) only [go_sem, hgt, ldM_cells, Nat.zero_add, List.getElem?_cons_zero, List.getElem?_cons_succ, someEx, beq_iff_eq]
    refine iteI (fun g2 => ?_) (fun g2 => ?_)
    · rw [if_pos (show op = eCat from g2)] at hKt
      exact retV_self hKt
    rw [if_neg (show ¬ op = eCat from g2)] at hKt
    refine iteI (fun g3 => ?_) (fun g3 => ?_)
    · rw [if_pos (show op = eAlt from g3)] at hKt
      exact retV_self hKt
    rw [if_neg (show ¬ op = eAlt from g3)] at hKt
    refine iteI (fun g4 => ?_) (fun g4 => ?_)
    · rw [if_pos (show op = eRep from g4)] at hKt
      have j16 : ∀ tm : Nat, tm ≤ 256 → timesE lo hi = tm → J32_16 env (.pv (.int .i64 (sizesE kids : Nat))) (.pv (.int .i64 (tm : Nat))) τ K X := by
        intro tm htm he
        rw [he] at hKt
        have hprod : sizesE kids * tm ≤ 100000 * 2001 * 256 := Nat.mul_le_mul hsz2 htm
        unfold J32_16
        simp (disch := omega) only [lock_eq, go_sem]
        exact retV_self hKt
      refine iteI (fun g5 => ?_) (fun g5 => ?_)
      · obtain ⟨m, hm⟩ : ∃ m : Nat, lo + 1 = (m : Int) := ⟨(lo + 1).toNat, by omega⟩
        rw [hm]
        exact j16 m (by omega) (by unfold timesE; rw [if_pos g5]; omega)
      · obtain ⟨m, hm⟩ : ∃ m : Nat, max 1 hi = (m : Int) := ⟨(max 1 hi).toNat, by omega⟩
        rw [hm]
        exact j16 m (by omega) (by unfold timesE; rw [if_neg g5]; omega)
    · rw [if_neg (show ¬ op = eRep from g4)] at hKt
      exact retV_self hKt
theorem F_eSize (hm : HME) : ∀ n : Nat, SoundF PS 32 (T_eSize n)
  | 0 => by
    rintro w0 hS ρ σ w args us K X H hr ⟨v, e, _, _, _, hht, _⟩
    cases e
    rw [htE] at hht
    omega
  | n + 1 => body_sound hm (EnvOk.add (env0_ok PS) (F_eSize hm n)) an32 Try.func32 Try.call32 S32_ok (fun args σ K X h => T_eSize_ok rfl h)
end
end Go.AD.Lx

/- ere: Parse, with its deferred closure. -/
set_option linter.unusedVariables false
set_option linter.unusedSimpArgs false
set_option maxRecDepth 100000
namespace Go.AD.Lx
open Go.Proofs RowKit
def anE : An := { mu := [], cut := [], loop := [] }
noncomputable def cPa : Code := subC (bodyC Try.f16) [0]
noncomputable def cPb : Code := subC (bodyC Try.f16) [1, 1]
noncomputable def cCl : Code := subC (bodyC Try.f30) [1]
/-- The closure behind its 'recover'. -/
def SCl (t0 t1 rv : AV) (σ : AS) (K : AS → Prop) : Prop :=
 (lock binD Try.prog .eql 20 rv (.pv .nilIface) fun t7 =>
 (condD t7
 (K σ)
 (lock assertD Try.prog rv 51 fun t8 =>
 (lock extractD t8 1 fun t9 =>
 (lock extractD t8 0 fun t10 =>
 (condD t9
 (lock buildD Try.prog 34 [] fun t11 =>
 (lock storeD Try.prog σ 34 t0 t11 fun σ1 =>
 (lock storeD Try.prog σ1 3 t1 t10 fun σ2 =>
 (K σ2))))
 (lock panicD σ rv fun _ _ => False)))))))
theorem SCl_eq (env : Env) (t0 t1 rv : AV) (σ : AS) (K : AS → Prop) : SCl t0 t1 rv σ K = wpD Try.prog env anE cCl (closeQ K) ((frOf 0 [t0, t1]).put (some 5) rv) σ := by
  unfold SCl
  kernel_rfl
def resP (t2 t3 : AV) (K : AV → AS → Prop) : AS → Prop := fun σ => lock loadD Try.prog σ 34 t2 fun r0 => lock loadD Try.prog σ 3 t3 fun r1 => retV (.tuple [r0, r1]) σ K
def panP (T : TrD) (t2 t3 : AV) (K : AV → AS → Prop) : PV → AS → Prop := fun p σ => T [t2, t3] σ (some p) (resP t2 t3 K)
def SP (env : Env) (T : TrD) (s0 : AV) (σ : AS) (K : AV → AS → Prop) : Prop :=
 lock allocD Try.prog σ 34 fun t2 σ1 =>
 lock allocD Try.prog σ1 3 fun t3 σ2 =>
 lock buildD Try.prog 54 [(0, s0)] fun t7 =>
 lock boxD σ2 t7 fun t8 σ3 =>
 env 31 [t8] σ3 (fun t10 σ4 =>
  lock storeD Try.prog σ4 34 t2 t10 fun σ5 =>
  lock nilD t8 fun t12 =>
  lock fieldAddrD Try.prog 54 t12 0 fun t13 =>
  lock loadD Try.prog σ5 9 t13 fun t14 =>
  lock binD Try.prog .neq 9 t14 (.pv (.str [])) fun t15 =>
  condD t15
   (lock ifaceD Try.prog 51 (.pv (.int .i64 1)) fun t16 => lock panicD σ5 t16 (panP T t2 t3 K))
   (lock loadD Try.prog σ5 34 t2 fun t17 =>
    env 32 [t17] σ5 (fun t18 σ6 =>
     lock binD Try.prog .gtr 3 t18 (.pv (.int .i64 2000)) fun t19 =>
     condD t19
      (lock ifaceD Try.prog 51 (.pv (.int .i64 5)) fun t20 => lock panicD σ6 t20 (panP T t2 t3 K))
      (lock loadD Try.prog σ6 34 t2 fun t21 =>
       lock storeD Try.prog σ6 34 t2 t21 fun σ7 =>
       lock storeD Try.prog σ7 3 t3 (.pv (.int .i64 0)) fun σ8 =>
       T [t2, t3] σ8 none (resP t2 t3 K)))
     (panP T t2 t3 K)))
  (panP T t2 t3 K)
theorem SP_eq (env : Env) (T : TrD) (s0 : AV) (σ : AS) (K : AV → AS → Prop) : SP env T s0 σ K = wpD Try.prog env anE cPa (midQ Try.prog env anE Try.f16 T cPb 5 [.tmp 2, .tmp 3] K) (frOf 0 [s0]) σ := by
  unfold SP
  kernel_rfl
end Go.AD.Lx

/- ere: Parse. -/
set_option linter.unusedVariables false
set_option linter.unusedSimpArgs false
set_option maxRecDepth 100000
namespace Go.AD.Lx
open Go.Proofs RowKit
section
variable {env : Env} {args : List AV} {σ0 σ τ : AS} {K : AV → AS → Prop} {X : PV → AS → Prop}
def T_close : TrD := fun caps σ r K => ∃ (σ0 : AS) (t2 t3 : Nat) (v : AV) (e : ETree) (c : Int), caps = [.addr t2 0, .addr t3 0] ∧ EV v e ∧ Sep σ0 σ ((t3, .cells [.pv (.int .i64 c)] (some 3)) :: [VarE t2 v]) ∧
  (match r with
    | none => K σ
    | some p => ∃ n : Nat, p = faultV n ∧ ∀ σ', Sep σ0 σ' ((t3, .cells [.pv (.int .i64 (n : Nat))] (some 3)) :: [VarE t2 vZero]) → K σ')
theorem bld_zero {K : AV → Prop} : buildD PS 34 [] K = K vZero := by
  simp [buildD, buildFill, go_sem, vZero]
theorem SCl_none {t0 t1 : AV} {K : AS → Prop} (h : K σ) : SCl t0 t1 (.pv .nilIface) σ K := by
  unfold SCl
  have hu : PS.underlying 20 = some (.interface #[]) := by kernel_rfl
  simp only [lock_eq, binD, eqD, hu]
  exact ⟨by simp, by simpa [condD] using h⟩
theorem SCl_some {t2 t3 n : Nat} {v : AV} {e : ETree} {c : Int} {K : AS → Prop} (hv : EV v e) (hS : Sep σ0 σ ((t3, .cells [.pv (.int .i64 c)] (some 3)) :: [VarE t2 v])) (hK : ∀ σ', Sep σ0 σ' ((t3, .cells [.pv (.int .i64 (n : Nat))] (some 3)) :: [VarE t2 vZero]) → K σ') : SCl (.addr t2 0) (.addr t3 0) (.pv (faultV n)) σ K := by
  unfold SCl
  have hu : PS.underlying 20 = some (.interface #[]) := by kernel_rfl
  have hf : PS.underlying 51 = some (.int .i64) := Try.underlying51
  simp only [lock_eq, binD, eqD, hu, faultV, condD, assertD, hf, true_and, Bool.false_eq_true, if_false, ext_tuple, List.getElem?_cons_zero, List.getElem?_cons_succ, someEx, if_true, bld_zero]
  refine store_E (A := [_]) (B := []) hv EV.zero hS ?_
  intro σ1 hS1
  have hg := hS1.get (i := t3) (o := .cells [.pv (.int .i64 c)] (some 3)) (by simp)
  rw [T.stp3, hg]
  exact ⟨by simp, hK _ (Sep.set1 hS1 _)⟩
theorem F_close (hm : HME) : SoundDef PS 30 T_close := by
  have hb : ∃ id o, Try.f30.body = some (.seq (.region id #[o] false) cCl) ∧ o.guard = none ∧ o.dst = some 5 ∧ (∀ (a : Act) (w : World), (execOp a.eval o).run PS w = .ok .recover w) := ⟨_, _, rfl, rfl, rfl, fun _ _ => rfl⟩
  obtain ⟨id, o, h1, h2, h3, h4⟩ := hb
  refine closure_sound hm (env0_ok PS) anE Try.func30 h1 h2 h3 (by decide) h4 (by kernel_rfl) (by kernel_rfl) ?_
  rintro args σ r K ⟨σ0, t2, t3, v, e, c, rfl, hv, hS, hr⟩
  refine ⟨by show (2 : Nat) ≤ Try.f30.ntmps; decide, ?_⟩
  unfold closureD
  cases r with
  | none =>
    rw [← SCl_eq]
    exact SCl_none hr
  | some p =>
    obtain ⟨n, rfl, hK⟩ := hr
    rw [← SCl_eq]
    exact SCl_some hv hS hK
def parseE (s : Bytes) : Except Nat ETree := match branchesE (3 * s.length + 3) 0 s with
  | .error n => .error n
  | .ok (e, r) => if r ≠ [] then .error 1 else if 2000 < sizeE e then .error 5 else .ok e
def parseV : Except Nat ETree → AV
  | .ok e => .tuple [ereAV e, .pv (.int .i64 0)]
  | .error n => .tuple [vZero, .pv (.int .i64 (n : Nat))]
def T_eBranchesA : Tr := fun args σ K X => ∃ f, T_eBranches f args σ K X
def T_eSizeA : Tr := fun args σ K X => ∃ n, T_eSize n args σ K X
def T_eParse : Tr := fun args σ K X => ∃ s : Bytes, args = [.pv (.str s)] ∧ s.length ≤ 70000 ∧ ∀ σ', σ.sub σ' → K (parseV (parseE s)) σ'
theorem bld_rd {s : Bytes} {K : AV → Prop} : buildD PS 54 [(0, .pv (.str s))] K = K (.agg [.pv (.str s), .pv (.int .i64 0)]) := by
  simp [buildD, buildFill, go_sem, AV.cells, AV.cellOk, setAll]
theorem res_go {t2 t3 : Nat} {v : AV} {e : ETree} {c : Int} {L : Objs} (hv : EV v e) (hS : Sep σ0 σ ((t3, .cells [.pv (.int .i64 c)] (some 3)) :: VarE t2 v :: L)) (hK : ∀ σ', σ0.sub σ' → K (.tuple [v, .pv (.int .i64 c)]) σ') : resP (.addr t2 0) (.addr t3 0) K σ := by
  unfold resP
  have h2 := hS.get (i := t2) (o := .cells v.cells (some 34)) (by simp [VarE])
  have h3 := hS.get (i := t3) (o := .cells [.pv (.int .i64 c)] (some 3)) (by simp)
  simp only [lock_eq, load_E hv h2, T.ld3, h3, ldM_cells, List.getElem?_cons_zero, someEx]
  exact retV_self (hK σ hS.sub)
end
end Go.AD.Lx

/- ere: Parse, walked. -/
set_option linter.unusedVariables false
set_option linter.unusedSimpArgs false
set_option maxRecDepth 100000
namespace Go.AD.Lx
open Go.Proofs RowKit
theorem countL_le : ∀ (t : Bytes) (n m : Nat), n ≤ 255 → countL t n = .ok m → m ≤ 255
  | [], n, m, hn, h => by
    rw [countL] at h
    cases h; exact hn
  | c :: t, n, m, hn, h => by
    rw [countL] at h
    split at h
    · cases h
    · exact countL_le t _ _ (by omega) h
theorem ivEnd_ok {lo to s : Bytes} {a b : Int} {r : Bytes} (h : ivEnd lo to s = .ok ((a, b), r)) : 0 ≤ a ∧ a ≤ 255 ∧ -1 ≤ b ∧ b ≤ 255 := by
  unfold ivEnd at h
  split at h
  · cases h
  rename_i m hm
  have h1 := countL_le _ _ _ (by omega) hm
  split at h
  · cases h
  rename_i q hq
  have h2 : -1 ≤ q ∧ q ≤ 255 := by
    unfold ivHi at hq
    split at hq
    · cases hq; omega
    · split at hq
      · cases hq
      · rename_i k hk
        have := countL_le _ _ _ (by omega) hk
        cases hq; omega
  split at h
  · simp only [Except.ok.injEq, Prod.mk.injEq] at h
    omega
  · cases h
theorem repE_ok {s : Bytes} {a b : Int} {r : Bytes} (h : repE s = .ok (some (a, b), r)) : 0 ≤ a ∧ a ≤ 255 ∧ -1 ≤ b ∧ b ≤ 255 := by
  unfold repE at h
  split at h
  · simp only [Except.ok.injEq, Prod.mk.injEq, Option.some.injEq] at h; omega
  split at h
  · simp only [Except.ok.injEq, Prod.mk.injEq, Option.some.injEq] at h; omega
  split at h
  · simp only [Except.ok.injEq, Prod.mk.injEq, Option.some.injEq] at h; omega
  split at h
  · split at h
    · cases h
    · rename_i x r' hi
      simp only [Except.ok.injEq, Prod.mk.injEq, Option.some.injEq] at h
      obtain ⟨rfl, _⟩ := h
      unfold intervalE at hi
      split at hi
      · exact ivEnd_ok hi
      · exact ivEnd_ok hi
  · simp only [Except.ok.injEq, Prod.mk.injEq] at h
    cases h.1
theorem repsE_ok : ∀ (f : Nat) (s : Bytes) (e e' : ETree) (r : Bytes), okT e → repsE f s e = .ok (e', r) → okT e'
  | 0, _, _, _, _, _, h => by cases h
  | f + 1, s, e, e', r, he, h => by
    rw [repsE] at h
    split at h
    · cases h
    · simp only [Except.ok.injEq, Prod.mk.injEq] at h
      rw [← h.1]; exact he
    · rename_i lo hi r' hr
      have hb := repE_ok hr
      refine repsE_ok f _ _ _ _ ?_ h
      rw [okT]
      exact ⟨hb.1, hb.2.1, hb.2.2.1, hb.2.2.2, by simp, by rw [okTs, okTs]; exact ⟨he, trivial⟩⟩
theorem okTs_snoc : ∀ {l : List ETree} {e : ETree}, okTs l → okT e → okTs (l ++ [e])
  | [], e, _, h => by rw [List.nil_append, okTs, okTs]; exact ⟨h, trivial⟩
  | a :: l, e, hl, h => by
    rw [okTs] at hl
    rw [List.cons_append, okTs]
    exact ⟨hl.1, okTs_snoc hl.2 h⟩
theorem joined_ok {op : Bytes} {l : List ETree} (hl : okTs l) (hn : l.length ≤ 100000) : okT (joinedE op l) := by
  unfold joinedE
  split
  · rename_i e
    rw [okTs] at hl
    exact hl.1
  · rw [okT]
    exact ⟨by decide, by decide, by decide, by decide, hn, hl⟩
theorem plain_ok (op st : Bytes) : okT (.mk op st [] 0 0) := by
  rw [okT, okTs]
  exact ⟨by decide, by decide, by decide, by decide, by simp, trivial⟩
theorem parse_ok : ∀ f : Nat, (∀ d s e r, s ≠ [] → s.length ≤ 70001 → atomE f d s = .ok (e, r) → okT e) ∧ (∀ d s l e r, okTs l → l.length + s.length ≤ 70001 → piecesE f d s l = .ok (e, r) → okT e) ∧ (∀ d s e r, s.length ≤ 70000 → branchesE f d s = .ok (e, r) → okT e) ∧ (∀ d s l e r, okTs l → l.length + s.length ≤ 70001 → altsE f d s l = .ok (e, r) → okT e)
  | 0 => ⟨(fun _ _ _ _ _ _ h => by rw [atomE] at h; cases h), (fun _ _ _ _ _ _ _ h => by rw [piecesE] at h; cases h), (fun _ _ _ _ _ h => by rw [branchesE] at h; cases h), (fun _ _ _ _ _ _ _ h => by rw [altsE] at h; cases h)⟩
  | f + 1 => by
    obtain ⟨ha, hp, hb, hal⟩ := parse_ok f
    refine ⟨fun d s e r hne hs h => ?_, fun d s l e r hl hs h => ?_, fun d s e r hs h => ?_, fun d s l e r hl hs h => ?_⟩
    · have hp0 : 0 < s.length := List.length_pos_iff.2 hne
      have hd1 : (s.drop 1).length = s.length - 1 := List.length_drop ..
      rw [atomE] at h
      split at h
      · split at h
        · cases h
        split at h
        · cases h
        · rename_i hbr
          have := hb _ _ _ _ (by omega) hbr
          split at h
          · simp only [Except.ok.injEq, Prod.mk.injEq] at h
            rw [← h.1]; exact this
          · cases h
      split at h
      · unfold setE at h
        split at h
        · cases h
        · simp only [Except.ok.injEq, Prod.mk.injEq] at h
          rw [← h.1]; exact plain_ok _ _
      split at h
      · simp only [Except.ok.injEq, Prod.mk.injEq] at h
        rw [← h.1]; exact plain_ok _ _
      split at h
      · simp only [Except.ok.injEq, Prod.mk.injEq] at h
        rw [← h.1]; exact plain_ok _ _
      split at h
      · simp only [Except.ok.injEq, Prod.mk.injEq] at h
        rw [← h.1]; exact plain_ok _ _
      split at h
      · split at h
        · cases h
        · simp only [Except.ok.injEq, Prod.mk.injEq] at h
          rw [← h.1]; exact plain_ok _ _
      · simp only [Except.ok.injEq, Prod.mk.injEq] at h
        rw [← h.1]; exact plain_ok _ _
    · rw [piecesE] at h
      split at h
      · simp only [Except.ok.injEq, Prod.mk.injEq] at h
        rw [← h.1]; exact joined_ok hl (by omega)
      rename_i hc
      have hne : s ≠ [] := fun e => hc (.inl e)
      have hp0 : 0 < s.length := List.length_pos_iff.2 hne
      split at h
      · cases h
      · cases h
      split at h
      · cases h
      · rename_i hat
        have h1 := (parse_len f).1 _ _ _ _ hne hat
        split at h
        · cases h
        · rename_i e1 r1 _ e2 r2 hre
          have h2 := repsE_len _ _ _ _ _ hre
          have h3 := ha _ _ _ _ hne (by omega) hat
          have h4 := repsE_ok _ _ _ _ _ h3 hre
          exact hp _ _ _ _ _ (okTs_snoc hl h4) (by simp only [List.length_append, List.length_singleton]; omega) h
    · rw [branchesE] at h
      split at h
      · cases h
      · rename_i hpi
        have h1 := (parse_len f).2.1 _ _ _ _ _ hpi
        have h2 := hp _ _ _ _ _ (by rw [okTs]; trivial) (by simp; omega) hpi
        exact hal _ _ _ _ _ (by rw [okTs, okTs]; exact ⟨h2, trivial⟩) (by simp; omega) h
    · rw [altsE] at h
      split at h
      · rename_i hpre
        have hpl := hasP_len hpre
        simp only [List.length_cons, List.length_nil] at hpl
        split at h
        · cases h
        · rename_i hpi
          have h1 := (parse_len f).2.1 _ _ _ _ _ hpi
          rw [List.length_drop] at h1
          have h2 := hp _ _ _ _ _ (by rw [okTs]; trivial) (by simp; omega) hpi
          exact hal _ _ _ _ _ (okTs_snoc hl h2) (by simp only [List.length_append, List.length_singleton]; omega) h
      · simp only [Except.ok.injEq, Prod.mk.injEq] at h
        rw [← h.1]; exact joined_ok hl (by omega)
section
variable {env : Env} {args : List AV} {σ0 σ τ : AS} {K : AV → AS → Prop} {X : PV → AS → Prop}
theorem sepJoin {σ1 σ2 : AS} {A B : Objs} (h1 : Sep σ0 σ1 A) (h2 : Sep σ1 σ2 B) : Sep σ0 σ2 (B ++ A) := by
  refine ⟨AS.sub_trans h1.sub h2.sub, ?_, ?_, ?_⟩
  · rw [List.map_append, List.nodup_append]
    refine ⟨h2.nodup, h1.nodup, ?_⟩
    intro x hx y hy e
    subst e
    obtain ⟨b, hb, rfl⟩ := List.mem_map.1 hx
    obtain ⟨a, ha, hab⟩ := List.mem_map.1 hy
    have e1 := h2.new b hb
    have e2 := h1.here a ha
    rw [hab, e1] at e2
    cases e2
  · intro p hp
    rcases List.mem_append.1 hp with hp | hp
    · have := h2.new p hp
      cases hz : σ0 p.1 with
      | none => rfl
      | some o => rw [h1.sub _ _ hz] at this; cases this
    · exact h1.new p hp
  · intro p hp
    rcases List.mem_append.1 hp with hp | hp
    · exact h2.here p hp
    · exact h2.sub _ _ (h1.here p hp)
theorem T_eParse_go (h1 : env 31 = T_eBranchesA) (h2 : env 32 = T_eSizeA) (h : T_eParse args σ K X) : deferD PS env anE Try.f16 T_close cPa cPb 5 [.tmp 2, .tmp 3] args σ K X := by
  obtain ⟨s, rfl, hlen, hK⟩ := h
  refine ⟨by show (1 : Nat) ≤ Try.f16.ntmps; decide, ?_⟩
  rw [← SP_eq]
  unfold SP
  simp only [lock_eq]
  refine alloc_E (Sep.start σ) ?_
  intro t2 σ1 hS1
  refine alloc_of T.zo3 rfl ?_
  intro t3 ht3
  have hS2 := hS1.alloc ht3 (.cells [.pv (.int .i64 0)] (some 3))
  generalize hσ2 : (σ1.set t3 (.cells [.pv (.int .i64 0)] (some 3))) = σ2 at hS2 ⊢
  rw [bld_rd]
  refine ⟨rfl, ?_⟩
  intro l hl
  have hcs : AV.cells (.agg [.pv (.str s), .pv (.int .i64 0)]) = [.pv (.str s), .pv (.int .i64 0)] := rfl
  rw [hcs]
  have hR : RdAt σ2 (σ2.set l (.cells [.pv (.str s), .pv (.int .i64 0)] none)) l s 0 [] := (Sep.start σ2).alloc hl _
  rw [h1]
  unfold parseE at hK
  have fault : ∀ (n : Nat) (σ' : AS), σ2.sub σ' → (∀ τ, σ.sub τ → K (parseV (.error n)) τ) → panP T_close (.addr t2 0) (.addr t3 0) K (faultV n) σ' := by
    intro n σ' hs hk
    refine ⟨σ, t2, t3, vZero, eZero, 0, rfl, EV.zero, sepUp hS2 hs, n, rfl, ?_⟩
    intro σ'' hS''
    exact res_go EV.zero hS'' hk
  refine ⟨3 * s.length + 3, 3 * s.length + 3, σ2, l, s, 0, [], Nat.le_refl _, rfl, hR, hlen, by omega, Nat.le_refl _, ?_⟩
  cases hb : branchesE (3 * s.length + 3) 0 s with
  | error n =>
    rw [hb] at hK
    exact fun σ' hs => fault n σ' hs hK
  | ok q =>
    obtain ⟨e, r⟩ := q
    rw [hb] at hK
    simp only at hK
    have hok := (parse_ok _).2.2.1 _ _ _ _ hlen hb
    intro σ4 hR4
    have hS4 : Sep σ σ4 ([(l, .cells [.pv (.str r), .pv (.int .i64 ((0 : Nat) : Int))] none), (t3, .cells [.pv (.int .i64 0)] (some 3))] ++ VarE t2 vZero :: []) := sepJoin (A := [(t3, .cells [.pv (.int .i64 0)] (some 3)), VarE t2 vZero]) (B := [(l, .cells [.pv (.str r), .pv (.int .i64 ((0 : Nat) : Int))] none)]) hS2 hR4
    refine store_E EV.zero (EV.self e) hS4 ?_
    intro σ5 hS5
    have hl5 := hS5.get (i := l) (o := .cells [.pv (.str r), .pv (.int .i64 ((0 : Nat) : Int))] none) (by simp)
    have hS6 : Sep σ σ5 ((t3, .cells [.pv (.int .i64 0)] (some 3)) :: [VarE t2 (ereAV e)]) := hS5.drop
    have fault2 : ∀ (n : Nat) (σ' : AS), σ5.sub σ' → (∀ τ, σ.sub τ → K (parseV (.error n)) τ) → panP T_close (.addr t2 0) (.addr t3 0) K (faultV n) σ' := by
      intro n σ' hs hk
      refine ⟨σ, t2, t3, ereAV e, e, 0, rfl, EV.self e, sepUp hS6 hs, n, rfl, ?_⟩
      intro σ'' hS''
      exact res_go EV.zero hS'' hk
    have fgo : ∀ (n : Nat) (σ' : AS), panP T_close (.addr t2 0) (.addr t3 0) K (faultV n) σ' → ifaceD PS 51 (.pv (.int .i64 (n : Nat))) fun t => panicD σ' t (panP T_close (.addr t2 0) (.addr t3 0) K) := by
      intro n σ' h
      have hu : PS.underlying 51 = some (.int .i64) := Try.underlying51
      simp only [ifaceD, hu, toPV, panicD, true_and]
      exact h
    simp (disch := omega) only [nilD, T.fa54_0, Nat.add_zero, T.ld9, hl5, ldM_cells, List.getElem?_cons_zero, someEx, bin_sneq, bne, cond_bool, Bool.not_eq_true', beq_eq_false_iff_ne, ne_eq]
    refine iteI (fun g1 => ?_) (fun g1 => ?_)
    · rw [if_pos g1] at hK
      exact fgo 1 σ5 (fault2 1 σ5 (sub_refl _) hK)
    rw [if_neg g1] at hK
    have hg2 := hS6.get (i := t2) (o := .cells (ereAV e).cells (some 34)) (by simp [VarE])
    rw [load_E (EV.self e) hg2, h2]
    refine ⟨htE e, ereAV e, e, rfl, EV.self e, hok, Nat.le_refl _, ?_⟩
    intro σ7 hs7
    simp (disch := omega) only [go_sem]
    refine iteI (fun g2 => ?_) (fun g2 => ?_)
    · rw [if_pos g2] at hK
      exact fgo 5 σ7 (fault2 5 σ7 hs7 hK)
    rw [if_neg g2] at hK
    have hS7 : Sep σ σ7 ([(t3, .cells [.pv (.int .i64 0)] (some 3))] ++ VarE t2 (ereAV e) :: []) := sepUp hS6 hs7
    have hg7 := hS7.get (i := t2) (o := .cells (ereAV e).cells (some 34)) (by simp [VarE])
    rw [load_E (EV.self e) hg7]
    refine store_E (EV.self e) (EV.self e) hS7 ?_
    intro σ8 hS8
    have hg3 := hS8.get (i := t3) (o := .cells [.pv (.int .i64 0)] (some 3)) (by simp)
    rw [hg3]
    refine ⟨by simp, σ, t2, t3, ereAV e, e, 0, rfl, EV.self e, Sep.set1 hS8 _, ?_⟩
    exact res_go (EV.self e) (Sep.set1 hS8 _) hK
theorem F_eParse (hm : HME) : SoundF PS 16 T_eParse := by
  have E : EnvOk PS ((env0.add 31 T_eBranchesA).add 32 T_eSizeA) := EnvOk.add (EnvOk.add (env0_ok PS)
    (fun w0 hS ρ σ w args us K X H hr ⟨f, h⟩ => F_eBranches hm f w0 hS ρ σ w args us K X H hr h))
    (fun w0 hS ρ σ w args us K X H hr ⟨n, h⟩ => F_eSize hm n w0 hS ρ σ w args us K X H hr h)
  have hb : ∃ id o1 o2, Try.f16.body = some (.seq cPa (.seq (.region id #[o1, o2] false) cPb)) ∧ o1.guard = none ∧ o2.guard = none ∧ o1.dst = some 5 ∧ o2.dst = none ∧
      (∀ (a : Act) (w : World), (execOp a.eval o1).run PS w = .ok (.value (.func (.func 30) #[] (([.tmp 2, .tmp 3] : List Operand).map a.eval).toArray)) w) ∧
      (∀ (a : Act) (w : World) (v : Array Value), a.tmps.getD 5 undef = .func (.func 30) #[] v → (execOp a.eval o2).run PS w = .ok (.defer { target := .fn (.func 30) v, args := #[] }) w) := by
    refine ⟨_, _, _, rfl, rfl, rfl, rfl, rfl, fun a w => by simp [execOp, Instr.makeFunc], fun a w v h => ?_⟩
    have : a.eval (.tmp 5) = .func (.func 30) #[] v := h
    simp [execOp, resolve, this, Deferred.ofValue]
  obtain ⟨id, o1, o2, h1, h2, h3, h4, h5, h6, h7⟩ := hb
  exact defer_sound hm E anE Try.func16 Try.call16 Try.call30 h1 h2 h3 h4 h5 (by decide) h6 h7 (by kernel_rfl) (by kernel_rfl) (F_close hm) (fun args σ K X h => T_eParse_go rfl rfl h)
end
end Go.AD.Lx
