/- sched: a worker's step, and any step. -/
import Derived.Test.YtcaidbmopehjhaaS3
set_option linter.unusedVariables false
set_option linter.unusedSimpArgs false
set_option maxRecDepth 100000
namespace Go.AD.Sc
open Go.Proofs
def sWork : List UInt8 := [119, 111, 114, 107]
def sSend : List UInt8 := [115, 101, 110, 100]
def sTake : List UInt8 := [116, 97, 107, 101]
def sFlush : List UInt8 := [102, 108, 117, 115, 104]
def stepV (what : List UInt8) (i r : Int) : AV := .agg [.pv (.str what), .pv (.int .i64 i), .pv (.int .i64 r)]
theorem bd3 {a b c : PV} {K : AV → Prop} : buildD PS 42 [(0, .pv a), (1, .pv b), (2, .pv c)] K = K (.agg [.pv a, .pv b, .pv c]) := by
  simp [buildD, buildFill, go_sem, AV.cells, AV.cellOk, setAll]
theorem bd2 {a b : PV} {K : AV → Prop} : buildD PS 42 [(0, .pv a), (1, .pv b)] K = K (.agg [.pv a, .pv b, .pv (.int .i64 0)]) := by
  simp [buildD, buildFill, go_sem, AV.cells, AV.cellOk, setAll]
theorem st42 {σ : AS} {t : Nat} {a b c x y z : PV} {var : Option TypeId} (h : σ t = some (.cells [.pv x, .pv y, .pv z] var)) {K : AV → AS → Prop} (hK : K (.agg [.pv a, .pv b, .pv c]) (σ.set t (.cells [.pv a, .pv b, .pv c] var))) :
    storeD PS σ 42 (.addr t 0) (.agg [.pv a, .pv b, .pv c]) fun σ5 => loadD PS σ5 42 (.addr t 0) fun r0 => retV r0 σ5 K := by
  rw [store_addr T.hT42 (by rw [T.sz42]; rfl) rfl h]
  refine ⟨by simp [AV.cells], ?_⟩
  rw [load_addrA T.hT42 T.ag42 (set_same _ _ _)]
  refine ⟨by rw [T.sz42]; simp [setAll, AV.cells], ?_⟩
  simp only [T.sz42]
  exact retV_self hK
theorem MachAt.own {σ0 σ : AS} {I : Ids} {M : Ms} {leaf : Nat → Int} {t : Nat} {o : AObj} (h : MachAt (σ0.set t o) σ I M leaf) (h0 : σ0 t = none) : σ t = some o ∧ ∀ o', MachAt σ0 (σ.set t o') I M leaf := by
  obtain ⟨ok, ⟨wv, wl, hR, hS⟩, hT, hB⟩ := h
  have h1 := hS.unhide h0
  exact ⟨h1.get (by simp), fun o' => ⟨ok, ⟨wv, wl, hR, (h1.set1 o').drop⟩, hT, hB⟩⟩
def workM (M : Ms) (i : Nat) : Ms := { M with done := M.done.set i (M.done.getD i 0 + 1), ready := if M.done.getD i 0 + 1 = M.cs.getD i 0 then M.ready.set i 1 else M.ready }
def pushM (M : Ms) (i : Nat) : Ms := { M with ready := M.ready.set i 0, way := M.way ++ [(i : Int)], held := M.held + 1 }
def T56 : Tr := fun args σ K _ => ∃ (σ0 : AS) (I : Ids) (M : Ms) (i : Nat), args = [.addr I.m 0, .pv (.int .i64 i)] ∧ MachAt σ0 σ I M (leafF M) ∧ i < M.cs.length ∧ mayB M i = true ∧ M.opn = decide (M.way.length < M.room) ∧ M.held ≤ 4096 ∧
  (M.done.getD i 0 < M.cs.getD i 0 → ∀ σ' sum', MachAt σ0 σ' I { workM M i with sum := sum' } (leafF (workM M i)) → K (stepV sWork i (M.done.getD i 0)) σ') ∧
  (¬ M.done.getD i 0 < M.cs.getD i 0 → ∀ σ' sum', MachAt σ0 σ' I { gated (pushM M i) with sum := sum' } (leafF (gated (pushM M i))) → K (stepV sSend i 0) σ')
theorem leaf_upd {M M1 : Ms} {i : Nat} (hc : M1.cs = M.cs) (hi : i < M.cs.length) (e : ∀ j, j ≠ i → mayB M1 j = mayB M j) (j : Nat) : updL (leafF M) i (bitOf (mayB M1 i)) j = leafF M1 j := by
  unfold updL leafF
  rw [hc]
  by_cases h : j = i
  · subst h; rw [if_pos rfl, if_pos hi]
  · rw [if_neg h, e j h]
theorem T56_ok {env : Env} (h46 : env 46 = T46) (h58 : env 58 = T58) (args : List AV) (σ : AS) (K : AV → AS → Prop) (X : PV → AS → Prop) (h : T56 args σ K X) : bodyD PS env an56 Try.f56 args σ K X := by
  obtain ⟨σ0, I, M, i, rfl, hM, hi, hmay, hop, hhe, hK1, hK2⟩ := h
  rw [← S56_eq env, S56]
  simp only [lock_eq]
  refine alloc_of T.zo42 rfl ?_
  intro t4 ht4
  obtain ⟨ok, ⟨wv, wl, hR, hS⟩, hT, hB⟩ := hM
  have ld := ok.ld; have lr := ok.lr; have la := ok.la; have kn := ok.kn; have nb := ok.nb
  have h0 := (hS.free ht4).1
  have hS1 := (hS.alloc ht4 (.cells [.pv (.str []), .pv (.int .i64 0), .pv (.int .i64 0)] (some 42))).hide
  generalize (σ.set t4 (.cells [.pv (.str []), .pv (.int .i64 0), .pv (.int .i64 0)] (some 42))) = σ1 at hS1
  have hm := hS1.get (i := I.m) (o := .cells (mCells I M wv) none) (by simp [mObs])
  have hd := hS1.get (i := I.d) (o := .cells (intsA M.done) none) (by simp [mObs])
  have hr := hS1.get (i := I.r) (o := .cells (intsA M.ready) none) (by simp [mObs])
  have il : (i64s M.cs).length = M.cs.length * 1 := by simp [i64s]
  have hdb := ok.db _ (getD_mem (l := M.done) (i := i) (by omega))
  have hcb := ok.cb _ (getD_mem (l := M.cs) (i := i) (by omega))
  simp (disch := omega) only [go_sem, T.ixm22, T.ixl22, hm, hd, hr, ldM_cells, mCells, List.getElem?_cons_zero, List.getElem?_cons_succ, intsA_get, i64s_getD]
  split
  · rename_i hlt
    have hS2 := upD hS1 (M.done.set i (M.done.getD i 0 + 1))
    simp (disch := omega) only [go_sem, T.ixm22, hd, stM_cells, intsA_len, intsA_set]
    refine ⟨by omega, ?_⟩
    generalize (σ1.set I.d (.cells (intsA (M.done.set i (M.done.getD i 0 + 1))) none)) = σ2 at hS2
    have hm2 := hS2.get (i := I.m) (o := .cells (mCells I M wv) none) (by simp [mObs, mCells])
    have hd2 := hS2.get (i := I.d) (o := .cells (intsA (M.done.set i (M.done.getD i 0 + 1))) none) (by simp [mObs])
    have hr2 := hS2.get (i := I.r) (o := .cells (intsA M.ready) none) (by simp [mObs])
    have hsl : (M.done.set i (M.done.getD i 0 + 1)).length = M.cs.length := by simp [ld]
    have hsg : (M.done.set i (M.done.getD i 0 + 1)).getD i 0 = M.done.getD i 0 + 1 := by rw [getDI_set _ _ _ _ (by omega), if_pos rfl]
    simp (disch := omega) only [go_sem, T.ixm22, T.ixl22, hm2, hd2, hr2, ldM_cells, mCells, List.getElem?_cons_zero, List.getElem?_cons_succ, intsA_get, i64s_getD, hsg]
    have hmemd : ∀ c ∈ M.done.set i (M.done.getD i 0 + 1), 0 ≤ c ∧ c ≤ 1048576 := by
      intro c hc
      rcases List.mem_or_eq_of_mem_set hc with h | h
      · exact ok.db c h
      · omega
    have j5 : ∀ σ3, Sep (σ0.set t4 (.cells [.pv (.str []), .pv (.int .i64 0), .pv (.int .i64 0)] (some 42))) σ3 ((mObs I (workM M i) wv ++ wl) ++ treeO I.t I.s M.n M.sum) → J56_5 env (.addr I.m 0) (.pv (.int .i64 i)) (.addr t4 0) σ3 K X := by
      intro σ3 hS3
      unfold J56_5
      simp only [lock_eq]
      rw [h46]
      refine ⟨_, I, workM M i, leafF M, i, rfl, ⟨⟨hsl, by unfold workM; simp only; split <;> simp [lr], la, kn, nb, ok.pw, ok.wl, ok.rm, ok.cb, hmemd⟩, ⟨wv, wl, hR, hS3⟩, hT, hB⟩, hi, ?_⟩
      intro σ4 sum4 hM4
      have hM4' := hM4.congr (leafF_bits (workM M i)) (leaf_upd (M := M) (M1 := workM M i) rfl hi (fun j hj => by
        have e1 : (workM M i).done.getD j 0 = M.done.getD j 0 := by simp only [workM]; rw [getDI_set _ _ _ _ (by omega), if_neg hj]
        have e2 : (workM M i).ready.getD j 0 = M.ready.getD j 0 := by
          simp only [workM]
          split
          · rw [getDI_set _ _ _ _ (by omega), if_neg hj]
          · rfl
        unfold mayB
        rw [e1, e2]
        rfl))
      obtain ⟨ok4, ⟨wv4, wl4, hR4, hS4⟩, hT4, hB4⟩ := id hM4'
      have hm4 := hS4.get (i := I.m) (o := .cells (mCells I { workM M i with sum := sum4 } wv4) none) (by simp [mObs])
      have hd4 := hS4.get (i := I.d) (o := .cells (intsA (M.done.set i (M.done.getD i 0 + 1))) none) (by simp [mObs, workM])
      have hl4 : ({ workM M i with sum := sum4 } : Ms).cs.length = M.cs.length := rfl
      simp (disch := omega) only [go_sem, T.ixm22, hm4, hd4, ldM_cells, mCells, hl4, List.getElem?_cons_zero, List.getElem?_cons_succ, intsA_get, hsg, bd3]
      obtain ⟨own1, own2⟩ := hM4'.own h0
      refine st42 own1 ?_
      rw [show M.done.getD i 0 + 1 - 1 = M.done.getD i 0 by omega]
      exact hK1 hlt _ sum4 (own2 _)
    split
    · rename_i heq
      have heq : M.done.getD i 0 + 1 = M.cs.getD i 0 := by simpa [-List.getD_eq_getElem?_getD] using heq
      simp (disch := omega) only [go_sem, T.ixm22, hr2, stM_cells, intsA_len, intsA_set]
      refine ⟨by omega, ?_⟩
      have := upR hS2 (M.ready.set i 1)
      refine j5 _ ?_
      have e : workM M i = { M with done := M.done.set i (M.done.getD i 0 + 1), ready := M.ready.set i 1 } := by unfold workM; rw [if_pos heq]
      rw [e]
      exact this
    · rename_i heq
      have heq : ¬ M.done.getD i 0 + 1 = M.cs.getD i 0 := by simpa [-List.getD_eq_getElem?_getD] using heq
      refine j5 _ ?_
      have e : workM M i = { M with done := M.done.set i (M.done.getD i 0 + 1) } := by unfold workM; rw [if_neg heq]
      rw [e]
      exact hS2
  · rename_i hge
    have hrd : M.ready.getD i 0 = 1 ∧ M.opn = true := by
      unfold mayB at hmay
      simp only [hge, decide_false, Bool.false_or, Bool.and_eq_true, decide_eq_true_eq] at hmay
      exact hmay
    have hroom : M.way.length < M.room := by
      have := hrd.2; rw [hop] at this; simpa using this
    have hS2 := upR hS1 (M.ready.set i 0)
    simp (disch := omega) only [go_sem, T.ixm22, hr, stM_cells, intsA_len, intsA_set]
    refine ⟨by omega, ?_⟩
    generalize (σ1.set I.r (.cells (intsA (M.ready.set i 0)) none)) = σ2 at hS2
    have hm2 := hS2.get (i := I.m) (o := .cells (mCells I M wv) none) (by simp [mObs, mCells])
    simp (disch := omega) only [go_sem, hm2, ldM_cells, mCells, List.getElem?_cons_zero, List.getElem?_cons_succ]
    rw [build1 (ys := [.int .i64 i]) ⟨T.el22, by rw [T.sz3]; decide, _, T.zo3, by rw [T.sz3]; rfl⟩ T.hT3 (by rw [T.sz3]; rfl) rfl rfl (by rw [T.sz3]; decide)]
    refine hR.append (sepSw hS2) ⟨T.el22, by rw [T.sz3]; decide, _, T.zo3, by rw [T.sz3]; rfl⟩ rfl (by rw [T.sz3]; rfl) (by omega) (by have := ok.wl; rw [T.by3]; omega) (by have := ok.wl; omega) ?_
    intro wv3 wl3 σ3 hR3 hS3
    have hS3 := sepSw hS3
    have hm3 := hS3.get (i := I.m) (o := .cells (mCells I M wv) none) (by simp [mObs, mCells])
    simp (disch := omega) only [go_sem, T.stv22 hR3.cells hR3.cellOk, hm3, ldM_cells, stM_cells, mCells, List.getElem?_cons_zero, List.getElem?_cons_succ, List.set_cons_succ, List.set_cons_zero]
    refine ⟨by simp, by simp, ?_⟩
    have hS4 := upM hS3 (pushM M i) wv3 rfl rfl rfl
    have hRp : RowV PS 3 wv3 wl3 (pushM M i).way.length (i64s (pushM M i).way) := by
      simpa [pushM, i64s] using hR3
    rw [h46]
    refine ⟨_, I, pushM M i, leafF M, i, rfl, ⟨⟨ld, by simp [pushM, lr], la, kn, nb, ok.pw, by have := ok.rm; simp [pushM]; omega, ok.rm, ok.cb, ok.db⟩, ⟨wv3, wl3, hRp, hS4⟩, hT, hB⟩, hi, ?_⟩
    intro σ5 sum5 hM5
    have hM5' := hM5.congr (leafF_bits (pushM M i)) (leaf_upd (M := M) (M1 := pushM M i) rfl hi (fun j hj => by
      have e2 : (pushM M i).ready.getD j 0 = M.ready.getD j 0 := by simp only [pushM]; rw [getDI_set _ _ _ _ (by omega), if_neg hj]
      unfold mayB
      rw [e2]
      rfl))
    rw [h58]
    refine ⟨_, I, _, rfl, hM5', ?_⟩
    intro σ6 sum6 hM6
    simp only [go_sem, bd2]
    obtain ⟨own1, own2⟩ := hM6.own h0
    refine st42 own1 ?_
    exact hK2 hge _ sum6 (own2 _)
/-! ### any step -/
def cntM (M : Ms) (i : Nat) : Nat := ((List.range i).filter (mayB M)).length
theorem cntM_succ (M : Ms) (i : Nat) : cntM M (i + 1) = cntM M i + if mayB M i = true then 1 else 0 := by
  unfold cntM
  rw [List.range_succ, List.filter_append, List.length_append]
  by_cases h : mayB M i = true <;> simp [h]
theorem pre_cnt (M : Ms) : ∀ i, i ≤ M.cs.length → pre (leafF M) i = cntM M i
  | 0, _ => rfl
  | i + 1, h => by
    rw [pre, pre_cnt M i (by omega), cntM_succ]
    unfold leafF
    rw [if_pos (by omega)]
    cases mayB M i <;> simp [bitOf]
theorem pre_end (M : Ms) : ∀ d, pre (leafF M) (M.cs.length + d) = cntM M M.cs.length
  | 0 => pre_cnt M _ (Nat.le_refl _)
  | d + 1 => by
    rw [← Nat.add_assoc, pre, pre_end M d]
    unfold leafF
    rw [if_neg (by omega)]
    omega
def takeM (M : Ms) : Ms := gated { M with way := M.way.drop 1, aside := M.aside.set (M.way.headD 0).toNat true }
def flushM (M : Ms) : Ms := { M with held := M.held - 1, next := M.next + 1 }
def tkM (M : Ms) : Nat := if M.way.length = 0 then 0 else 1
def flM (M : Ms) : Nat := if M.aside.getD M.next false = true then 1 else 0
def totM (M : Ms) : Nat := cntM M M.cs.length + tkM M + flM M
def T47 : Tr := fun args σ K _ => ∃ (σ0 : AS) (I : Ids) (M : Ms) (pick : Nat), args = [.addr I.m 0, .pv (.int .i64 pick)] ∧ MachAt σ0 σ I M (leafF M) ∧ M.next < M.cs.length ∧ M.opn = decide (M.way.length < M.room) ∧ M.held ≤ 4096 ∧ pick < 9223372036854775808 ∧ 0 < totM M ∧ (∀ w ∈ M.way, 0 ≤ w ∧ w < M.cs.length) ∧
  (∀ i, pick % totM M < cntM M M.cs.length → i < M.cs.length → mayB M i = true → cntM M i = pick % totM M → M.done.getD i 0 < M.cs.getD i 0 → ∀ σ' sum', MachAt σ0 σ' I { workM M i with sum := sum' } (leafF (workM M i)) → K (stepV sWork i (M.done.getD i 0)) σ') ∧
  (∀ i, pick % totM M < cntM M M.cs.length → i < M.cs.length → mayB M i = true → cntM M i = pick % totM M → ¬ M.done.getD i 0 < M.cs.getD i 0 → ∀ σ' sum', MachAt σ0 σ' I { gated (pushM M i) with sum := sum' } (leafF (gated (pushM M i))) → K (stepV sSend i 0) σ') ∧
  (pick % totM M = cntM M M.cs.length → tkM M = 1 → ∀ σ' sum', MachAt σ0 σ' I { takeM M with sum := sum' } (leafF (takeM M)) → K (stepV sTake (M.way.headD 0) 0) σ') ∧
  (¬ pick % totM M < cntM M M.cs.length → ¬ (pick % totM M = cntM M M.cs.length ∧ tkM M = 1) → 1 ≤ M.held ∧ ∀ σ', MachAt σ0 σ' I (flushM M) (leafF (flushM M)) → K (stepV sFlush M.next 0) σ')
theorem T47_ok {env : Env} (h56 : env 56 = T56) (h57 : env 57 = T57) (h58 : env 58 = T58) (args : List AV) (σ : AS) (K : AV → AS → Prop) (X : PV → AS → Prop) (h : T47 args σ K X) : bodyD PS env an47 Try.f47 args σ K X := by
  obtain ⟨σ0, I, M, pick, rfl, hM, hnx, hop, hhe, hpk, htot, hwy, hK1, hK2, hK3, hK4⟩ := h
  rw [← S47_eq env, S47]
  simp only [lock_eq]
  refine alloc_of T.zo42 rfl ?_
  intro t4 ht4
  obtain ⟨ok, ⟨wv, wl, hR, hS⟩, hT, hB⟩ := hM
  have ld := ok.ld; have lr := ok.lr; have la := ok.la; have kn := ok.kn; have nb := ok.nb
  have h0 := (hS.free ht4).1
  have hS1 := (hS.alloc ht4 (.cells [.pv (.str []), .pv (.int .i64 0), .pv (.int .i64 0)] (some 42))).hide
  generalize (σ.set t4 (.cells [.pv (.str []), .pv (.int .i64 0), .pv (.int .i64 0)] (some 42))) = σ1 at hS1
  have hM1 : MachAt (σ0.set t4 (.cells [.pv (.str []), .pv (.int .i64 0), .pv (.int .i64 0)] (some 42))) σ1 I M (leafF M) := ⟨ok, ⟨wv, wl, hR, hS1⟩, hT, hB⟩
  have hm := hS1.get (i := I.m) (o := .cells (mCells I M wv) none) (by simp [mObs])
  have ha := hS1.get (i := I.a) (o := .cells (boolsA M.aside) none) (by simp [mObs])
  have ht := hS1.get (i := I.t) (o := .cells [.pv (.int .i64 M.n), .msl I.s 0 (2 * M.n) 1] none) (by simp [treeO])
  have hs := hS1.get (i := I.s) (o := .cells (intsA M.sum) none) (by simp [treeO])
  have hsl := hT.len
  obtain ⟨hh, hpw⟩ := ok.pw
  have hn1 : 1 ≤ M.n := by rw [hpw]; exact Nat.one_le_two_pow
  have hsum1 : M.sum.getD 1 0 = (cntM M M.cs.length : Int) := by
    have := tree_sum hT hh 1 (by omega) (by omega)
    rw [this, ← hpw, Nat.one_mul, Nat.sub_self, Nat.zero_add]
    have e := pre_end M (M.n - M.cs.length)
    rw [show M.cs.length + (M.n - M.cs.length) = M.n by omega] at e
    rw [e]
    simp [pre]
  have hpre : pre (leafF M) M.n = (cntM M M.cs.length : Int) := by
    have e := pre_end M (M.n - M.cs.length)
    rwa [show M.cs.length + (M.n - M.cs.length) = M.n by omega] at e
  have hcnt : cntM M M.cs.length ≤ 8192 := by
    have : cntM M M.cs.length ≤ (List.range M.cs.length).length := List.length_filter_le _ _
    rw [List.length_range] at this
    omega
  have jstop : (∀ b : Bool, (b = true → pick % totM M = cntM M M.cs.length ∧ tkM M = 1) → (b = false → ¬ (pick % totM M = cntM M M.cs.length ∧ tkM M = 1)) → ¬ pick % totM M < cntM M M.cs.length → J47_11 env (.addr I.m 0) (.addr t4 0) (.pv (.bool b)) σ1 K X) := by
    intro b hb1 hb2 hge
    unfold J47_11
    simp only [go_sem]
    split
    · rename_i hb
      obtain ⟨hp, htk⟩ := hb1 hb
      have hwl : 0 < M.way.length := by unfold tkM at htk; split at htk <;> omega
      rcases hR.2 with ⟨_, _, h, _⟩ | ⟨wid, mk, rfl, rfl⟩
      · omega
      have hw0 := hwy _ (getD_mem (l := M.way) (i := 0) hwl)
      have hhd : M.way.headD 0 = M.way.getD 0 0 := by cases M.way <;> rfl
      obtain ⟨w0, hw0e⟩ : ∃ w0 : Nat, M.way.getD 0 0 = w0 := ⟨(M.way.getD 0 0).toNat, by omega⟩
      have hwid := hS1.get (i := wid) (o := .front M.way.length (szOf PS 3) mk) (by simp)
      have hcs : (i64s M.way).length = M.way.length * 1 := by simp [i64s]
      simp (disch := omega) only [go_sem, hm, ldM_cells, mCells, List.getElem?_cons_zero, List.getElem?_cons_succ]
      refine T.ixv22 (i := 0) hR.toPV hwl hcs ?_
      rw [T.le3]
      refine ⟨.int .i64 (M.way.getD 0 0), by rw [Nat.zero_mul]; exact i64s_getD _ 0 hwl, ?_⟩
      rw [hw0e] at hw0 ⊢
      simp only [takeOverD, T.el22]
      refine ⟨T.iS3, ⟨mk, hwid⟩, by rw [T.sz3]; exact hcs, by omega, by omega, ?_⟩
      intro id2 hid2
      have hdel : (σ1.del wid) id2 = none := by
        by_cases e : id2 = wid
        · subst e; exact del_same _ _
        · rw [del_ne _ e]; exact hid2
      have hS2 := sepSw (((Sep.front (l1 := mObs I M (.grow wid M.way.length (i64s M.way)) ++ treeO I.t I.s M.n M.sum) (l2 := []) (sepSw hS1)).del.alloc hdel (.front (M.way.length - (1 : Int).toNat) (szOf PS 3) none)).back)
      generalize ((σ1.del wid).set id2 (.front (M.way.length - (1 : Int).toNat) (szOf PS 3) none)) = σ2 at hS2
      have hm2 := hS2.get (i := I.m) (o := .cells (mCells I M (.grow wid M.way.length (i64s M.way))) none) (by simp [mObs])
      rw [T.stv22 rfl rfl, hm2]
      simp only [stM_cells, mCells, List.set_cons_succ, List.set_cons_zero]
      refine ⟨by simp, ?_⟩
      have hR2 : RowV PS 3 (.grow id2 (M.way.length - (1 : Int).toNat) ((i64s M.way).drop ((1 : Int).toNat * szOf PS 3))) [(id2, .front (M.way.length - (1 : Int).toNat) (szOf PS 3) none)] (M.way.drop 1).length (i64s (M.way.drop 1)) := by
        refine ⟨by rw [T.sz3]; simp [i64s], .inr ⟨id2, none, ?_, ?_⟩⟩
        · rw [T.sz3]; simp [i64s, List.map_drop]
        · simp
      have hS3 := upM hS2 { M with way := M.way.drop 1 } (.grow id2 (M.way.length - (1 : Int).toNat) ((i64s M.way).drop ((1 : Int).toNat * szOf PS 3))) rfl rfl rfl
      generalize (AV.grow id2 (M.way.length - (1 : Int).toNat) ((i64s M.way).drop ((1 : Int).toNat * szOf PS 3))) = wv3 at hR2 hS3
      generalize hL3 : [(id2, AObj.front (M.way.length - (1 : Int).toNat) (szOf PS 3) none)] = wl3 at hR2 hS3
      have hm3 := hS3.get (i := I.m) (o := .cells (mCells I { M with way := M.way.drop 1 } wv3) none) (by simp [mObs])
      have ha3 := hS3.get (i := I.a) (o := .cells (boolsA M.aside) none) (by simp [mObs])
      have ix66 : ∀ (K : AV → Prop), indexAddrD PS 66 (.msl I.a 0 M.cs.length 1) (.pv (.int .i64 w0)) K = K (.addr I.a (0 + w0 * 1)) := fun K => T.ixm66 (by omega)
      simp only [mCells] at hm3 hS3 ha3
      simp (disch := omega) only [go_sem, hm3, ha3, ldM_cells, stM_cells, List.getElem?_cons_zero, List.getElem?_cons_succ, ix66, boolsA_len, boolsA_set]
      refine ⟨by omega, ?_⟩
      have hS4 := upA hS3 (M.aside.set w0 true)
      rw [h58]
      refine ⟨_, I, { M with way := M.way.drop 1, aside := M.aside.set w0 true }, rfl, ⟨⟨ld, lr, by simp [la], kn, nb, ok.pw, by have := ok.wl; simp; omega, ok.rm, ok.cb, ok.db⟩, ⟨wv3, wl3, hR2, hS4⟩, hT, hB⟩, ?_⟩
      intro σ6 sum6 hM6
      have eT : takeM M = gated { M with way := M.way.drop 1, aside := M.aside.set w0 true } := by
        unfold takeM
        rw [hhd, hw0e, Int.toNat_natCast]
      simp only [go_sem, bd2]
      obtain ⟨own1, own2⟩ := hM6.own h0
      refine st42 own1 ?_
      have := hK3 hp htk (σ6.set t4 (.cells [.pv (.str [116, 97, 107, 101]), .pv (.int .i64 w0), .pv (.int .i64 0)] (some 42))) sum6
      rw [eT, hhd, hw0e] at this
      exact this (own2 _)
    · rename_i hb
      obtain ⟨hh1, hK4'⟩ := hK4 hge (hb2 (by simpa using hb))
      simp (disch := omega) only [go_sem, hm, ldM_cells, stM_cells, mCells, List.getElem?_cons_zero, List.getElem?_cons_succ, List.set_cons_succ, List.set_cons_zero, bd2]
      refine ⟨by simp, by simp, ?_⟩
      have hS2 := upM hS1 (flushM M) wv rfl rfl rfl
      have hM2 : MachAt (σ0.set t4 (.cells [.pv (.str []), .pv (.int .i64 0), .pv (.int .i64 0)] (some 42))) (σ1.set I.m (.cells (mCells I (flushM M) wv) none)) I (flushM M) (leafF (flushM M)) := ⟨⟨ld, lr, la, kn, nb, ok.pw, ok.wl, ok.rm, ok.cb, ok.db⟩, ⟨wv, wl, hR, hS2⟩, hT, hB⟩
      obtain ⟨own1, own2⟩ := hM2.own h0
      refine st42 own1 ?_
      exact hK4' _ (own2 _)
  have j7 : J47_7 env (.addr I.m 0) (.pv (.int .i64 pick)) (.addr t4 0) (.pv (.int .i64 (cntM M M.cs.length))) (.pv (.int .i64 (tkM M))) (.pv (.int .i64 (flM M))) σ1 K X := by
    have htk : tkM M ≤ 1 := by unfold tkM; split <;> omega
    have hfl : flM M ≤ 1 := by unfold flM; split <;> omega
    have htt : cntM M M.cs.length + tkM M + flM M = totM M := rfl
    unfold J47_7
    simp (disch := omega) only [go_sem, htt]
    refine ⟨by omega, ?_⟩
    split
    · rename_i hlt
      simp (disch := omega) only [go_sem, hm, ldM_cells, mCells, List.getElem?_cons_zero, List.getElem?_cons_succ]
      rw [h57]
      refine hS1.part ?_
      intro hS2 back2
      refine ⟨_, I.t, I.s, M.n, hh, pick % totM M, M.sum, leafF M, rfl, hS2, hpw, nb, hT, hB, by rw [hpre]; omega, ?_⟩
      intro i hin hli hpi
      have hik : i < M.cs.length := by
        rcases Nat.lt_or_ge i M.cs.length with h | h
        · exact h
        · unfold leafF at hli; rw [if_neg (by omega)] at hli; omega
      have hmi : mayB M i = true := by
        unfold leafF at hli
        rw [if_pos hik] at hli
        cases e : mayB M i with
        | true => rfl
        | false => rw [e] at hli; simp [bitOf] at hli
      have hci : cntM M i = pick % totM M := by
        have := pre_cnt M i (by omega)
        omega
      rw [h56]
      refine ⟨_, I, M, i, rfl, hM1, hik, hmi, hop, hhe, ?_, ?_⟩
      · intro hd σ2 sum2 hM2
        obtain ⟨own1, own2⟩ := hM2.own h0
        exact st42 own1 (hK1 i hlt hik hmi hci hd _ sum2 (own2 _))
      · intro hd σ2 sum2 hM2
        obtain ⟨own1, own2⟩ := hM2.own h0
        exact st42 own1 (hK2 i hlt hik hmi hci hd _ sum2 (own2 _))
    · rename_i hge
      split
      · rename_i heq
        simp only [beq_iff_eq] at heq
        refine jstop _ (fun h => ⟨heq, by simpa using h⟩) (fun h h2 => ?_) hge
        rw [h2.2] at h; cases h
      · rename_i hne
        simp only [beq_iff_eq] at hne
        exact jstop false (fun h => by cases h) (fun _ h => hne h.1) hge
  have j5 : J47_5 env (.addr I.m 0) (.pv (.int .i64 pick)) (.addr t4 0) (.pv (.int .i64 (cntM M M.cs.length))) (.pv (.int .i64 (tkM M))) (.pv (.int .i64 0)) σ1 K X := by
    unfold J47_5
    have hal : M.next < M.aside.length := by omega
    have ix66 : ∀ (K : AV → Prop), indexAddrD PS 66 (.msl I.a 0 M.cs.length 1) (.pv (.int .i64 M.next)) K = K (.addr I.a (0 + M.next * 1)) := fun K => T.ixm66 hnx
    simp (disch := omega) only [go_sem, ix66, hm, ha, ldM_cells, mCells, List.getElem?_cons_zero, List.getElem?_cons_succ, boolsA_get]
    split
    · rename_i hf
      have : (1 : Int) = (flM M : Int) := by unfold flM; rw [if_pos hf]; rfl
      rw [this]; exact j7
    · rename_i hf
      have : (0 : Int) = (flM M : Int) := by unfold flM; rw [if_neg hf]; rfl
      rw [this]; exact j7
  simp (disch := omega) only [go_sem, T.ixm22, T.lnv22 hR.toPV, hm, ht, hs, ldM_cells, mCells, List.getElem?_cons_zero, List.getElem?_cons_succ, intsA_get]
  have i1 : ∀ (K : AV → Prop), indexAddrD PS 22 (.msl I.s 0 (2 * M.n) 1) (.pv (.int .i64 1)) K = K (.addr I.s (0 + 1 * 1)) := fun K => T.ixm22 (i := 1) (by omega)
  rw [i1]
  simp (disch := omega) only [go_sem, hs, ldM_cells, intsA_get, hsum1]
  split
  · rename_i hw
    have : (1 : Int) = (tkM M : Int) := by unfold tkM; rw [if_neg (by omega)]; rfl
    rw [this]; exact j5
  · rename_i hw
    have : (0 : Int) = (tkM M : Int) := by unfold tkM; rw [if_pos (by omega)]; rfl
    have e0 : (.pv (.int .i64 (tkM M : Int)) : AV) = .pv (.int .i64 0) := by rw [← this]
    have := j5
    rw [e0] at this
    exact this
end Go.AD.Sc
