/- sched: the machine. -/
import Derived.Test.YtcaidbmopehjhaaS2
set_option linter.unusedVariables false
set_option maxRecDepth 100000
namespace Go.AD.Sc
open Go.Proofs
structure Ids where
  m : Nat
  d : Nat
  r : Nat
  a : Nat
  t : Nat
  s : Nat
structure Ms where
  cs : List Int
  done : List Int
  ready : List Int
  aside : List Bool
  way : List Int
  room : Nat
  next : Nat
  held : Nat
  opn : Bool
  n : Nat
  sum : List Int
def boolsA (l : List Bool) : List AV := l.map fun b => .pv (.bool b)
theorem boolsA_len (l : List Bool) : (boolsA l).length = l.length := by simp [boolsA]
theorem boolsA_get (l : List Bool) (i : Nat) (h : i < l.length) : (boolsA l)[i]? = some (.pv (.bool (l.getD i false))) := by simp [boolsA, h]
theorem boolsA_set (l : List Bool) (i : Nat) (v : Bool) : (boolsA l).set i (.pv (.bool v)) = boolsA (l.set i v) := by simp [boolsA, List.map_set]
def mCells (I : Ids) (M : Ms) (wv : AV) : List AV := [.pv (.lst M.cs.length (i64s M.cs)), .msl I.d 0 M.cs.length 1, .msl I.r 0 M.cs.length 1, .msl I.a 0 M.cs.length 1, wv, .pv (.int .i64 M.room), .pv (.int .i64 M.next), .pv (.int .i64 M.held), .addr I.t 0, .pv (.bool M.opn)]
def mObs (I : Ids) (M : Ms) (wv : AV) : Objs := [(I.m, .cells (mCells I M wv) none), (I.d, .cells (intsA M.done) none), (I.r, .cells (intsA M.ready) none), (I.a, .cells (boolsA M.aside) none)]
structure MOk (M : Ms) : Prop where
  ld : M.done.length = M.cs.length
  lr : M.ready.length = M.cs.length
  la : M.aside.length = M.cs.length
  kn : M.cs.length ≤ M.n
  nb : M.n ≤ 8192
  pw : ∃ h, M.n = 2 ^ h
  wl : M.way.length ≤ 4096
  rm : M.room ≤ 4096
  cb : ∀ c ∈ M.cs, 0 ≤ c ∧ c ≤ 1048576
  db : ∀ c ∈ M.done, 0 ≤ c ∧ c ≤ 1048576
structure MachAt (σ0 σ : AS) (I : Ids) (M : Ms) (leaf : Nat → Int) : Prop where
  ok : MOk M
  sep : ∃ wv wl, RowV PS 3 wv wl M.way.length (i64s M.way) ∧ Sep σ0 σ ((mObs I M wv ++ wl) ++ treeO I.t I.s M.n M.sum)
  tree : TreeOk M.n M.sum leaf
  bits : Bits leaf
theorem getD_mem {l : List Int} {i : Nat} (h : i < l.length) : l.getD i 0 ∈ l := by
  simp only [List.getD_eq_getElem?_getD, List.getElem?_eq_getElem h, Option.getD_some]
  exact List.getElem_mem h
def mayB (M : Ms) (j : Nat) : Bool := decide (M.done.getD j 0 < M.cs.getD j 0) || (decide (M.ready.getD j 0 = 1) && M.opn)
def T46 : Tr := fun args σ K _ => ∃ (σ0 : AS) (I : Ids) (M : Ms) (leaf : Nat → Int) (i : Nat), args = [.addr I.m 0, .pv (.int .i64 i)] ∧ MachAt σ0 σ I M leaf ∧ i < M.cs.length ∧
  ∀ σ' sum', MachAt σ0 σ' I { M with sum := sum' } (updL leaf i (bitOf (mayB M i))) → K (.tuple []) σ'
theorem bits_upd {leaf : Nat → Int} (h : Bits leaf) (i : Nat) (b : Bool) : Bits (updL leaf i (bitOf b)) := by
  intro j
  unfold updL
  split
  · cases b <;> simp [bitOf]
  · exact h j
theorem T46_ok {env : Env} (h55 : env 55 = T55) (args : List AV) (σ : AS) (K : AV → AS → Prop) (X : PV → AS → Prop) (h : T46 args σ K X) : bodyD PS env an46 Try.f46 args σ K X := by
  obtain ⟨σ0, I, M, leaf, i, rfl, hM, hi, hK⟩ := h
  rw [← S46_eq env, S46]
  obtain ⟨ok, ⟨wv, wl, hR, hS⟩, hT, hB⟩ := hM
  have ld := ok.ld; have lr := ok.lr; have la := ok.la; have kn := ok.kn; have nb := ok.nb
  have hm : σ I.m = some (.cells (mCells I M wv) none) := hS.get (by simp [mObs])
  have hd : σ I.d = some (.cells (intsA M.done) none) := hS.get (by simp [mObs])
  have hr : σ I.r = some (.cells (intsA M.ready) none) := hS.get (by simp [mObs])
  have call : ∀ b : Bool, b = mayB M i → env 55 [.addr I.t 0, .pv (.int .i64 i), .pv (.bool b)] σ (fun t40 σ1 => retV (.tuple []) σ1 K) (panV X) := by
    rintro b rfl
    rw [h55]
    refine hS.part ?_
    intro hS1 back1
    refine ⟨_, I.t, I.s, M.n, i, M.sum, leaf, mayB M i, rfl, hS1, by omega, nb, hT, hB, ?_⟩
    intro σ' sum' h1 h2
    refine retV_self (hK σ' sum' ⟨⟨ld, lr, la, kn, nb, ok.pw, ok.wl, ok.rm, ok.cb, ok.db⟩, ⟨wv, wl, hR, back1 _ _ h1⟩, h2, bits_upd hB _ _⟩)
  have il : (i64s M.cs).length = M.cs.length * 1 := by simp [i64s]
  simp (disch := omega) only [go_sem, T.ixm22, T.ixl22, hm, hd, hr, ldM_cells, mCells, List.getElem?_cons_zero, List.getElem?_cons_succ, intsA_get, i64s_getD]
  split
  · rename_i h1
    exact call true (by unfold mayB; simp [-List.getD_eq_getElem?_getD, h1])
  · rename_i h1
    split
    · rename_i h2
      exact call _ (by unfold mayB; simp only [beq_iff_eq] at h2; simp [-List.getD_eq_getElem?_getD, h1, h2])
    · rename_i h2
      exact call false (by unfold mayB; simp only [beq_iff_eq] at h2; simp [-List.getD_eq_getElem?_getD, h1, h2])
/-! ### the machine's parts turn -/
section
variable {σ0 σ : AS} {I : Ids} {M : Ms} {wv : AV} {wl X : Objs}
theorem upM (h : Sep σ0 σ ((mObs I M wv ++ wl) ++ X)) (M' : Ms) (wv' : AV) (e1 : M'.done = M.done) (e2 : M'.ready = M.ready) (e3 : M'.aside = M.aside) : Sep σ0 (σ.set I.m (.cells (mCells I M' wv') none)) ((mObs I M' wv' ++ wl) ++ X) := by
  unfold mObs at *
  rw [e1, e2, e3]
  exact Sep.set1 h _
theorem upD (h : Sep σ0 σ ((mObs I M wv ++ wl) ++ X)) (l : List Int) : Sep σ0 (σ.set I.d (.cells (intsA l) none)) ((mObs I { M with done := l } wv ++ wl) ++ X) := Sep.set (l1 := [_]) h _
theorem upR (h : Sep σ0 σ ((mObs I M wv ++ wl) ++ X)) (l : List Int) : Sep σ0 (σ.set I.r (.cells (intsA l) none)) ((mObs I { M with ready := l } wv ++ wl) ++ X) := Sep.set (l1 := [_, _]) h _
theorem upA (h : Sep σ0 σ ((mObs I M wv ++ wl) ++ X)) (l : List Bool) : Sep σ0 (σ.set I.a (.cells (boolsA l) none)) ((mObs I { M with aside := l } wv ++ wl) ++ X) := Sep.set (l1 := [_, _, _]) h _
theorem sepSw {A : Objs} (h : Sep σ0 σ ((A ++ wl) ++ X)) : Sep σ0 σ ((A ++ X) ++ wl) := by
  refine h.perm ?_
  rw [List.append_assoc, List.append_assoc]
  exact (List.perm_append_comm).append_left A
end
theorem TreeOk.congr {n : Nat} {sum : List Int} {leaf leaf' : Nat → Int} (h : TreeOk n sum leaf) (e : ∀ j, j < n → leaf j = leaf' j) : TreeOk n sum leaf' := ⟨h.len, fun j hj => (h.lf j hj).trans (e j hj), h.nd⟩
def leafF (M : Ms) : Nat → Int := fun j => if j < M.cs.length then bitOf (mayB M j) else 0
theorem leafF_bits (M : Ms) : Bits (leafF M) := by
  intro j
  unfold leafF
  split
  · cases mayB M j <;> simp [bitOf]
  · exact .inl rfl
theorem MachAt.congr {σ0 σ : AS} {I : Ids} {M : Ms} {leaf leaf' : Nat → Int} (h : MachAt σ0 σ I M leaf) (hb : Bits leaf') (e : ∀ j, leaf j = leaf' j) : MachAt σ0 σ I M leaf' := ⟨h.ok, h.sep, h.tree.congr fun j _ => e j, hb⟩
def gated (M : Ms) : Ms := { M with opn := decide (M.way.length < M.room) }
def T58 : Tr := fun args σ K _ => ∃ (σ0 : AS) (I : Ids) (M : Ms), args = [.addr I.m 0] ∧ MachAt σ0 σ I M (leafF M) ∧
  ∀ σ' sum', MachAt σ0 σ' I { gated M with sum := sum' } (leafF (gated M)) → K (.tuple []) σ'
theorem T58_ok {env : Env} (h46 : env 46 = T46) (args : List AV) (σ : AS) (K : AV → AS → Prop) (X : PV → AS → Prop) (h : T58 args σ K X) : bodyD PS env an58 Try.f58 args σ K X := by
  obtain ⟨σ0, I, M, rfl, hM, hK⟩ := h
  rw [← S58_eq env, S58]
  obtain ⟨ok, ⟨wv, wl, hR, hS⟩, hT, hB⟩ := hM
  have ld := ok.ld; have lr := ok.lr; have la := ok.la; have kn := ok.kn; have nb := ok.nb
  have hm : σ I.m = some (.cells (mCells I M wv) none) := hS.get (by simp [mObs])
  simp (disch := omega) only [go_sem, T.lnv22 hR.toPV, hm, ldM_cells, mCells, List.getElem?_cons_zero, List.getElem?_cons_succ]
  rw [bin_bneq Try.underlying4, cond_bool]
  split
  · rename_i hne
    simp (disch := omega) only [go_sem, hm, ldM_cells, stM_cells, mCells, List.getElem?_cons_zero, List.getElem?_cons_succ, List.set_cons_succ, List.set_cons_zero]
    refine ⟨by simp, ?_⟩
    have hS' : Sep σ0 (σ.set I.m (.cells (mCells I (gated M) wv) none)) ((mObs I (gated M) wv ++ wl) ++ treeO I.t I.s M.n M.sum) := upM hS (gated M) wv rfl rfl rfl
    refine lp58_4 (fun (i : Nat) _ => M.cs.length - i) (fun i τ => i ≤ M.cs.length ∧ ∃ sum', MachAt σ0 τ I { gated M with sum := sum' } (fun j => if j < i ∧ M.ready.getD j 0 = 1 then leafF (gated M) j else leafF M j)) (fun i => .pv (.int .i64 i)) 0
      ⟨by omega, M.sum, ⟨⟨ld, lr, la, kn, nb, ok.pw, ok.wl, ok.rm, ok.cb, ok.db⟩, ⟨wv, wl, hR, hS'⟩, hT.congr fun j _ => by simp, fun j => by simp only [Nat.not_lt_zero, false_and, if_false]; exact hB j⟩⟩ ?_
    rintro i τ ⟨hi, sum', hM⟩
    have hready : ∃ cs var, τ I.r = some (.cells cs var) ∧ cs = intsA M.ready := by
      obtain ⟨wv', wl', _, hS2⟩ := hM.sep
      exact ⟨_, _, hS2.get (i := I.r) (o := .cells (intsA M.ready) none) (by simp [mObs, gated]), rfl⟩
    obtain ⟨_, var, hr, rfl⟩ := hready
    unfold L58_4
    simp only [go_sem]
    split
    · rename_i hlt
      have hlt' : i < (gated M).cs.length := hlt
      simp (disch := omega) only [go_sem, T.ixm22, hr, ldM_cells, intsA_get, hlt]
      split
      · rename_i h1
        simp only [beq_iff_eq] at h1
        rw [h46]
        refine ⟨σ0, I, _, _, i, rfl, hM, hlt', ?_⟩
        intro σ' sum2 hM2
        refine back (i + 1) rfl (by omega) ⟨hlt, sum2, hM2.congr ?_ ?_⟩
        · intro j
          simp only
          split
          · exact leafF_bits _ j
          · exact hB j
        · intro j
          unfold updL
          by_cases e : j = i
          · subst e
            rw [if_pos rfl, if_pos ⟨by omega, h1⟩]
            unfold leafF
            rw [if_pos hlt']
            rfl
          · rw [if_neg e]
            show (if j < i ∧ M.ready.getD j 0 = 1 then leafF (gated M) j else leafF M j) = if j < i + 1 ∧ M.ready.getD j 0 = 1 then leafF (gated M) j else leafF M j
            by_cases e2 : j < i ∧ M.ready.getD j 0 = 1
            · rw [if_pos e2, if_pos ⟨by omega, e2.2⟩]
            · rw [if_neg e2, if_neg (by omega)]
      · rename_i h1
        simp only [beq_iff_eq] at h1
        refine back (i + 1) rfl (by omega) ⟨hlt, sum', hM.congr ?_ ?_⟩
        · intro j
          simp only
          split
          · exact leafF_bits _ j
          · exact hB j
        · intro j
          show (if j < i ∧ M.ready.getD j 0 = 1 then leafF (gated M) j else leafF M j) = if j < i + 1 ∧ M.ready.getD j 0 = 1 then leafF (gated M) j else leafF M j
          by_cases e2 : j < i ∧ M.ready.getD j 0 = 1
          · rw [if_pos e2, if_pos ⟨by omega, e2.2⟩]
          · rw [if_neg e2, if_neg]
            intro h3
            have : j = i := by
              by_cases h4 : j < i
              · exact absurd ⟨h4, h3.2⟩ e2
              · omega
            subst this
            exact h1 h3.2
    · rename_i hge
      refine retV_self (hK _ sum' (hM.congr (leafF_bits _) ?_))
      intro j
      split
      · rfl
      · rename_i h2
        unfold leafF
        have ec : (gated M).cs.length = M.cs.length := rfl
        rw [ec]
        split
        · rename_i hj
          have hr0 : ¬ M.ready.getD j 0 = 1 := fun h => h2 ⟨by omega, h⟩
          unfold mayB gated
          simp only [hr0, decide_false, Bool.false_and]
        · rfl
  · rename_i hne
    have e : decide (M.way.length < M.room) = M.opn := by
      cases h1 : decide (M.way.length < M.room) <;> cases h2 : M.opn <;> simp_all
    have eg : gated M = M := by unfold gated; rw [e]
    refine retV_self (hK σ M.sum ?_)
    rw [eg]
    exact ⟨ok, ⟨wv, wl, hR, hS⟩, hT, hB⟩
end Go.AD.Sc
