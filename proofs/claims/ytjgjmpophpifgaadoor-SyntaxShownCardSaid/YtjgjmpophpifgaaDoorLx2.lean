/- lex: the lexer in memory; take, put, operand, name. -/
import Derived.Test.YtjgjmpophpifgaaDoorLx1
set_option linter.unusedVariables false
set_option linter.unusedSimpArgs false
set_option maxRecDepth 100000
namespace Go.AD.Lx
open Go.Proofs
def tokPV (t : Tok) : List PV := [.str t.1, .str t.2]
def flatT : List Tok → List PV
  | [] => []
  | t :: l => tokPV t ++ flatT l
theorem flatT_app (a b : List Tok) : flatT (a ++ b) = flatT a ++ flatT b := by
  induction a with
  | nil => rfl
  | cons s a ih => simp [flatT, ih]
theorem flatT_len (a : List Tok) : (flatT a).length = a.length * 2 := by
  induction a with
  | nil => rfl
  | cons s a ih => simp [flatT, tokPV, ih]; omega
theorem flatT_get : ∀ (l : List Tok) (i : Nat) (h : i < l.length), ((flatT l).drop (i * 2)).take 2 = tokPV l[i]
  | s :: l, 0, _ => by simp [flatT, tokPV]
  | s :: l, i + 1, h => by
    have : (i + 1) * 2 = i * 2 + 2 := by omega
    rw [this]
    have := flatT_get l i (by simpa using h)
    simpa [flatT, tokPV] using this
theorem rowTT : RowT PS 47 52 := ⟨T.el47, by rw [T.sz52]; decide, _, T.zo52, by rw [T.sz52]; rfl⟩
/-- The lexer in memory. -/
structure LexAt (σ0 σ : AS) (l : Nat) (s : Bytes) (ts : List Tok) (X : Objs) : Prop where
  row : ∃ ov ol, RowV PS 52 ov ol ts.length (flatT ts) ∧ Sep σ0 σ ((l, .cells [.pv (.str s), ov] none) :: (ol ++ X))
section
variable {env : Env} {args : List AV} {σ0 σ : AS} {K : AV → AS → Prop} {X : PV → AS → Prop} {l : Nat} {s : Bytes} {ts : List Tok} {Y : Objs}
def T_take : Tr := fun args σ K _ => ∃ (σ0 : AS) (l n : Nat) (s : Bytes) (ts : List Tok) (Y : Objs), args = [.addr l 0, .pv (.int .i64 n)] ∧ LexAt σ0 σ l s ts Y ∧ n ≤ s.length ∧ ∀ σ', LexAt σ0 σ' l (s.drop n) ts Y → K (.pv (.str (s.take n))) σ'
theorem T_take_ok (h : T_take args σ K X) : bodyD PS env an84 Tryd.f84 args σ K X := by
  obtain ⟨σ0, l, n, s, ts, Y, rfl, ⟨ov, ol, hR, hS⟩, hn, hK⟩ := h
  rw [← S84_eq env, S84]
  have hl : σ l = some (.cells [.pv (.str s), ov] none) := hS.get (by simp)
  simp (disch := omega) only [go_sem, hl, ldM_cells, stM_cells, List.getElem?_cons_zero, T.ss9, T.st9, List.set_cons_zero]
  refine ⟨by simp, retV_self (hK _ ⟨ov, ol, hR, Sep.set1 hS _⟩)⟩
theorem take_call (ht : env 84 = T_take) (hL : LexAt σ0 σ l s ts Y) {n : Nat} (hn : n ≤ s.length) (hK : ∀ σ', LexAt σ0 σ' l (s.drop n) ts Y → K (.pv (.str (s.take n))) σ') : env 84 [.addr l 0, .pv (.int .i64 n)] σ K X := by
  rw [ht]; exact ⟨σ0, l, n, s, ts, Y, rfl, hL, hn, hK⟩
def T_put : Tr := fun args σ K _ => ∃ (σ0 : AS) (l : Nat) (k t s : Bytes) (ts : List Tok) (Y : Objs), args = [.addr l 0, .pv (.str k), .pv (.str t)] ∧ LexAt σ0 σ l s ts Y ∧ ts.length ≤ 1000000 ∧ ∀ σ', LexAt σ0 σ' l s (ts ++ [(k, t)]) Y → K (.tuple []) σ'
theorem bdT {a b : PV} {K : AV → Prop} : buildD PS 52 [(0, .pv a), (1, .pv b)] K = K (.agg [.pv a, .pv b]) := by
  simp [buildD, buildFill, go_sem, AV.cells, AV.cellOk, setAll]
theorem T_put_ok (h : T_put args σ K X) : bodyD PS env an88 Tryd.f88 args σ K X := by
  obtain ⟨σ0, l, k, t, s, ts, Y, rfl, ⟨ov, ol, hR, hS⟩, hn, hK⟩ := h
  rw [← S88_eq env, S88]
  have hl : σ l = some (.cells [.pv (.str s), ov] none) := hS.get (by simp)
  simp (disch := omega) only [go_sem, hl, ldM_cells, List.getElem?_cons_zero, List.getElem?_cons_succ, bdT]
  have e : AV.agg [.pv (.str k), .pv (.str t)] = .agg ((tokPV (k, t)).map .pv) := rfl
  rw [e, build1 (ys := tokPV (k, t)) rowTT T.hT52 (by rw [T.sz52]; rfl) rfl rfl (by rw [T.sz52]; decide)]
  have hS1 : Sep σ0 σ (((l, .cells [.pv (.str s), ov] none) :: Y) ++ ol) := hS.perm (List.Perm.cons _ List.perm_append_comm)
  refine hR.append hS1 rowTT rfl (by rw [T.sz52]; rfl) (by omega) (by rw [T.by52]; omega) (by omega) ?_
  intro v' L' σ' hR' hS'
  have hl' : σ' l = some (.cells [.pv (.str s), ov] none) := hS'.get (by simp)
  rw [T.stv47 hR'.cells hR'.cellOk, hl']
  simp only [stM_cells, List.set_cons_succ, List.set_cons_zero]
  refine ⟨by simp, retV_self (hK _ ⟨v', L', ?_, ?_⟩)⟩
  · rw [flatT_app, List.length_append]
    have : flatT [(k, t)] = tokPV (k, t) := by simp [flatT]
    rw [this]
    exact hR'
  · have := Sep.set1 hS' (.cells [.pv (.str s), v'] none)
    exact this.perm (List.Perm.cons _ List.perm_append_comm)
theorem put_call (ht : env 88 = T_put) (hL : LexAt σ0 σ l s ts Y) {k t : Bytes} (hn : ts.length ≤ 1000000) (hK : ∀ σ', LexAt σ0 σ' l s (ts ++ [(k, t)]) Y → K (.tuple []) σ') : env 88 [.addr l 0, .pv (.str k), .pv (.str t)] σ K X := by
  rw [ht]; exact ⟨σ0, l, k, t, s, ts, Y, rfl, hL, hn, hK⟩
theorem LexAt.str (hL : LexAt σ0 σ l s ts Y) : ∃ ov, σ l = some (.cells [.pv (.str s), ov] none) := by
  obtain ⟨ov, ol, hR, hS⟩ := hL
  exact ⟨ov, hS.get (by simp)⟩
def T_operand : Tr := fun args σ K _ => ∃ (σ0 : AS) (l : Nat) (s : Bytes) (ts : List Tok) (Y : Objs), args = [.addr l 0] ∧ LexAt σ0 σ l s ts Y ∧ ts.length ≤ 1000000 ∧ (∀ t ∈ ts, t.2.length ≤ 100000) ∧ ∀ σ', LexAt σ0 σ' l s ts Y → K (.pv (.bool (operandS ts))) σ'
theorem getLast_ix {ts : List Tok} (h : 0 < ts.length) : ts.getLast? = some ts[ts.length - 1] := by
  rw [List.getLast?_eq_getElem?, List.getElem?_eq_getElem (by omega)]
/-- The last token, in its own variable. -/
theorem own_tok {ov : AV} {ol L : Objs} {i : Nat} (hR : RowV PS 52 ov ol ts.length (flatT ts)) (hi : i < ts.length) {KS : AV → Prop} (hK : KS (.agg ((tokPV ts[i]).map .pv))) :
    indexAddrD PS 47 ov (.pv (.int .i64 i)) fun t20 => loadD PS σ 52 t20 KS := by
  refine T.ixv47 (i := i) hR.toPV hi (by rw [flatT_len]) ?_
  rw [load_elemA T.hT52 T.ag52, T.sz52]
  refine ⟨by rw [flatT_len]; omega, ?_⟩
  rw [flatT_get ts i hi]
  exact hK
theorem kinds9 {t : Tok} : J91_9 = J91_9 := rfl
theorem T_operand_ok (hli : env 95 = T_listed) (h : T_operand args σ K X) : bodyD PS env an91 Tryd.f91 args σ K X := by
  obtain ⟨σ0, l, s, ts, Y, rfl, hL, hn, hlen, hK⟩ := h
  obtain ⟨ov, ol, hR, hS⟩ := id hL
  rw [← S91_eq env, S91]
  have hl : σ l = some (.cells [.pv (.str s), ov] none) := hS.get (by simp)
  simp (disch := omega) only [go_sem, hl, ldM_cells, List.getElem?_cons_zero, List.getElem?_cons_succ, T.lnv47 hR.toPV, beq_iff_eq]
  refine iteI (fun h0 => ?_) (fun h0 => ?_)
  · have : ts = [] := List.eq_nil_of_length_eq_zero h0
    have := hK σ hL
    subst ts
    exact retV_self this
  · have hlast := getLast_ix (ts := ts) (by omega)
    have hop : operandS ts = tokOperand ts[ts.length - 1] := by unfold operandS; rw [hlast]
    have hbt := hlen ts[ts.length - 1] (List.getElem_mem _)
    rw [hop] at hK
    have hle : ts.length - 1 < ts.length := by omega
    generalize hte : ts[ts.length - 1] = t at hK hbt
    have j9 : ∀ (t3 : Nat) (σ' : AS) (b : Bool), σ' t3 = some (.cells ((tokPV t).map .pv) (some 52)) → LexAt σ0 σ' l s ts Y → b = (decide (t.1 = kNum) || decide (t.1 = kStr) || decide (t.1 = kEre) || decide (t.1 = kName)) → J91_9 env (.addr t3 0) (.pv (.str t.1)) (.pv (.bool b)) σ' K X := by
      intro t3 σ' b hg hL' hb
      have hK := hK σ' hL'
      unfold tokOperand at hK
      unfold J91_9
      simp only [go_sem]
      refine iteI (fun h1 => ?_) (fun h1 => ?_)
      · subst h1
        rw [if_pos (by simpa [or_assoc] using hb.symm)] at hK
        exact retV_self hK
      · have hb' : b = false := Bool.eq_false_iff.2 h1
        rw [hb'] at hb
        have hno : ¬ (t.1 = kNum ∨ t.1 = kStr ∨ t.1 = kEre ∨ t.1 = kName) := by
          intro h
          have := hb.symm
          simp only [Bool.or_eq_false_iff, decide_eq_false_iff_not] at this
          rcases h with h | h | h | h
          · exact this.1.1.1 h
          · exact this.1.1.2 h
          · exact this.1.2 h
          · exact this.2 h
        rw [if_neg hno] at hK
        simp only [tokPV, List.map_cons, List.map_nil] at hg
        simp (disch := omega) only [go_sem, hg, ldM_cells, Nat.reduceAdd, List.getElem?_cons_zero, List.getElem?_cons_succ, someEx, beq_iff_eq]
        refine iteI (fun h2 => ?_) (fun h2 => ?_)
        · rw [if_pos (show t.1 = kBuilt from h2)] at hK
          exact retV_self hK
        · rw [if_neg (show ¬ t.1 = kBuilt from h2)] at hK
          refine iteI (fun h3 => ?_) (fun h3 => ?_)
          · rw [if_pos (show t.1 = kOp from h3)] at hK
            rw [hli]
            exact ⟨lAfter, t.2, rfl, by decide, by omega, retV_self hK⟩
          · rw [if_neg (show ¬ t.1 = kOp from h3)] at hK
            exact retV_self hK
    have hk1 : t.1 = [110, 117, 109] → (t.1 == [110, 117, 109]) = (decide (t.1 = kNum) || decide (t.1 = kStr) || decide (t.1 = kEre) || decide (t.1 = kName)) := by
      intro h1; rw [beq_iff_eq.2 h1]; simp [kNum, h1]
    have hk2 : t.1 = [115, 116, 114] → (t.1 == [115, 116, 114]) = (decide (t.1 = kNum) || decide (t.1 = kStr) || decide (t.1 = kEre) || decide (t.1 = kName)) := by
      intro h2; rw [beq_iff_eq.2 h2]; simp [kStr, h2]
    have hk3 : t.1 = [101, 114, 101] → (t.1 == [101, 114, 101]) = (decide (t.1 = kNum) || decide (t.1 = kStr) || decide (t.1 = kEre) || decide (t.1 = kName)) := by
      intro h3; rw [beq_iff_eq.2 h3]; simp [kEre, h3]
    have hk4 : ¬ t.1 = [110, 117, 109] → ¬ t.1 = [115, 116, 114] → ¬ t.1 = [101, 114, 101] → (t.1 == [110, 97, 109, 101]) = (decide (t.1 = kNum) || decide (t.1 = kStr) || decide (t.1 = kEre) || decide (t.1 = kName)) := by
      intro h1 h2 h3
      have a1 : decide (t.1 = kNum) = false := decide_eq_false h1
      have a2 : decide (t.1 = kStr) = false := decide_eq_false h2
      have a3 : decide (t.1 = kEre) = false := decide_eq_false h3
      rw [a1, a2, a3]
      simp only [Bool.false_or]
      rw [Bool.eq_iff_iff, beq_iff_eq, decide_eq_true_eq]
      exact Iff.rfl
    have hix : ∀ K, indexAddrD PS 47 ov (.pv (.int .i64 (ts.length - 1 : Nat))) K = K (.elemP (flatT ts) ((ts.length - 1) * 2)) := by
      intro K
      have := hR.ix (t := 47) (k := .i64) (i := ts.length - 1) (K := K) T.el47 T.iS52 (by rw [T.sz52]; decide) hle
      rwa [T.sz52] at this
    have hld : ∀ σ' K, loadD PS σ' 52 (.elemP (flatT ts) ((ts.length - 1) * 2)) K = K (.agg ((tokPV t).map .pv)) := by
      intro σ' K
      rw [load_elemA T.hT52 T.ag52, T.sz52, flatT_get ts _ hle, hte]
      exact propext ⟨fun h => h.2, fun h => ⟨by rw [flatT_len]; omega, h⟩⟩
    have hst : ∀ (t3 : Nat) (σ' : AS) (KS : AS → Prop), Sep σ0 σ' ((t3, .cells [.pv (.str []), .pv (.str [])] (some 52)) :: (l, .cells [.pv (.str s), ov] none) :: (ol ++ Y)) → (∀ σ'', Sep σ0 σ'' ((t3, .cells ((tokPV t).map .pv) (some 52)) :: (l, .cells [.pv (.str s), ov] none) :: (ol ++ Y)) → KS σ'') → storeD PS σ' 52 (.addr t3 0) (.agg ((tokPV t).map .pv)) KS := by
      intro t3 σ' KS h1 h2
      have hg : σ' t3 = some (.cells [.pv (.str []), .pv (.str [])] (some 52)) := h1.get (by simp)
      rw [storeD]
      simp only [hg]
      refine ⟨T.hT52, by rw [T.sz52]; rfl, rfl, by simp [AV.cells, tokPV], h2 _ (Sep.set1 h1 _)⟩
    have e1 : ((ts.length : Int) - 1) = ((ts.length - 1 : Nat) : Int) := by omega
    try rw [e1]
    simp only [hix, hld]
    repeat' (first
      | exact trivial
      | (refine alloc_of T.zo52 rfl ?_
         intro t3 ht3
         have hS3 := hS.alloc ht3 (.cells [.pv (.str []), .pv (.str [])] (some 52))
         have hl3 := hS3.get (i := l) (o := .cells [.pv (.str s), ov] none) (by simp)
         simp (disch := omega) only [go_sem, hl3, ldM_cells, List.getElem?_cons_zero, List.getElem?_cons_succ, T.lnv47 hR.toPV, hix, hld])
      | (refine hst _ _ _ hS3 ?_
         intro σ3 hS4
         have hg : σ3 t3 = some (.cells ((tokPV t).map .pv) (some 52)) := hS4.get (by simp)
         have hg' := hg
         have hL' : LexAt σ0 σ3 l s ts Y := ⟨ov, ol, hR, hS4.drop⟩
         simp only [tokPV, List.map_cons, List.map_nil] at hg'
         simp (disch := omega) only [go_sem, hg', ldM_cells, List.getElem?_cons_zero, List.getElem?_cons_succ, someEx, beq_iff_eq]
         refine iteI (fun h1 => j9 t3 σ3 _ hg hL' (hk1 h1)) (fun h1 => ?_)
         refine iteI (fun h2 => j9 t3 σ3 _ hg hL' (hk2 h2)) (fun h2 => ?_)
         exact iteI (fun h3 => j9 t3 σ3 _ hg hL' (hk3 h3)) (fun h3 => j9 t3 σ3 _ hg hL' (hk4 h1 h2 h3)))
      | refine And.intro ?_ ?_)
end
end Go.AD.Lx
