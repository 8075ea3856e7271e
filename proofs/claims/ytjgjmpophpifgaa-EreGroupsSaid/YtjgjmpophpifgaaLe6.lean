/- ere: trees in memory; joined, group, atom. -/
import Derived.Test.YtjgjmpophpifgaaLe5
import Derived.Test.YtjgjmpophpifgaaG8
set_option linter.unusedVariables false
set_option linter.unusedSimpArgs false
set_option maxRecDepth 100000
namespace Go.AD.Lx
open Go.Proofs RowKit
section
variable {env : Env} {args : List AV} {σ0 σ τ : AS} {K : AV → AS → Prop} {X : PV → AS → Prop} {l : Nat} {s : Bytes} {d : Nat} {Y : Objs}
theorem flatE_app (a b : List ETree) : flatE (a ++ b) = flatE a ++ flatE b := by
  induction a with
  | nil => rfl
  | cons s a ih => simp [flatE, ih]
theorem flatE_len (a : List ETree) : (flatE a).length = a.length * 5 := by
  induction a with
  | nil => rfl
  | cons s a ih => simp [flatE, ereCells_len, ih]; omega
theorem flatE_get : ∀ (l : List ETree) (i : Nat) (h : i < l.length), ((flatE l).drop (i * 5)).take 5 = ereCells l[i]
  | s :: l, 0, _ => by
    have := ereCells_len s
    simp [flatE, ← this]
  | s :: l, i + 1, h => by
    have e : (i + 1) * 5 = 5 + i * 5 := by omega
    rw [e, ← List.drop_drop]
    have h5 : (flatE (s :: l)).drop 5 = flatE l := by
      have := ereCells_len s
      rw [flatE, ← this, List.drop_left]
    rw [h5]
    exact flatE_get l i (by simpa using h)
theorem rowTE : RowT PS 32 34 := ⟨T.el32, by rw [T.sz34]; decide, _, T.zo34, by rw [T.sz34]; rfl⟩
/-- A value that is a tree. -/
def EV (v : AV) (e : ETree) : Prop := ∃ k : AV, v = .agg [.pv (.str e.op), .pv (.str e.set), k, .pv (.int .i64 e.lo), .pv (.int .i64 e.hi)] ∧ toPV k = some (.lst e.kids.length (flatE e.kids)) ∧ k.cells = [k] ∧ k.cellOk = true
theorem ereCells_eq (e : ETree) : ereCells e = [.str e.op, .str e.set, .lst e.kids.length (flatE e.kids), .int .i64 e.lo, .int .i64 e.hi] := by cases e; rfl
theorem EV.self (e : ETree) : EV (ereAV e) e := ⟨.pv (.lst e.kids.length (flatE e.kids)), by rw [ereAV, ereCells_eq]; rfl, rfl, rfl, rfl⟩
theorem EV.cells5 {v : AV} {e : ETree} (h : EV v e) : ∃ cs : List AV, v = .agg cs ∧ cs.length = 5 ∧ v.cells = cs ∧ cs.all AV.cellOk = true ∧ toPVs cs = some (ereCells e) := by
  obtain ⟨k, rfl, hk, hc, ho⟩ := h
  refine ⟨_, rfl, rfl, ?_, ?_, ?_⟩
  · simp [AV.cells, hc]
  · show (true && (true && (k.cellOk && (true && (true && true))))) = true
    rw [ho]; rfl
  · rw [ereCells_eq]
    have e1 : ∀ p, toPV (.pv p) = some p := fun _ => rfl
    simp only [toPVs, hk, e1]
theorem EV.ret {v : AV} {e : ETree} (h : EV v e) (hK : K (ereAV e) σ) : retV v σ K := by
  obtain ⟨k, rfl, hk, hc, ho⟩ := h
  refine ⟨ereAV e, σ, .inr ?_, sub_refl _, hK⟩
  rw [ereAV, ereCells_eq]
  exact wkS (wkS (wkP hk (wkS (wkS wkN))))
/-- A variable that holds a tree. -/
def VarE (t : Nat) (v : AV) : Nat × AObj := (t, .cells v.cells (some 34))
theorem store_E {A B : Objs} {t : Nat} {v0 v : AV} {e0 e : ETree} (h0 : EV v0 e0) (h : EV v e) (hS : Sep σ0 σ (A ++ VarE t v0 :: B)) {KS : AS → Prop} (hK : ∀ σ', Sep σ0 σ' (A ++ VarE t v :: B) → KS σ') : storeD PS σ 34 (.addr t 0) v KS := by
  obtain ⟨cs0, _, l0, c0, _, _⟩ := h0.cells5
  obtain ⟨cs, rfl, l1, c1, o1, p1⟩ := h.cells5
  have hg := hS.get (i := t) (o := .cells v0.cells (some 34)) (by simp [VarE])
  rw [storeD]
  simp only [hg]
  refine ⟨T.hT34, by rw [c1, T.sz34]; exact l1, by rw [c1]; exact o1, by rw [c1, c0]; omega, ?_⟩
  have e1 : setAll v0.cells 0 (AV.cells (.agg cs)) = cs := by
    rw [c1, c0]
    match cs0, l0, cs, l1 with
    | [a, b, c, d, e], _, [a', b', c', d', e'], _ => rfl
  rw [e1]
  refine hK _ ?_
  have := Sep.set (l1 := A) (l2 := B) (i := t) (o := .cells v0.cells (some 34)) hS (.cells cs (some 34))
  unfold VarE
  rw [c1]
  exact this
theorem load_E {t : Nat} {v : AV} {e : ETree} (h : EV v e) (hg : σ t = some (.cells v.cells (some 34))) {K : AV → Prop} : loadD PS σ 34 (.addr t 0) K = K v := by
  obtain ⟨cs, rfl, l1, c1, o1, p1⟩ := h.cells5
  rw [c1] at hg
  rw [load_addrA T.hT34 T.ag34 hg, T.sz34, l1]
  have : (cs.drop 0).take 5 = cs := by rw [List.drop_zero, ← l1, List.take_length]
  rw [this]
  simp
def eZero : ETree := .mk [] [] [] 0 0
def vZero : AV := .agg [.pv (.str []), .pv (.str []), .nilS, .pv (.int .i64 0), .pv (.int .i64 0)]
theorem EV.zero : EV vZero eZero := ⟨.nilS, rfl, rfl, rfl, rfl⟩
/-- A result's variable: made, in the end stored and read. -/
theorem alloc_E {L : Objs} (hS : Sep σ0 σ L) {K : AV → AS → Prop} (h : ∀ t σ', Sep σ0 σ' (VarE t vZero :: L) → K (.addr t 0) σ') : allocD PS σ 34 K := by
  refine alloc_of T.zo34 rfl ?_
  intro t ht
  exact h t _ (hS.alloc ht _)
theorem end_E {A B : Objs} {t : Nat} {v0 v : AV} {e0 e : ETree} (h0 : EV v0 e0) (h : EV v e) (hS : Sep σ0 σ (A ++ VarE t v0 :: B)) (hK : ∀ σ', Sep σ0 σ' (A ++ B) → K (ereAV e) σ') : storeD PS σ 34 (.addr t 0) v fun σ' => loadD PS σ' 34 (.addr t 0) fun r => retV r σ' K := by
  refine store_E h0 h hS ?_
  intro σ' hS'
  have hg := hS'.get (i := t) (o := .cells v.cells (some 34)) (by simp [VarE])
  rw [load_E h hg]
  refine h.ret (hK σ' (hS'.sublist ?_))
  exact List.Sublist.append_left (List.sublist_cons_self _ _) _
def T_eJoined : Tr := fun args σ K _ => ∃ (op : Bytes) (l : List ETree), args = [.pv (.str op), .pv (.lst l.length (flatE l))] ∧ l.length ≤ 1000000 ∧ ∀ σ', σ.sub σ' → K (ereAV (joinedE op l)) σ'
theorem T_eJoined_ok (h : T_eJoined args σ K X) : bodyD PS env an49 Try.f49 args σ K X := by
  obtain ⟨op, l, rfl, hl, hK⟩ := h
  rw [← S49_eq env, S49]
  simp only [lock_eq]
  refine alloc_E (Sep.start σ) ?_
  intro t σ1 hS1
  simp (disch := omega) only [go_sem, T.lnl32, beq_iff_eq]
  refine iteI (fun g1 => ?_) (fun g1 => ?_)
  · match l, g1, hK with
    | [e], _, hK =>
      have hx : ∀ K : AV → Prop, indexAddrD PS 32 (.pv (.lst 1 (flatE [e]))) (.pv (.int .i64 0)) K = K (.elemP (flatE [e]) (0 * 5)) := fun K => T.ixl32 (i := 0) (by decide) (flatE_len [e])
      have hld : ∀ σ K, loadD PS σ 34 (.elemP (flatE [e]) (0 * 5)) K = K (ereAV e) := by
        intro σ K
        rw [load_elemA T.hT34 T.ag34, T.sz34, flatE_get [e] 0 (by simp)]
        exact propext ⟨fun h => h.2, fun h => ⟨by rw [flatE_len]; simp, h⟩⟩
      have e1 : ([e] : List ETree).length = 1 := rfl
      rw [e1]
      simp only [hx, hld]
      exact end_E (A := []) (B := []) EV.zero (EV.self e) hS1 fun σ' hS' => hK σ' hS'.sub
  · have hj : joinedE op l = .mk op [] l 0 0 := by
      unfold joinedE
      match l, g1 with
      | [], _ => rfl
      | [e], g1 => exact absurd rfl g1
      | _ :: _ :: _, _ => rfl
    rw [hj] at hK
    have hb : ∀ K : AV → Prop, buildD PS 34 [(0, .pv (.str op)), (2, .pv (.lst l.length (flatE l)))] K = K (ereAV (.mk op [] l 0 0)) := by
      intro K
      rw [ereAV, ereCells_eq]
      simp [buildD, buildFill, go_sem, AV.cells, AV.cellOk, setAll, ETree.op, ETree.set, ETree.kids, ETree.lo, ETree.hi]
    rw [hb]
    exact end_E (A := []) (B := []) EV.zero (EV.self _) hS1 fun σ' hS' => hK σ' hS'.sub
end
end Go.AD.Lx
