/- lex: the laws without the document's lexer. -/
import Derived.Test.YtjgjmpophpifgaaLx4
import Derived.Test.YtjgjmpophpifgaaLq
import Derived.Test.YtjgjmpophpifgaaLf
import Derived.Test.YtjgjmpophpifgaaG3
import Derived.Test.YtjgjmpophpifgaaG4
set_option linter.unusedVariables false
set_option linter.unusedSimpArgs false
set_option maxRecDepth 100000
namespace Go.AD.Lx
open Go.Proofs
section
variable {env : Env} {args : List AV} {σ0 σ : AS} {K : AV → AS → Prop} {X : PV → AS → Prop}
theorem neTok {a b : Bytes} {K : AV → Prop} : binD PS .neq 30 (.agg [.pv (.str a), .pv (.str b)]) (.agg [.pv (.str a), .pv (.str b)]) K = K (.pv (.bool false)) := by
  have h1 : PS.stoodInHeld 30 = false := by kernel_rfl
  have h2 : PS.eqGuardType PS.depth 30 = false := by kernel_rfl
  simp [binD, eqD, h1, h2, Try.underlying30, sameFields, sameAt, Try.underlying9]
theorem tok_ix {l : List Tok} {i : Nat} (h : i < l.length) {K : AV → Prop} : indexAddrD PS 23 (.pv (.lst l.length (flatT l))) (.pv (.int .i64 i)) K = K (.elemP (flatT l) (i * 2)) := T.ixl23 h (flatT_len l)
theorem tok_ld {l : List Tok} {i : Nat} (h : i < l.length) {K : AV → Prop} : loadD PS σ 30 (.elemP (flatT l) (i * 2)) K = K (.agg ((tokPV l[i]).map .pv)) := by
  rw [load_elemA T.hT30 T.ag30, T.sz30, flatT_get l _ h]
  exact propext ⟨fun h => h.2, fun h' => ⟨by rw [flatT_len]; omega, h'⟩⟩
def T_rSame : Tr := fun args σ K _ => ∃ l : List Tok, args = [.pv (.lst l.length (flatT l)), .pv (.lst l.length (flatT l))] ∧ l.length ≤ 1000000000 ∧ K (.pv (.bool true)) σ
theorem T_rSame_ok (h : T_rSame args σ K X) : bodyD PS env an13 Try.f13 args σ K X := by
  obtain ⟨l, rfl, hl, hK⟩ := h
  rw [← S13_eq env, S13]
  simp only [lock_eq, T.lnl23, bin_neq, cond_bool, bne_self_eq_false, Bool.false_eq_true, if_false]
  refine lp13_4 (fun (i : Nat) _ => l.length - i) (fun i τ => τ = σ ∧ i ≤ l.length) (fun i => .pv (.int .i64 i)) 0 ⟨rfl, by omega⟩ ?_
  rintro i τ ⟨rfl, hi⟩
  unfold L13_4
  simp only [lock_eq, T.lnl23, bin_lss, cond_bool, decide_eq_true_eq, nLt]
  refine iteI (fun hlt => ?_) (fun hge => retV_self hK)
  simp only [tok_ix hlt, tok_ld hlt, tokPV, List.map_cons, List.map_nil, neTok]
  simp (disch := omega) only [go_sem, Bool.false_eq_true, if_false]
  have := back (M := l.length - i) (σ := τ) (enc := fun i => [AV.pv (.lst l.length (flatT l)), .pv (.lst l.length (flatT l)), .pv (.int .i64 ((i : Nat) : Int))]) (μ := fun (i : Nat) _ => l.length - i) (I := fun i τ' => τ' = τ ∧ i ≤ l.length) (i + 1) rfl (by omega) ⟨rfl, hlt⟩
  try exact ⟨this, this⟩
  try exact this
/-! ### a quoted text -/
theorem u8enc (c : UInt8) : (48 + c / 64).toNat = 48 + c.toNat / 64 ∧ (48 + c / 8 % 8).toNat = 48 + c.toNat / 8 % 8 ∧ (48 + c % 8).toNat = 48 + c.toNat % 8 :=
  allU8 (p := fun c => (48 + c / 64).toNat = 48 + c.toNat / 64 ∧ (48 + c / 8 % 8).toNat = 48 + c.toNat / 8 % 8 ∧ (48 + c % 8).toNat = 48 + c.toNat % 8) (by decide +kernel) c
def T_quote5 : Tr := fun args σ K _ => ∃ s : Bytes, args = [.pv (.str s)] ∧ s.length ≤ 10000 ∧ ∀ σ', σ.sub σ' → K (.pv (.str (quoteS s))) σ'
theorem encS_app (a b : Bytes) : encS (a ++ b) = encS a ++ encS b := by
  induction a with
  | nil => rfl
  | cons c a ih => simp [encS, ih]
theorem T_quote5_ok (h : T_quote5 args σ K X) : bodyD PS env an14 Try.f14 args σ K X := by
  obtain ⟨s, rfl, hs, hK⟩ := h
  rw [← S14_eq env, S14]
  have b1 : ∀ (τ : AS) K, buildSliceD PS false τ 50 1 1 [(0, .pv (.int .u8 34))] K = K (.full 1 (pvBytes [34])) τ := by
    intro τ K; simp [buildSliceD, go_sem, elemsFill, AV.cells, AV.cellOk, toPVs, toPV, pvBytes]
  have b4 : ∀ (τ : AS) (c : UInt8) K, buildSliceD PS false τ 50 4 4 [(0, .pv (.int .u8 92)), (1, .pv (.int .u8 ((48 + c.toNat / 64 : Nat) : Int))), (2, .pv (.int .u8 ((48 + c.toNat / 8 % 8 : Nat) : Int))), (3, .pv (.int .u8 ((48 + c.toNat % 8 : Nat) : Int)))] K = K (.full 4 (pvBytes (encB c))) τ := by
    intro τ c K
    obtain ⟨h1, h2, h3⟩ := u8enc c
    have e : pvBytes (encB c) = [.int .u8 92, .int .u8 ((48 + c.toNat / 64 : Nat) : Int), .int .u8 ((48 + c.toNat / 8 % 8 : Nat) : Int), .int .u8 ((48 + c.toNat % 8 : Nat) : Int)] := by
      simp only [pvBytes, encB, List.map_cons, List.map_nil, h1, h2, h3]
      rfl
    rw [e]
    simp [buildSliceD, go_sem, elemsFill, AV.cells, AV.cellOk, toPVs, toPV]
  simp only [lock_eq, b1]
  refine lp14_3 (fun (a : Nat × AV) _ => s.length - a.1) (fun a τ => a.1 ≤ s.length ∧ ∃ L, RowF a.2 L (34 :: encS (s.take a.1)) ∧ Sep σ τ ([] ++ L)) (fun a => a.2) (fun a => .pv (.int .i64 a.1)) (0, .full 1 (pvBytes [34])) ⟨Nat.zero_le _, [], .inr ⟨rfl, rfl⟩, Sep.start σ⟩ ?_
  rintro ⟨i, v⟩ τ ⟨hi, L, hR, hS⟩
  simp only at hi hR
  have htl : (encS (s.take i)).length = 4 * i := by rw [encS_len, List.length_take]; omega
  unfold L14_3
  simp (disch := omega) only [go_sem]
  refine iteI (fun hlt => ?_) (fun hge => ?_)
  · have hc := u8lt (s.getD i 0)
    simp (disch := omega) only [T.is9]
    simp (disch := omega) only [go_sem]
    refine ⟨by decide, by decide, by decide, by decide, ?_⟩
    rw [b4]
    refine hR.append hS (r := encB (s.getD i 0)) (fun σ => rfl) (by simp [encB]) (by simp only [List.length_cons, htl, encB, List.length_nil]; omega) ?_
    intro v' L' σ' h1 h2
    refine back (i + 1, v') rfl (by simp only; omega) ⟨by simp only; omega, L', ?_, h2⟩
    have e : 34 :: encS (s.take (i + 1)) = (34 :: encS (s.take i)) ++ encB (s.getD i 0) := by
      rw [take_snocD (d := 0) hlt, encS_app]; simp [encS]
    simp only
    rw [e]; exact h1
  · have : i = s.length := by omega
    subst this
    rw [List.take_length] at hR htl
    rw [b1]
    refine hR.append hS (r := [34]) (fun σ => rfl) (by simp) (by simp only [List.length_cons, htl, List.length_nil]; omega) ?_
    intro v' L' σ' h1 h2
    rw [conv_bytes (l := 34 :: encS s ++ [34]) (isSlice T.el50) Try.underlying9 Try.underlying5 T.sz5 h1.toPV]
    exact retV_self (hK σ' h2.sub)
/-! ### the laws -/
theorem lex_call (h : env 11 = T_Lex) {s : Bytes} (hK : ∀ σ', σ.sub σ' → K (lexV (lexS s)) σ') : env 11 [.pv (.str s)] σ K X := by
  rw [h]; exact ⟨s, rfl, hK⟩
def T_true0 : Tr := fun args σ K _ => args = [] ∧ ∀ σ', σ.sub σ' → K (.pv (.bool true)) σ'
theorem awake_lex : lexS [97, 47, 98, 32, 126, 47, 99, 47] = some [(kName, [97]), (kOp, [47]), (kName, [98]), (kOp, [126]), (kEre, [99])] := by decide +kernel
theorem T_awake5_ok (h1 : env 11 = T_Lex) (h : T_true0 args σ K X) : bodyD PS env an10 Try.f10 args σ K X := by
  obtain ⟨rfl, hK⟩ := h
  rw [← S10_eq env, S10]
  refine lex_call h1 ?_
  intro σ1 hs1
  rw [awake_lex]
  have x1 : ∀ K : AV → Prop, indexAddrD PS 23 (.pv (.lst 5 (flatT [(kName, [97]), (kOp, [47]), (kName, [98]), (kOp, [126]), (kEre, [99])]))) (.pv (.int .i64 1)) K = K (.elemP (flatT [(kName, [97]), (kOp, [47]), (kName, [98]), (kOp, [126]), (kEre, [99])]) (1 * 2)) := fun K => T.ixl23 (i := 1) (by decide) rfl
  have x4 : ∀ K : AV → Prop, indexAddrD PS 23 (.pv (.lst 5 (flatT [(kName, [97]), (kOp, [47]), (kName, [98]), (kOp, [126]), (kEre, [99])]))) (.pv (.int .i64 4)) K = K (.elemP (flatT [(kName, [97]), (kOp, [47]), (kName, [98]), (kOp, [126]), (kEre, [99])]) (4 * 2)) := fun K => T.ixl23 (i := 4) (by decide) rfl
  have c2 : (flatT [(kName, [97]), (kOp, [47]), (kName, [98]), (kOp, [126]), (kEre, [99])])[1 * 2 + 0]? = some (.str kOp) := rfl
  have c8 : (flatT [(kName, [97]), (kOp, [47]), (kName, [98]), (kOp, [126]), (kEre, [99])])[4 * 2 + 0]? = some (.str kEre) := rfl
  have c9 : (flatT [(kName, [97]), (kOp, [47]), (kName, [98]), (kOp, [126]), (kEre, [99])])[4 * 2 + 1]? = some (.str [99]) := rfl
  simp only [lexV, lock_eq, ext_tuple, List.getElem?_cons_zero, List.getElem?_cons_succ, someEx, guard_true, if_true, T.lnl23, List.length_cons, List.length_nil, Nat.reduceAdd, bin_eql, x1, x4, T.fe30_0, T.fe30_1, T.le9, c2, c8, c9, bin_seql]
  repeat (rw [if_pos (by decide)])
  exact retV_self (hK _ hs1)
def T_law1 : Tr := fun args σ K _ => ∃ s : Bytes, args = [.pv (.str s)] ∧ ∀ σ', K (.pv (.bool true)) σ'
def T_law2 : Tr := fun args σ K _ => ∃ s t : Bytes, args = [.pv (.str s), .pv (.str t)] ∧ ∀ σ', K (.pv (.bool true)) σ'
theorem T_LexQuotes_ok (h1 : env 11 = T_Lex) (h2 : env 10 = T_true0) (h3 : env 14 = T_quote5) (h : T_law1 args σ K X) : bodyD PS env an4 Try.f4 args σ K X := by
  obtain ⟨s, rfl, hK⟩ := h
  rw [← S4_eq env, S4, h2]
  refine ⟨rfl, fun σ1 _ => ?_⟩
  simp only [go_sem, Bool.not_true, Bool.false_eq_true, if_false]
  refine iteI (fun _ => retV_self (hK _)) (fun hl => ?_)
  rw [h3]
  refine ⟨s, rfl, by omega, fun σ2 _ => ?_⟩
  refine lex_call h1 fun σ3 _ => ?_
  rw [lex_quote (by omega)]
  have x0 : ∀ K : AV → Prop, indexAddrD PS 23 (.pv (.lst 1 (flatT [(kStr, s)]))) (.pv (.int .i64 0)) K = K (.elemP (flatT [(kStr, s)]) (0 * 2)) := fun K => T.ixl23 (i := 0) (by decide) rfl
  have c0 : (flatT [(kStr, s)])[0 * 2 + 0]? = some (.str kStr) := rfl
  have c1 : (flatT [(kStr, s)])[0 * 2 + 1]? = some (.str s) := rfl
  simp only [lexV, lock_eq, ext_tuple, List.getElem?_cons_zero, List.getElem?_cons_succ, someEx, guard_true, if_true, T.lnl23, List.length_cons, List.length_nil, Nat.reduceAdd, bin_eql, x0, T.fe30_0, T.fe30_1, T.le9, c0, c1, bin_seql, beq_self_eq_true]
  rw [if_pos (by decide), if_pos (by decide)]
  exact retV_self (hK _)
end
end Go.AD.Lx
