/- input: operands. -/
import Derived.Test.YtjgjmpophpifgaaDoorLi4
import Derived.Test.YtjgjmpophpifgaaDoorLw4
set_option linter.unusedVariables false
set_option linter.unusedSimpArgs false
set_option maxRecDepth 100000
namespace Go.AD.Lx
open Go.Proofs
/-! ### plain -/
def eqB (c : UInt8) : Bool := !(c.toNat == 61)
abbrev kS (s : Bytes) : Nat := spanL eqB s
theorem ib_span (s : Bytes) : Lib.indexByte s 61 = if kS s < s.length then ((kS s : Nat) : Int) else -1 := by
  induction s with
  | nil => rfl
  | cons c t ih =>
    have e : (c == (61 : UInt8)) = !eqB c := by
      unfold eqB
      rw [Bool.not_not, Bool.eq_iff_iff, beq_iff_eq, beq_iff_eq]
      exact ⟨fun e => by rw [e]; rfl, fun e => UInt8.toNat_inj.1 e⟩
    rw [Lib.indexByte, e, ih]
    unfold kS
    rw [spanL]
    cases h : eqB c with
    | false => simp
    | true =>
      simp only [Bool.not_true, Bool.false_eq_true, if_false, if_true, List.length_cons]
      by_cases h2 : spanL eqB t < t.length
      · have h3 : ¬ ((spanL eqB t : Int) == -1) = true := by
          intro h; have := eq_of_beq h; omega
        rw [if_pos h2, if_neg h3, if_pos (by omega)]
        omega
      · rw [if_neg h2, if_pos (by decide), if_neg (by omega)]
theorem cut_eq (s : Bytes) : Lib.cut s [61] = if kS s < s.length then (s.take (kS s), s.drop (kS s + 1), true) else (s, [], false) := by
  unfold Lib.cut
  rw [Lib.index_one, ib_span]
  by_cases h : kS s < s.length
  · rw [if_pos h, if_pos h, if_pos (by omega)]
    simp
  · rw [if_neg h, if_neg h, if_neg (by omega)]
def okN : Bool → Bytes → Bool
  | _, [] => true
  | f, c :: t => (letterB c || (!f && digitB c)) && okN false t
def namedS (s : Bytes) : Bool := decide (s ≠ []) && okN true s
def encQ : Nat → Bytes → Bytes
  | 0, _ => []
  | f + 1, s => if s = [] then [] else if (s.getD 0 0).toNat = 92 ∧ 1 < s.length ∧ (s.getD 1 0).toNat ≠ 10 then [s.getD 0 0, s.getD 1 0] ++ encQ f (s.drop 2)
    else (if (s.getD 0 0).toNat = 92 then [92, 49, 51, 52] else if (s.getD 0 0).toNat = 34 then [92, 48, 52, 50] else if (s.getD 0 0).toNat = 10 then [92, 48, 49, 50] else [s.getD 0 0]) ++ encQ f (s.drop 1)
def quoS (t : Bytes) : Bytes := [34] ++ encQ (t.length + 1) t ++ [34]
theorem encQ_at {s : Bytes} {i n : Nat} (h : i < s.length) : encQ (n + 1) (s.drop i) = if (s.getD i 0).toNat = 92 ∧ i + 1 < s.length ∧ (s.getD (i + 1) 0).toNat ≠ 10 then [s.getD i 0, s.getD (i + 1) 0] ++ encQ n (s.drop (i + 2))
    else (if (s.getD i 0).toNat = 92 then [92, 49, 51, 52] else if (s.getD i 0).toNat = 34 then [92, 48, 52, 50] else if (s.getD i 0).toNat = 10 then [92, 48, 49, 50] else [s.getD i 0]) ++ encQ n (s.drop (i + 1)) := by
  rw [encQ, if_neg (drop_ne h), getD_drop0, getD_drop, List.drop_drop, drop_drop1, List.length_drop]
  have e : (1 < s.length - i) = (i + 1 < s.length) := propext ⟨by omega, by omega⟩
  simp only [e]
theorem encQ_end {s : Bytes} {i n : Nat} (h : ¬ i < s.length) : encQ n (s.drop i) = [] := by
  rw [List.drop_eq_nil_of_le (by omega)]
  cases n <;> simp [encQ]
def asgS (s : Bytes) : Option (Bytes × Bytes) := if kS s < s.length ∧ namedS (s.take (kS s)) = true then (match lexS (quoS (s.drop (kS s + 1))) with | some [t] => some (s.take (kS s), t.2) | _ => none) else none
def asgV : Option (Bytes × Bytes) → AV
  | none => .tuple [.pv (.str []), .pv (.str []), .pv (.bool false)]
  | some (a, b) => .tuple [.pv (.str a), .pv (.str b), .pv (.bool true)]
section
variable {env : Env} {args : List AV} {σ0 σ τ : AS} {K : AV → AS → Prop} {X : PV → AS → Prop}
/-! ### strings.Builder.WriteString -/
theorem appStr {s : AV} {x : Bytes} {K : AV → AS → Prop} (h : appendD PS false σ 30 s (.full x.length (pvBytes x)) K) : appendStrD PS false σ 30 9 s (.pv (.str x)) K := by
  simp [appendD, shown, T.el30, T.sz5, T.zo5] at h
  simp [appendStrD, T.el30, T.sz5, T.zo5, Tryd.underlying9]
  exact h.2
def T_WriteString : Tr := fun args σ K _ => ∃ (b : Nat) (x : Bytes) (σ0 : AS) (l : List UInt8) (B X : Objs), args = [.addr b 0, .pv (.str x)] ∧ x ≠ [] ∧ BAt b l B ∧ Sep σ0 σ (B ++ X) ∧ l.length ≤ 1000000 ∧ x.length ≤ 100000 ∧ ∀ σ' B', BAt b (l ++ x) B' → Sep σ0 σ' (B' ++ X) → K (.tuple [.pv (.int .i64 x.length), .pv .nilIface]) σ'
theorem T_WriteString_ok (hc : env 96 = T_copyCheck) (h : T_WriteString args σ K X) : bodyD PS env an46 Tryd.f46 args σ K X := by
  obtain ⟨b, x, σ0, l, B, Y, rfl, hx, ⟨p, buf, hp, hB⟩, hS, hl, hxl, hK⟩ := h
  have hxp : 0 < x.length := List.length_pos_iff.2 hx
  rw [← S46_eq env, S46, hc]
  have hT : RowT PS 30 5 := ⟨T.el30, by rw [T.sz5]; decide, _, T.zo5, by rw [T.sz5]; rfl⟩
  rcases hB with ⟨rfl, rfl, rfl⟩ | ⟨g, rfl, hne, rfl⟩
  · refine ⟨b, p, .nilS, rfl, hS.get (by simp), hp, ?_⟩
    have h1 : Sep σ0 (σ.set b (.cells [.addr b 0, .nilS] (some 75))) _ := Sep.set1 hS _
    have hb := h1.get (i := b) (o := .cells [.addr b 0, .nilS] (some 75)) (by simp)
    simp (disch := omega) only [go_sem, hb, ldM_cells, List.getElem?_cons_succ, List.getElem?_cons_zero]
    refine appStr ?_
    refine app_nil hT rfl (by rw [T.sz5, pvBytes_len]; omega) (by omega) (by rw [T.by5]; omega) (by omega) ?_
    intro g hg
    have h2 := h1.alloc hg (.front x.length (szOf PS 5) (some 5))
    have h3 : Sep σ0 _ ((b, AObj.cells [.addr b 0, .nilS] (some 75)) :: ((g, .front x.length (szOf PS 5) (some 5)) :: Y)) := h2.perm (List.Perm.swap _ _ _)
    have hb2 := h3.get (i := b) (o := .cells [.addr b 0, .nilS] (some 75)) (by simp)
    rw [T.stv30 rfl rfl, hb2]
    refine ⟨by simp, ?_⟩
    refine retV_self (hK _ [(b, .cells [.addr b 0, .grow g x.length (pvBytes x)] (some 75)), (g, .front x.length 1 (some 5))] ⟨_, _, .inr rfl, .inr ⟨g, rfl, by simpa using hx, rfl⟩⟩ ?_)
    rw [T.sz5] at h3 ⊢
    exact Sep.set1 h3 _
  · refine ⟨b, p, .grow g l.length (pvBytes l), rfl, hS.get (by simp), hp, ?_⟩
    have h1 : Sep σ0 (σ.set b (.cells [.addr b 0, .grow g l.length (pvBytes l)] (some 75))) _ := Sep.set1 hS _
    have hb := h1.get (i := b) (o := .cells [.addr b 0, .grow g l.length (pvBytes l)] (some 75)) (by simp)
    have hg := h1.get (i := g) (o := .front l.length 1 (some 5)) (by simp)
    simp (disch := omega) only [go_sem, hb, ldM_cells, List.getElem?_cons_succ, List.getElem?_cons_zero]
    refine appStr ?_
    refine app_grow hT rfl (by rw [T.sz5, pvBytes_len]; omega) (by rw [T.sz5]; exact hg) (by omega) (by rw [T.sz5, pvBytes_len]; omega) (by rw [T.by5]; omega) (by omega) ?_
    have h2 := Sep.set (l1 := [_]) h1 (.front (l.length + x.length) (szOf PS 5) (if some 5 = some 5 then some 5 else none))
    have hb2 := h2.get (i := b) (o := .cells [.addr b 0, .grow g l.length (pvBytes l)] (some 75)) (by simp)
    rw [T.stv30 rfl rfl, hb2]
    refine ⟨by simp, ?_⟩
    refine retV_self (hK _ [(b, .cells [.addr b 0, .grow g (l.length + x.length) (pvBytes l ++ pvBytes x)] (some 75)), (g, .front (l.length + x.length) 1 (some 5))] ⟨.addr b 0, .grow g (l.length + x.length) (pvBytes l ++ pvBytes x), .inr rfl, .inr ⟨g, ?_, by simp [hne], ?_⟩⟩ ?_)
    · rw [pvBytes_app, List.length_append]
    · rw [List.length_append]
    · rw [T.sz5] at h2 ⊢
      rw [if_pos rfl] at h2 ⊢
      exact Sep.set1 h2 _
theorem ws_call (h : env 46 = T_WriteString) {b : Nat} {x : Bytes} {l : List UInt8} {B Y : Objs} (hx : x ≠ []) (hB : BAt b l B) (hS : Sep σ0 σ (B ++ Y)) (hl : l.length ≤ 1000000) (hxl : x.length ≤ 100000) (hK : ∀ σ' B', BAt b (l ++ x) B' → Sep σ0 σ' (B' ++ Y) → K (.tuple [.pv (.int .i64 x.length), .pv .nilIface]) σ') : env 46 [.addr b 0, .pv (.str x)] σ K X := by
  rw [h]; exact ⟨b, x, σ0, l, B, Y, rfl, hx, hB, hS, hl, hxl, hK⟩
def T_quoted15 : Tr := fun args σ K _ => ∃ t : Bytes, args = [.pv (.str t)] ∧ t.length ≤ 10000 ∧ ∀ σ', σ.sub σ' → K (.pv (.str (quoS t))) σ'
theorem T_quoted15_ok (h1 : env 46 = T_WriteString) (h2 : env 47 = T_WriteByte) (h3 : env 48 = T_Str) (h : T_quoted15 args σ K X) : bodyD PS env an28 Tryd.f28 args σ K X := by
  obtain ⟨s, rfl, hlen, hK⟩ := h
  rw [← S28_eq env, S28]
  simp only [lock_eq]
  refine alloc_of T.zo75 rfl ?_
  intro b hb
  have hS0 := (Sep.start σ).alloc hb (.cells [.pv .nilPtr, .nilS] (some 75))
  unfold quoS at hK
  generalize hQ : encQ (s.length + 1) s = Q at hK
  refine lp28_3 (fun (a : Nat × Bytes) _ => s.length - a.1) (fun a τ => a.1 ≤ s.length ∧ a.2.length ≤ a.1 * 4 ∧ (∃ B, BAt b a.2 B ∧ Sep σ τ (B ++ [])) ∧ ∃ n, s.length - a.1 < n ∧ Q = a.2 ++ encQ n (s.drop a.1)) (fun a => .pv (.int .i64 ((a.1 : Nat) : Int))) (0, []) ⟨Nat.zero_le _, Nat.le_refl _, ⟨_, BAt.new b, by simpa using hS0⟩, s.length + 1, by simp only; omega, hQ.symm⟩ ?_
  rintro ⟨i, l⟩ τ ⟨hi, hl, ⟨B, hB, hS⟩, n, hn, hq⟩
  simp only at hi hl hB hn hq
  obtain ⟨n, rfl⟩ : ∃ m, n = m + 1 := ⟨n - 1, by omega⟩
  unfold L28_3
  simp (disch := omega) only [lock_eq, go_sem]
  refine iteI (fun g1 => ?_) (fun g1 => ?_)
  · rw [encQ_at g1] at hq
    have j7 : ∀ bb : Bool, (bb = true ↔ ((s.getD i 0).toNat = 92 ∧ i + 1 < s.length ∧ (s.getD (i + 1) 0).toNat ≠ 10)) → J28_7 env (Inv (fun a : Nat × Bytes => [AV.pv (.str s), .addr b 0, .pv (.int .i64 ((a.1 : Nat) : Int))]) (fun a _ => s.length - a.1) (fun a τ => a.1 ≤ s.length ∧ a.2.length ≤ a.1 * 4 ∧ (∃ B, BAt b a.2 B ∧ Sep σ τ (B ++ [])) ∧ ∃ n, s.length - a.1 < n ∧ Q = a.2 ++ encQ n (s.drop a.1))) (s.length - i) (.pv (.str s)) (.addr b 0) (.pv (.int .i64 (i : Nat))) (.pv (.bool bb)) τ K X := by
      intro bb hbb
      unfold J28_7
      simp (disch := omega) only [lock_eq, go_sem]
      refine iteI (fun g2 => ?_) (fun g2 => ?_)
      · have g3 := hbb.1 g2
        rw [if_pos g3] at hq
        have e2 : (s.take (i + 2)).drop i = [s.getD i 0, s.getD (i + 1) 0] := by
          rw [take_dropN, drop_consD (d := 0) g1, drop_consD (d := 0) g3.2.1]
          rfl
        have hsb : ∀ K : AV → Prop, sliceD PS 9 (.pv (.str s)) (some (.pv (.int .i64 (i : Nat)))) (some (.pv (.int .i64 ((i + 2 : Nat) : Int)))) K = K (.pv (.str ((s.take (i + 2)).drop i))) := fun K => T.sb9 (by omega) (by omega)
        rw [hsb, e2]
        refine ws_call h1 (by simp) hB hS (by omega) (by simp) ?_
        intro σ' B' hB' hS'
        have e3 : i + 1 + 1 = i + 2 := by omega
        rw [e3]
        refine back (i + 2, l ++ [s.getD i 0, s.getD (i + 1) 0]) rfl (by simp only; omega) ⟨by simp only; omega, by simp only [List.length_append, List.length_cons, List.length_nil]; omega, ⟨B', hB', hS'⟩, n, by simp only; omega, ?_⟩
        simp only
        rw [hq, List.append_assoc]
      · rw [if_neg (fun h => g2 (hbb.2 h))] at hq
        have go : ∀ (x : Bytes) (σ' : AS) (B' : Objs), x.length ≤ 4 → Q = l ++ (x ++ encQ n (s.drop (i + 1))) → BAt b (l ++ x) B' → Sep σ σ' (B' ++ []) → ∃ m', m' < s.length - i ∧ Inv (fun a : Nat × Bytes => [AV.pv (.str s), .addr b 0, .pv (.int .i64 ((a.1 : Nat) : Int))]) (fun a _ => s.length - a.1) (fun a τ => a.1 ≤ s.length ∧ a.2.length ≤ a.1 * 4 ∧ (∃ B, BAt b a.2 B ∧ Sep σ τ (B ++ [])) ∧ ∃ n, s.length - a.1 < n ∧ Q = a.2 ++ encQ n (s.drop a.1)) m' [.pv (.str s), .addr b 0, .pv (.int .i64 ((i + 1 : Nat) : Int))] σ' := by
          intro x σ' B' hx hq' hB' hS'
          refine back (i + 1, l ++ x) rfl (by simp only; omega) ⟨g1, by simp only [List.length_append]; omega, ⟨B', hB', hS'⟩, n, by simp only; omega, ?_⟩
          simp only
          rw [hq', List.append_assoc]
        simp (disch := omega) only [T.is9, go_sem, beq_iff_eq]
        refine iteI (fun g3 => ?_) (fun g3 => ?_)
        · rw [if_pos g3] at hq
          exact ws_call h1 (by simp) hB hS (by omega) (by simp) fun σ' B' hB' hS' => go _ σ' B' (by simp) hq hB' hS'
        rw [if_neg g3] at hq
        refine iteI (fun g4 => ?_) (fun g4 => ?_)
        · rw [if_pos g4] at hq
          exact ws_call h1 (by simp) hB hS (by omega) (by simp) fun σ' B' hB' hS' => go _ σ' B' (by simp) hq hB' hS'
        rw [if_neg g4] at hq
        refine iteI (fun g5 => ?_) (fun g5 => ?_)
        · rw [if_pos g5] at hq
          exact ws_call h1 (by simp) hB hS (by omega) (by simp) fun σ' B' hB' hS' => go _ σ' B' (by simp) hq hB' hS'
        rw [if_neg g5] at hq
        rw [h2]
        exact ⟨b, s.getD i 0, σ, l, B, [], rfl, hB, hS, by omega, fun σ' B' hB' hS' => go _ σ' B' (by simp) hq hB' hS'⟩
    simp (disch := omega) only [T.is9, go_sem, beq_iff_eq]
    refine iteI (fun g2 => ?_) (fun g2 => j7 _ (fIff (fun h => g2 h.1)))
    refine iteI (fun g3 => ?_) (fun g3 => j7 _ (fIff (fun h => g3 h.2.1)))
    refine j7 _ ?_
    rw [bne, Bool.not_eq_true', beq_eq_false_iff_ne]
    exact ⟨fun h => ⟨g2, g3, by omega⟩, fun h => by have := h.2.2; omega⟩
  · rw [encQ_end g1, List.append_nil] at hq
    rw [h3]
    refine ⟨b, σ, l, B, [], rfl, hB, hS, ?_⟩
    intro σ' hS'
    have hK' := hK σ' hS'.sub
    rw [hq] at hK'
    refine ⟨by simp; omega, by simp; omega, retV_self hK'⟩
def T_named : Tr := fun args σ K _ => ∃ s : Bytes, args = [.pv (.str s)] ∧ s.length ≤ 10000 ∧ ∀ σ', σ.sub σ' → K (.pv (.bool (namedS s))) σ'
theorem okN_drop {f : Bool} {s : Bytes} {i : Nat} (h : i < s.length) : okN f (s.drop i) = ((letterB (s.getD i 0) || (!f && digitB (s.getD i 0))) && okN false (s.drop (i + 1))) := by
  rw [drop_consD (d := 0) h, okN]
theorem T_named_ok (h : T_named args σ K X) : bodyD PS env an26 Tryd.f26 args σ K X := by
  obtain ⟨s, rfl, hlen, hK⟩ := h
  rw [← S26_eq env, S26]
  have hpv : toPVs ((pvBytes s).map AV.pv) = some (pvBytes s) := toPVs_pv _
  simp only [lock_eq, bytesD, T.el30, newRowD, Bool.false_eq_true, if_false, hpv]
  refine ⟨Tryd.underlying9, Tryd.underlying5, T.sz5, by omega, ?_⟩
  intro id hid
  have hsub := sub_set (.front s.length 1 (some 5)) hid
  simp only [T.lng30]
  generalize (σ.set id (.front s.length 1 (some 5))) = σ1 at hsub
  have hK := hK σ1 hsub
  refine lp26_2 (fun (i : Nat) _ => s.length - i) (fun i τ => τ = σ1 ∧ i ≤ s.length ∧ okN true s = okN (decide (i = 0)) (s.drop i)) (fun i => .pv (.int .i64 ((i : Nat) : Int))) 0 ⟨rfl, Nat.zero_le _, by simp⟩ ?_
  rintro i τ ⟨rfl, hi, hok⟩
  unfold L26_2
  simp (disch := omega) only [lock_eq, go_sem]
  refine iteI (fun g1 => ?_) (fun g1 => ?_)
  · have hix : ∀ K : AV → Prop, indexAddrD PS 30 (.grow id s.length (pvBytes s)) (.pv (.int .i64 (i : Nat))) K = K (.elemP (pvBytes s) i) := by
      intro K
      have hu : PS.underlying 30 = some (.slice 5) := isSlice T.el30
      simp [indexAddrD, hu, T.iS5, T.sz5, pvBytes_len, g1]
    have hcc := pvBytes_get s i g1
    have hne : s ≠ [] := by intro e; rw [e] at g1; simp at g1
    have hn : namedS s = okN true s := by unfold namedS; rw [decide_eq_true hne, Bool.true_and]
    have hod := okN_drop (f := decide (i = 0)) g1
    rw [hod] at hok
    rw [hn, hok] at hK
    unfold letterB at hok hK
    simp only [hix, T.le5, hcc, someEx, bor32, go_sem]
    generalize hc : s.getD i 0 = c at hK hok
    have j5 : ∀ b : Bool, b = letterB c → J26_5 env (Inv (fun i : Nat => [AV.pv (.str s), .grow id s.length (pvBytes s), .pv (.int .i64 (s.length : Nat)), .pv (.int .i64 ((i : Nat) : Int))]) (fun i _ => s.length - i) (fun i τ' => τ' = τ ∧ i ≤ s.length ∧ okN true s = okN (decide (i = 0)) (s.drop i))) (s.length - i) (.pv (.str s)) (.pv (.int .i64 (i : Nat))) (.pv (.int .u8 c.toNat)) (.pv (.bool b)) (.grow id s.length (pvBytes s)) (.pv (.int .i64 (s.length : Nat))) (.pv (.int .i64 (i : Nat))) τ K X := by
      intro b hb
      have hlb : letterB c = b := hb.symm
      unfold letterB at hlb
      rw [hlb] at hK hok
      have next : (b || (!decide (i = 0) && digitB c)) = true → ∃ m', m' < s.length - i ∧ Inv (fun i : Nat => [AV.pv (.str s), .grow id s.length (pvBytes s), .pv (.int .i64 (s.length : Nat)), .pv (.int .i64 ((i : Nat) : Int))]) (fun i _ => s.length - i) (fun i τ' => τ' = τ ∧ i ≤ s.length ∧ okN true s = okN (decide (i = 0)) (s.drop i)) m' [.pv (.str s), .grow id s.length (pvBytes s), .pv (.int .i64 (s.length : Nat)), .pv (.int .i64 ((i + 1 : Nat) : Int))] τ := by
        intro h
        refine back (i + 1) rfl (by omega) ⟨rfl, g1, ?_⟩
        rw [hok, h, Bool.true_and]
        simp
      have bad : (b || (!decide (i = 0) && digitB c)) = false → retV (.pv (.bool false)) τ K := by
        intro h
        rw [h, Bool.false_and] at hK
        exact retV_self hK
      unfold J26_5
      unfold digitB at next bad
      simp (disch := omega) only [lock_eq, go_sem, Bool.not_eq_true']
      refine iteI (fun g2 => ?_) (fun g2 => ?_)
      · rw [g2] at next bad
        have e0 : i = 0 ∨ ¬ i = 0 := Classical.em _
        refine iteI (fun g3 => bad (by rw [decide_eq_true (p := i = 0) (by simpa using g3)]; rfl)) (fun g3 => ?_)
        refine iteI (fun g4 => bad (by rw [decide_eq_false (p := 48 ≤ c.toNat) (by omega)]; simp)) (fun g4 => ?_)
        refine iteI (fun g5 => bad (by rw [decide_eq_false (p := c.toNat ≤ 57) (by omega)]; simp)) (fun g5 => next (by rw [decide_eq_false (p := i = 0) (by simpa using g3), decide_eq_true (p := 48 ≤ c.toNat) (by omega), decide_eq_true (p := c.toNat ≤ 57) (by omega)]; rfl))
      · exact next (by simp [g2])
    refine iteI (fun g2 => j5 _ ?_) (fun g2 => ?_)
    · unfold letterB; rw [beq_iff_eq.2 (show c.toNat = 95 by simpa using g2)]; simp
    have g2' : (c.toNat == 95) = false := by simpa using g2
    refine iteI (fun g3 => j5 _ ?_) (fun g3 => j5 _ ?_)
    · unfold letterB; rw [g2', decide_eq_true g3]; simp
    · unfold letterB; rw [g2', decide_eq_false g3]; simp
  · have hie : i = s.length := by omega
    rw [List.drop_eq_nil_of_le (by omega), okN] at hok
    unfold namedS at hK
    rw [hok, Bool.and_true] at hK
    have e : (!s == []) = decide (s ≠ []) := by
      rw [Bool.eq_iff_iff]; simp
    rw [e]
    exact retV_self hK
end
end Go.AD.Lx
