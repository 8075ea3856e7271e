/- lex: the document's lexer. -/
import Derived.Test.YtjgjmpophpifgaaDoorLw2
import Derived.Test.YtjgjmpophpifgaaDoorLx4
set_option linter.unusedVariables false
set_option linter.unusedSimpArgs false
set_option maxRecDepth 100000
namespace Go.AD.Lx
open Go.Proofs
section
variable {env : Env} {args : List AV} {σ0 σ τ : AS} {K : AV → AS → Prop} {X : PV → AS → Prop} {s : Bytes} {Q : Option (List Tok)} {i j n : Nat} {ts : List Tok} {v : AV}
theorem Sep.grow {l : Objs} {τ' : AS} (h : Sep σ0 τ l) (hs : τ.sub τ') : Sep σ0 τ' l := ⟨fun i o e => hs _ _ (h.sub _ _ e), h.nodup, h.new, fun p hp => hs _ _ (h.here p hp)⟩
/-- Where the document's lexer stands. -/
structure RI (σ : AS) (s : Bytes) (Q : Option (List Tok)) (i : Nat) (ts : List Tok) (v : AV) (τ : AS) : Prop where
  le : i ≤ s.length
  row : ∃ L, RowV PS 52 v L ts.length (flatT ts) ∧ Sep σ τ L
  ops : ∀ t ∈ ts, t.1 = kOp → ∀ c ∈ t.2, c ≠ 32
  go : (ts.length ≤ 20000 ∧ ∃ n, s.length - i < n ∧ Q = lexL n (s.drop i) ts) ∨ (ts.length = 20001 ∧ Q = none)
abbrev RInv (σ : AS) (s : Bytes) (Q : Option (List Tok)) : Nat → List AV → AS → Prop := Inv (fun a : Nat × List Tok × AV => [AV.pv (.str s), a.2.2, .pv (.int .i64 ((a.1 : Nat) : Int))]) (fun a _ => s.length - a.1) (fun a τ => RI σ s Q a.1 a.2.1 a.2.2 τ)
/-- In a round. -/
structure RR (σ : AS) (s : Bytes) (Q : Option (List Tok)) (n i : Nat) (ts : List Tok) (v : AV) (τ : AS) : Prop where
  lt : i < s.length
  row : ∃ L, RowV PS 52 v L ts.length (flatT ts) ∧ Sep σ τ L
  ops : ∀ t ∈ ts, t.1 = kOp → ∀ c ∈ t.2, c ≠ 32
  few : ts.length ≤ 20000
  fuel : s.length - i ≤ n
theorem RR.grow {τ' : AS} (h : RR σ s Q n i ts v τ) (hs : τ.sub τ') : RR σ s Q n i ts v τ' := by
  obtain ⟨h1, ⟨L, h2, h3⟩, h4, h5, h6⟩ := h
  exact ⟨h1, ⟨L, h2, Sep.grow h3 hs⟩, h4, h5, h6⟩
def rgo (n : Nat) (R : Option (Bytes × List Tok)) : Option (List Tok) := match R with
  | none => none
  | some (s', ts') => if ts'.length ≤ 20000 then lexL n s' ts' else none
theorem rnext (h : RR σ s Q n i ts v τ) {R : Option (Bytes × List Tok)} (hq : Q = rgo n R) (hR : R = some (s.drop j, ts)) (hij : i < j) (hj : j ≤ s.length) : ∃ m', m' < s.length - i ∧ RInv σ s Q m' [.pv (.str s), v, .pv (.int .i64 ((j : Nat) : Int))] τ := by
  obtain ⟨h1, h2, h3, h4, h5⟩ := h
  refine back (j, ts, v) rfl (by simp only; omega) ⟨hj, h2, h3, .inl ⟨h4, n, by omega, ?_⟩⟩
  rw [hq, hR, rgo]
  simp only
  rw [if_pos h4]
theorem rpush (h : RR σ s Q n i ts v τ) {R : Option (Bytes × List Tok)} {k w : Bytes} (hq : Q = rgo n R) (hR : R = some (s.drop j, ts ++ [(k, w)])) (hw : k = kOp → ∀ c ∈ w, c ≠ 32) (hij : i < j) (hj : j ≤ s.length) : buildSliceD PS false τ 47 1 1 [(0, .agg [.pv (.str k), .pv (.str w)])] fun t τ' => appendD PS false τ' 47 v t fun v' τ'' => ∃ m', m' < s.length - i ∧ RInv σ s Q m' [.pv (.str s), v', .pv (.int .i64 ((j : Nat) : Int))] τ'' := by
  obtain ⟨h1, ⟨L, h2, h2'⟩, h3, h4, h5⟩ := h
  have e : AV.agg [.pv (.str k), .pv (.str w)] = .agg ((tokPV (k, w)).map .pv) := rfl
  rw [e, build1 (ys := tokPV (k, w)) rowTT T.hT52 (by rw [T.sz52]; rfl) rfl rfl (by rw [T.sz52]; decide)]
  refine h2.append (l := []) h2' rowTT rfl (by rw [T.sz52]; rfl) (by omega) (by rw [T.by52]; omega) (by omega) ?_
  intro v' L' σ' hR' hS'
  refine back (j, ts ++ [(k, w)], v') rfl (by simp only; omega) ⟨hj, ⟨L', ?_, hS'⟩, ?_, ?_⟩
  · rw [flatT_app, List.length_append]
    have : flatT [(k, w)] = tokPV (k, w) := by simp [flatT]
    rw [this]
    exact hR'
  · intro t ht
    rcases List.mem_append.1 ht with ht | ht
    · exact h3 t ht
    · have : t = (k, w) := by simpa using ht
      subst this
      exact hw
  · have hl : (ts ++ [(k, w)]).length = ts.length + 1 := by simp
    by_cases h6 : ts.length + 1 ≤ 20000
    · refine .inl ⟨by show (ts ++ [(k, w)]).length ≤ 20000; omega, n, by simp only; omega, ?_⟩
      rw [hq, hR, rgo]
      simp only
      rw [if_pos (by omega)]
    · refine .inr ⟨by show (ts ++ [(k, w)]).length = 20001; omega, ?_⟩
      rw [hq, hR, rgo]
      try simp only
      rw [if_neg (by omega)]
theorem rbad (h : RR σ s Q n i ts v τ) {R : Option (Bytes × List Tok)} (hq : Q = rgo n R) (hR : R = none) (hK : ∀ σ', σ.sub σ' → K (lexV Q) σ') : retV (.tuple [.nilS, .pv (.bool false)]) τ K := by
  obtain ⟨h1, ⟨L, h2, h2'⟩, h3, h4, h5⟩ := h
  have := hK τ h2'.sub
  rw [hq, hR, rgo] at this
  exact ⟨lexV none, τ, .inr ⟨.inr ⟨_, rfl, rfl⟩, .inl rfl, trivial⟩, sub_refl _, this⟩

/-! ### one round, from its end -/
theorem drop_dropN {i n : Nat} : (s.drop i).drop n = s.drop (i + n) := by rw [List.drop_drop]
theorem take_dropN {i n : Nat} : (s.take (i + n)).drop i = (s.drop i).take n := by rw [List.drop_take]; congr 1; omega
/-- The name. -/
theorem r53 (ha : env 55 = Tr.wk T_ramong) (h56 : env 56 = T_strs wBarred) (h57 : env 57 = T_strs wWords) (h58 : env 58 = T_strs wBuilts) (h : RR σ s Q n i ts v τ) (hq : Q = rgo n (nameS (s.drop i) ts)) (hK : ∀ σ', σ.sub σ' → K (lexV Q) σ') {k : Nat} (hk : k = i + spanL innerB (s.drop i)) (hik : i < k) (hks : k ≤ s.length) (hsl : s.length ≤ 65536) : J29_53 env (RInv σ s Q) (s.length - i) (.pv (.str s)) v (.pv (.int .i64 i)) (.pv (.int .i64 k)) τ K X := by
  have hw := word_32 (s.drop i)
  have ew : (s.take k).drop i = (s.drop i).take (spanL innerB (s.drop i)) := by rw [hk, take_dropN]
  have ed : (s.drop i).drop (spanL innerB (s.drop i)) = s.drop k := by rw [drop_dropN, ← hk]
  unfold nameS at hq
  rw [ed, ← ew] at hq
  rw [← ew] at hw
  rw [listed_barred hw, listed_words hw, listed_builts hw] at hq
  unfold J29_53
  have hlt := h.lt
  simp only [lock_eq]
  rw [T.sb9 (i := i) (j := k) (by omega) (by omega)]
  generalize (s.take k).drop i = w at hq hw ⊢
  simp only [decide_eq_true_eq] at hq
  rw [h56]
  refine ⟨rfl, ?_⟩
  refine among_call ha rfl (by decide) ?_
  simp only [go_sem]
  refine iteI (fun g1 => ?_) (fun g1 => ?_)
  · rw [if_pos g1] at hq
    exact rbad h hq rfl hK
  rw [if_neg g1] at hq
  have j63 : ∀ kd : Bytes, kd ≠ kOp → Q = rgo n (some (s.drop k, ts ++ [(kd, w)])) → J29_63 env (RInv σ s Q) (s.length - i) (.pv (.str s)) v (.pv (.int .i64 k)) (.pv (.str w)) (.pv (.str kd)) τ K X := by
    intro kd hkd hq
    unfold J29_63
    simp only [lock_eq, bdT]
    exact rpush h hq rfl (fun e => absurd e hkd) hik hks
  rw [h57]
  refine ⟨rfl, ?_⟩
  refine among_call ha rfl (by decide) ?_
  simp only [go_sem]
  refine iteI (fun g2 => ?_) (fun g2 => ?_)
  · rw [if_pos g2] at hq
    exact j63 _ (by decide) hq
  rw [h58]
  rw [if_neg g2] at hq
  refine ⟨rfl, ?_⟩
  refine among_call ha rfl (by decide) ?_
  simp only [go_sem]
  refine iteI (fun g3 => ?_) (fun g3 => ?_)
  · rw [if_pos g3] at hq
    exact j63 _ (by decide) hq
  rw [if_neg g3] at hq
  have hp : Lib.hasPrefix (s.drop k) [40] = (decide (k < s.length) && (s.getD k 0).toNat == 40) := by
    unfold Lib.hasPrefix
    by_cases g4 : k < s.length
    · rw [drop_consD (d := 0) g4, decide_eq_true g4, Bool.true_and, List.isPrefixOf]
      simp only [List.isPrefixOf, Bool.and_true]
      rw [Bool.eq_iff_iff, beq_iff_eq, beq_iff_eq]
      exact ⟨fun e => by rw [← e]; rfl, fun e => (UInt8.toNat_inj.1 e).symm⟩
    · rw [List.drop_eq_nil_of_le (by omega), decide_eq_false g4]; rfl
  rw [hp] at hq
  refine iteI (fun g4 => ?_) (fun g4 => ?_)
  · rw [decide_eq_true g4, Bool.true_and] at hq
    simp (disch := omega) only [T.is9, go_sem]
    refine iteI (fun g5 => ?_) (fun g5 => ?_)
    · rw [if_pos g5] at hq
      exact j63 _ (by decide) hq
    · rw [if_neg g5] at hq
      exact j63 _ (by decide) hq
  · rw [decide_eq_false g4, Bool.false_and, if_neg (by decide)] at hq
    exact j63 _ (by decide) hq
structure RefEnv (env : Env) : Prop where
  among : env 55 = Tr.wk T_ramong
  barred : env 56 = T_strs wBarred
  words : env 57 = T_strs wWords
  builts : env 58 = T_strs wBuilts
  ops : env 59 = T_strs allOps
  letter : env 53 = byteT letterB
  digit : env 54 = byteT digitB
  number : env 49 = T_number
  text : env 50 = T_rquote 34 inTextS
  slashes : env 52 = T_rquote 47 inEreS
  operand : env 51 = T_roperand
theorem prefix_at {o : Bytes} {i : Nat} (hi : i ≤ s.length) : o.isPrefixOf (s.drop i) = true ↔ o.length ≤ s.length - i ∧ (s.take (i + o.length)).drop i = o := by
  rw [take_dropN, List.isPrefixOf_iff_prefix]
  constructor
  · intro h
    have h1 := h.length_le
    rw [List.length_drop] at h1
    exact ⟨h1, (List.prefix_iff_eq_take.1 h).symm⟩
  · intro ⟨h1, h2⟩
    rw [← h2]
    rw [h2]
    exact List.prefix_iff_eq_take.2 h2.symm
def ixI : Nat → Int
  | 0 => -1
  | k + 1 => (k : Nat)
/-- The signs. -/
theorem r16 (E : RefEnv env) (h : RR σ s Q n i ts v τ) (hq : Q = rgo n (opTok (s.drop i) ts)) (hc : s.getD i 0 ≠ 32) (hK : ∀ σ', σ.sub σ' → K (lexV Q) σ') (hsl : s.length ≤ 65536) :
    ∃ I16 : Nat → List AV → AS → Prop, (∃ m, I16 m [.pv (.str s), v, .pv (.int .i64 (i : Nat)), .pv (.lst allOps.length (allOps.map .str)), .pv (.str []), .pv (.int .i64 37)] τ) ∧ ∀ (m : Nat) (x0 x1 x2 x3 x4 x5 : AV), ∀ τ, I16 m [x0, x1, x2, x3, x4, x5] τ → L29_16 env (RInv σ s Q) (s.length - i) I16 m x0 x1 x2 x3 x4 x5 τ K X := by
  have hlt := h.lt
  rw [op_doc (drop_ne hlt) (by rw [getD_drop0]; exact hc)] at hq
  have h38 : allOps.length = 38 := rfl
  have ho2 : ∀ o ∈ allOps, o.length ≤ 2 := by decide
  refine lp29_16 (fun (a : Nat) _ => a) (fun a τ' => τ' = τ ∧ a ≤ 38) (fun a => .pv (.str (foundS (s.drop i) (allOps.drop a)))) (fun a => .pv (.int .i64 (ixI a))) 38 ⟨rfl, Nat.le_refl _⟩ ?_
  have ho32 : ∀ o ∈ allOps, ∀ c ∈ o, c ≠ 32 := by decide
  have hf2 : ∀ (os : List Bytes), (∀ o ∈ os, o.length ≤ 2) → (foundS (s.drop i) os).length ≤ 2 := by
    intro os
    induction os with
    | nil => intro _; exact Nat.zero_le _
    | cons o os ih =>
      intro h
      rw [foundS]
      split
      · exact h o (by simp)
      · exact ih (fun x hx => h x (by simp [hx]))
  have hfm : ∀ (os : List Bytes), foundS (s.drop i) os = [] ∨ foundS (s.drop i) os ∈ os := by
    intro os
    induction os with
    | nil => exact .inl rfl
    | cons o os ih =>
      rw [foundS]
      split
      · exact .inr (by simp)
      · rcases ih with h | h
        · exact .inl h
        · exact .inr (by simp [h])
  have hfp : ∀ (os : List Bytes), foundS (s.drop i) os = [] ∨ (foundS (s.drop i) os).isPrefixOf (s.drop i) = true := by
    intro os
    induction os with
    | nil => exact .inl rfl
    | cons o os ih =>
      rw [foundS]
      split
      · rename_i h; exact .inr h.1
      · exact ih
  generalize allOps = ops at hq h38 ho2 ho32 ⊢
  rintro a τ' ⟨rfl, ha⟩
  unfold L29_16
  cases a with
  | zero =>
    have hf := hf2 _ ho2
    have e0 : (ixI 0) = -1 := rfl
    rw [e0]
    rw [List.drop_zero]
    have h0 : ¬ (0 : Int) ≤ -1 := by decide
    simp (disch := omega) only [lock_eq, go_sem, h0, if_false, decide_false, beq_iff_eq]
    refine iteI (fun g1 => absurd g1 (by decide)) (fun _ => ?_)
    refine iteI (fun g1 => ?_) (fun g1 => ?_)
    · rw [if_pos g1] at hq
      exact rbad h hq rfl hK
    · rw [if_neg g1, drop_dropN] at hq
      have hl1 : 0 < (foundS (s.drop i) ops).length := List.length_pos_iff.2 g1
      have hl2 : i + (foundS (s.drop i) ops).length ≤ s.length := by
        rcases hfp ops with h1 | h1
        · exact absurd h1 g1
        · have := (prefix_at (by omega)).1 h1
          omega
      have ho : ∀ c ∈ foundS (s.drop i) ops, c ≠ 32 := by
        rcases hfm ops with h1 | h1
        · exact absurd h1 g1
        · exact ho32 _ h1
      simp (disch := omega) only [bdT]
      exact rpush h hq rfl (fun _ => ho) (by omega) hl2
  | succ k =>
    have hk : k < ops.length := by omega
    have e1 : ixI (k + 1) = (k : Nat) := rfl
    have hd : ops.drop k = ops.getD k [] :: ops.drop (k + 1) := drop_consD hk
    have hof : ops.getD k [] ∈ ops := by
      rw [List.getD_eq_getElem?_getD, List.getElem?_eq_getElem hk]; exact List.getElem_mem hk
    have hol := ho2 _ hof
    have hfk := hf2 (ops.drop (k + 1)) (fun o ho => ho2 o (List.mem_of_mem_drop ho))
    have hfd : foundS (s.drop i) (ops.drop k) = if (ops.getD k []).isPrefixOf (s.drop i) = true ∧ (foundS (s.drop i) (ops.drop (k + 1))).length < (ops.getD k []).length then ops.getD k [] else foundS (s.drop i) (ops.drop (k + 1)) := by rw [hd, foundS]
    have hcs : (ops.map PV.str)[k]? = some (.str (ops.getD k [])) := by simp [hk]
    have e3 : (ops.map PV.str).length = ops.length * 1 := by simp
    have e4 : ixI k = (k : Int) - 1 := by cases k <;> simp [ixI]
    rw [e1]
    have j19 : ∀ b : Bool, (b = true ↔ ((ops.getD k []).isPrefixOf (s.drop i) = true ∧ (foundS (s.drop i) (ops.drop (k + 1))).length < (ops.getD k []).length)) → J29_19 env (RInv σ s Q) (s.length - i) (Inv (fun a => [.pv (.str s), v, .pv (.int .i64 (i : Nat)), .pv (.lst ops.length (ops.map .str)), .pv (.str (foundS (s.drop i) (ops.drop a))), .pv (.int .i64 (ixI a))]) (fun (a : Nat) _ => a) (fun a τ'' => τ'' = τ' ∧ a ≤ 38)) (k + 1) (.pv (.str s)) v (.pv (.int .i64 (i : Nat))) (.pv (.lst ops.length (ops.map .str))) (.pv (.str (foundS (s.drop i) (ops.drop (k + 1))))) (.pv (.int .i64 (k : Nat))) (.pv (.bool b)) τ' K X := by
      intro b hb
      unfold J29_19
      have hbk : binD PS .sub 3 (.pv (.int .i64 (k : Nat))) (.pv (.int .i64 1)) = fun K : AV → Prop => K (.pv (.int .i64 ((k : Int) - 1))) := by
        funext K
        simp (disch := omega) only [go_sem]
      simp (disch := omega) only [lock_eq, go_sem, T.ixl27, hcs, Nat.mul_one]
      refine iteI (fun g1 => ?_) (fun g1 => ?_)
      · rw [if_pos (hb.1 g1)] at hfd
        refine back k ?_ (Nat.lt_succ_self k) ⟨rfl, by omega⟩
        rw [hfd, e4]
      · rw [if_neg (fun h => g1 (hb.2 h))] at hfd
        refine back k ?_ (Nat.lt_succ_self k) ⟨rfl, by omega⟩
        rw [hfd, e4]
    have hpr := prefix_at (s := s) (o := ops.getD k []) (i := i) (by omega)
    have hge : (0 : Int) ≤ (k : Int) := by omega
    generalize ho : ops.getD k [] = o at hof hol hfd hcs hpr j19
    generalize foundS (s.drop i) (ops.drop (k + 1)) = fo at hfk hfd j19 ⊢
    simp (disch := omega) only [lock_eq, go_sem, hge, if_true, decide_true, T.ixl27, hcs, Nat.mul_one]
    refine iteI (fun g1 => ?_) (fun g1 => ?_)
    · have ej : ∀ K : AV → Prop, sliceD PS 9 (.pv (.str s)) (some (.pv (.int .i64 (i : Nat)))) (some (.pv (.int .i64 ((i + o.length : Nat) : Int)))) K = K (.pv (.str ((s.take (i + o.length)).drop i))) := fun K => T.sb9 (by omega) (by omega)
      simp only [ej, go_sem, beq_iff_eq, and_self]
      refine iteI (fun g2 => ?_) (fun g2 => ?_)
      · refine j19 _ (dIff ⟨fun h1 => ⟨hpr.2 ⟨g1, g2⟩, h1⟩, fun h1 => h1.2⟩)
      · exact j19 _ (fIff (fun h1 => g2 (hpr.1 h1.1).2))
    · simp only [and_self]
      exact j19 _ (fIff (fun h1 => g1 (hpr.1 h1.1).1))
/-- A quoted text, as the document takes it. -/
theorem rquote {q : UInt8} {e : Bytes → Bytes × Bytes} (he : ∀ r, (e r).2 <:+ r) {kd : Bytes} (hi : i < s.length) (hq : Q = rgo n (quoteTok q e kd (s.drop i) ts)) :
    (quotedS q e ((s.drop (i + 1)).length + 1) (s.drop (i + 1)) [] = none ∧ Q = rgo n none) ∨ ∃ t r, quotedS q e ((s.drop (i + 1)).length + 1) (s.drop (i + 1)) [] = some (t, r) ∧ 0 < (s.drop (i + 1)).length - r.length ∧ i + 1 + ((s.drop (i + 1)).length - r.length) ≤ s.length ∧ Q = rgo n (some (s.drop (i + 1 + ((s.drop (i + 1)).length - r.length)), ts ++ [(kd, t)])) := by
  have hle : ∀ r, (e r).2.length ≤ r.length := fun r => (he r).length_le
  unfold quoteTok at hq
  rw [drop_drop1] at hq
  have hf := quoted_fuel (q := q) (e := e) (fun r _ => hle r) ((s.drop i).length + 1) ((s.drop (i + 1)).length + 1) (s.drop (i + 1)) [] (by rw [List.length_drop, List.length_drop]; omega) (Nat.lt_succ_self _)
  rw [hf] at hq
  cases hR : quotedS q e ((s.drop (i + 1)).length + 1) (s.drop (i + 1)) [] with
  | none => rw [hR] at hq; exact .inl ⟨rfl, hq⟩
  | some x =>
    obtain ⟨t, r⟩ := x
    rw [hR] at hq
    have h1 := quoted_le hle _ _ _ _ _ hR
    have h2 := List.suffix_iff_eq_drop.1 (quoted_suffix he _ _ _ _ _ hR)
    rw [drop_dropN] at h2
    refine .inr ⟨t, r, rfl, by omega, by rw [List.length_drop]; omega, ?_⟩
    rw [← h2]
    exact hq
/-- A quoted expression, a name or a sign. -/
theorem r44 (E : RefEnv env) (h : RR σ s Q n i ts v τ) {c : UInt8} (hc : s.getD i 0 = c) (h32 : c.toNat ≠ 32) (hK : ∀ σ', σ.sub σ' → K (lexV Q) σ') (hsl : s.length ≤ 65536) (b : Bool) (hb : b = true ↔ (c.toNat = 47 ∧ operandS ts = false))
    (hq : Q = rgo n (if c.toNat = 47 ∧ operandS ts = false then quoteTok 47 inEreS kEre (s.drop i) ts else if letterB c = true then nameS (s.drop i) ts else opTok (s.drop i) ts)) : J29_44 env (RInv σ s Q) (s.length - i) (.pv (.str s)) v (.pv (.int .i64 i)) (.pv (.int .u8 c.toNat)) (.pv (.bool b)) τ K X := by
  have hlt := h.lt
  unfold J29_44
  simp (disch := omega) only [go_sem]
  refine iteI (fun g1 => ?_) (fun g1 => ?_)
  · rw [if_pos (hb.1 g1)] at hq
    rw [T.ss9 (by omega), E.slashes]
    refine ⟨_, rfl, by rw [List.length_drop]; omega, ?_⟩
    intro σ' hs
    have h' := h.grow hs
    rcases rquote inEre_suffix hlt hq with ⟨h1, h2⟩ | ⟨t, r, h1, h2, h3, h4⟩
    · rw [h1]
      simp only [quV, go_sem, List.getElem?_cons_zero, List.getElem?_cons_succ, someEx, beq_self_eq_true, if_true]
      exact rbad h' h2 rfl hK
    · rw [h1]
      simp only [quV]
      generalize (s.drop (i + 1)).length - r.length = m at h2 h3 h4 ⊢
      have hm : ¬ m = 0 := by omega
      simp (disch := omega) only [go_sem, List.getElem?_cons_zero, List.getElem?_cons_succ, someEx, hm, if_false, beq_iff_eq, bdT]
      exact rpush h' h4 rfl (fun e => absurd e (by decide)) (by omega) h3
  · rw [if_neg (fun h => g1 (hb.2 h))] at hq
    rw [E.letter]
    refine ⟨c, rfl, ?_⟩
    simp only [go_sem]
    refine iteI (fun g2 => ?_) (fun g2 => ?_)
    · rw [if_pos g2] at hq
      have hin : innerB c = true := by unfold innerB; rw [g2]; rfl
      have hp : 0 < spanL innerB (s.drop i) := span_pos (drop_ne hlt) (by rw [getD_drop0, hc]; exact hin)
      have hle := span_le innerB (s.drop i)
      rw [List.length_drop] at hle
      refine lp29_51 (fun (k : Nat) _ => s.length - k) (fun k τ' => τ' = τ ∧ i ≤ k ∧ k ≤ s.length ∧ i + spanL innerB (s.drop i) = k + spanL innerB (s.drop k)) (fun k => .pv (.int .i64 k)) i ⟨rfl, Nat.le_refl _, by omega, rfl⟩ ?_
      rintro k τ' ⟨rfl, h1, h2, h3⟩
      have fin : spanL innerB (s.drop k) = 0 → J29_53 env (RInv σ s Q) (s.length - i) (.pv (.str s)) v (.pv (.int .i64 i)) (.pv (.int .i64 k)) τ' K X := fun h0 => r53 E.among E.barred E.words E.builts h hq hK (by omega) (by omega) h2 hsl
      unfold L29_51
      simp (disch := omega) only [go_sem]
      refine iteI (fun g3 => ?_) (fun g3 => ?_)
      · simp (disch := omega) only [T.is9, E.letter, E.digit]
        have hsp := span_drop (p := innerB) g3
        refine ⟨_, rfl, ?_⟩
        simp (disch := omega) only [go_sem]
        refine iteI (fun g4 => ?_) (fun g4 => ?_)
        · have g4' : innerB (s.getD k 0) = true := by unfold innerB; rw [g4]; rfl
          rw [if_pos g4'] at hsp
          exact back (k + 1) rfl (by omega) ⟨rfl, by omega, g3, by omega⟩
        · refine ⟨_, rfl, ?_⟩
          simp (disch := omega) only [go_sem]
          refine iteI (fun g5 => ?_) (fun g5 => ?_)
          · have g4' : innerB (s.getD k 0) = true := by unfold innerB; rw [g5, Bool.or_true]
            rw [if_pos g4'] at hsp
            exact back (k + 1) rfl (by omega) ⟨rfl, by omega, g3, by omega⟩
          · have g4' : ¬ innerB (s.getD k 0) = true := by unfold innerB; rw [Bool.or_eq_true]; exact fun h => h.elim g4 g5
            rw [if_neg g4'] at hsp
            exact fin hsp
      · exact fin (by rw [List.drop_eq_nil_of_le (by omega)]; rfl)
    · rw [if_neg g2] at hq
      rw [E.ops]
      refine ⟨rfl, ?_⟩
      have hne : s.getD i 0 ≠ 32 := by
        intro e; rw [hc] at e; exact h32 (by rw [e]; rfl)
      simp only [go_sem]
      exact r16 E h hq hne hK hsl
theorem prefix_nl {s : Bytes} {i : Nat} (hi : i < s.length) : Lib.hasPrefix (s.drop i) [92, 10] = ((s.getD i 0).toNat == 92 && (decide (i + 1 < s.length) && (s.getD (i + 1) 0).toNat == 10)) := by
  have e8 : ∀ (a b : UInt8), (a == b) = (b.toNat == a.toNat) := by
    intro a b
    rw [Bool.eq_iff_iff, beq_iff_eq, beq_iff_eq]
    exact ⟨fun e => by rw [e], fun e => (UInt8.toNat_inj.1 e).symm⟩
  unfold Lib.hasPrefix
  rw [drop_consD (d := 0) hi, List.isPrefixOf, e8]
  by_cases h : i + 1 < s.length
  · rw [drop_consD (d := 0) h, decide_eq_true h, Bool.true_and, List.isPrefixOf, e8, List.isPrefixOf, Bool.and_true]
    rfl
  · rw [List.drop_eq_nil_of_le (by omega), decide_eq_false h]
    simp [List.isPrefixOf]
/-- The token, blanks and the last token known. -/
theorem r27 (E : RefEnv env) (h : RR σ s Q n i ts v τ) {c : UInt8} (hc : s.getD i 0 = c) (h32 : ¬ (c.toNat = 32 ∨ c.toNat = 9)) (hK : ∀ σ', σ.sub σ' → K (lexV Q) σ') (hsl : s.length ≤ 65536) {t7 : Nat} {lt : Tok} {var : Option TypeId} (hv : τ t7 = some (.cells ((tokPV lt).map .pv) var)) (hop : operandS ts = tokOperand lt) (hlt7 : lt.1 = kOp → ∀ c ∈ lt.2, c ≠ 32) (b : Bool) (hb : b = Lib.hasPrefix (s.drop i) [92, 10])
    (hq : Q = rgo n (tokenS (s.drop i) ts)) : J29_27 env (RInv σ s Q) (s.length - i) (.pv (.str s)) v (.pv (.int .i64 i)) (.pv (.int .u8 c.toNat)) (.addr t7 0) (.pv (.int .i64 (numberL (s.drop i)))) (.pv (.bool b)) τ K X := by
  have hlt := h.lt
  unfold tokenS at hq
  rw [getD_drop0, hc, if_neg h32, ← hb] at hq
  have hnl := number_le (s.drop i)
  rw [List.length_drop] at hnl
  unfold J29_27
  simp (disch := omega) only [lock_eq, go_sem, beq_iff_eq]
  refine iteI (fun g1 => ?_) (fun g1 => ?_)
  · rw [if_pos g1, drop_dropN] at hq
    have h2 : i + 2 ≤ s.length := by
      rw [g1] at hb
      have := (List.isPrefixOf_iff_prefix.1 hb.symm).length_le
      rw [List.length_drop] at this
      simp only [List.length_cons, List.length_nil] at this
      omega
    exact rnext h hq rfl (by omega) h2
  rw [if_neg g1] at hq
  refine iteI (fun g2 => ?_) (fun g2 => ?_)
  · rw [if_pos g2, drop_dropN] at hq
    have hp : 0 < spanL lineB (s.drop i) := span_pos (drop_ne hlt) (by rw [getD_drop0, hc]; unfold lineB; rw [g2]; rfl)
    have hle := span_le lineB (s.drop i)
    rw [List.length_drop] at hle
    refine lp29_29 (fun (k : Nat) _ => s.length - k) (fun k τ' => τ' = τ ∧ i ≤ k ∧ k ≤ s.length ∧ i + spanL lineB (s.drop i) = k + spanL lineB (s.drop k)) (fun k => .pv (.int .i64 k)) i ⟨rfl, Nat.le_refl _, by omega, rfl⟩ ?_
    rintro k τ' ⟨rfl, h1, h2, h3⟩
    have fin : spanL lineB (s.drop k) = 0 → ∃ m', m' < s.length - i ∧ RInv σ s Q m' [.pv (.str s), v, .pv (.int .i64 ((k : Nat) : Int))] τ' := fun h0 => by
      have : i + spanL lineB (s.drop i) = k := by omega
      rw [this] at hq
      exact rnext h hq rfl (by omega) h2
    unfold L29_29
    simp (disch := omega) only [go_sem]
    refine iteI (fun g3 => ?_) (fun g3 => ?_)
    · have hsp := span_drop (p := lineB) g3
      simp (disch := omega) only [T.is9, go_sem, bne, Bool.not_eq_true', beq_eq_false_iff_ne, ne_eq]
      refine iteI (fun g4 => ?_) (fun g4 => ?_)
      · have g4' : lineB (s.getD k 0) = true := by unfold lineB; simp only [Bool.not_eq_true', beq_eq_false_iff_ne, ne_eq]; exact g4
        rw [if_pos g4'] at hsp
        exact back (k + 1) rfl (by omega) ⟨rfl, by omega, g3, by omega⟩
      · have g4' : ¬ lineB (s.getD k 0) = true := by unfold lineB; simp only [Bool.not_eq_true', beq_eq_false_iff_ne, ne_eq]; exact g4
        rw [if_neg g4'] at hsp
        exact fin hsp
    · exact fin (by rw [List.drop_eq_nil_of_le (by omega)]; rfl)
  rw [if_neg g2] at hq
  have bd0 : ∀ K : AV → Prop, buildD PS 52 [(0, .pv (.str [110, 108]))] K = K (.agg [.pv (.str [110, 108]), .pv (.str [])]) := by
    intro K
    simp [buildD, buildFill, go_sem, AV.cells, AV.cellOk, setAll]
  refine iteI (fun g3 => ?_) (fun g3 => ?_)
  · rw [if_pos g3, drop_dropN] at hq
    rw [bd0]
    exact rpush h hq rfl (fun e => absurd e (by decide)) (by omega) hlt
  rw [if_neg g3] at hq
  refine iteI (fun g4 => ?_) (fun g4 => ?_)
  · rw [if_pos g4, drop_dropN] at hq
    have e : ∀ K : AV → Prop, sliceD PS 9 (.pv (.str s)) (some (.pv (.int .i64 (i : Nat)))) (some (.pv (.int .i64 ((i + numberL (s.drop i) : Nat) : Int)))) K = K (.pv (.str ((s.take (i + numberL (s.drop i))).drop i))) := fun K => T.sb9 (by omega) (by omega)
    rw [e, take_dropN, bdT]
    exact rpush h hq rfl (fun e => absurd e (by decide)) (by omega) (by omega)
  rw [if_neg g4] at hq
  refine iteI (fun g5 => ?_) (fun g5 => ?_)
  · rw [if_pos g5] at hq
    rw [T.ss9 (by omega), E.text]
    refine ⟨_, rfl, by rw [List.length_drop]; omega, ?_⟩
    intro σ' hs
    have h' := h.grow hs
    rcases rquote inText_suffix hlt hq with ⟨h1, h2⟩ | ⟨t, r, h1, h2, h3, h4⟩
    · rw [h1]
      simp only [quV, go_sem, List.getElem?_cons_zero, List.getElem?_cons_succ, someEx, beq_self_eq_true, if_true]
      exact rbad h' h2 rfl hK
    · rw [h1]
      simp only [quV]
      generalize (s.drop (i + 1)).length - r.length = m at h2 h3 h4 ⊢
      have hm : ¬ m = 0 := by omega
      simp (disch := omega) only [go_sem, List.getElem?_cons_zero, List.getElem?_cons_succ, someEx, hm, if_false, beq_iff_eq, bdT]
      exact rpush h' h4 rfl (fun e => absurd e (by decide)) (by omega) h3
  rw [if_neg g5] at hq
  refine iteI (fun g6 => ?_) (fun g6 => ?_)
  · simp only [loadD, T.hT52, T.ag52, hv, T.sz52, true_and, if_true, tokPV]
    refine ⟨by simp, ?_⟩
    rw [E.operand]
    refine ⟨lt, rfl, hlt7, ?_⟩
    intro σ' hs
    have h' := h.grow hs
    simp only [go_sem]
    refine r44 E h' hc (fun h => h32 (.inl h)) hK hsl _ ?_ hq
    rw [hop]
    cases tokOperand lt <;> simp [g6]
  · exact r44 E h hc (fun h => h32 (.inl h)) hK hsl _ (fIff (fun h => g6 h.1)) hq
theorem T_rLex_ok (E : RefEnv env) (h : T_Lex args σ K X) : bodyD PS env an29 Tryd.f29 args σ K X := by
  obtain ⟨s, rfl, hK⟩ := h
  rw [← S29_eq env, S29]
  generalize hQ : lexS s = Q at hK
  simp (disch := omega) only [go_sem]
  refine iteI (fun g0 => ?_) (fun g0 => ?_)
  · have := hK σ (sub_refl σ)
    rw [← hQ, lexS, if_neg (by omega)] at this
    exact ⟨lexV none, σ, .inr ⟨.inr ⟨_, rfl, rfl⟩, .inl rfl, trivial⟩, sub_refl _, this⟩
  have hsl : s.length ≤ 65536 := by omega
  rw [lexS, if_pos hsl] at hQ
  refine lp29_5 (fun (a : Nat × List Tok × AV) _ => s.length - a.1) (fun a τ => RI σ s Q a.1 a.2.1 a.2.2 τ) (fun a => a.2.2) (fun a => .pv (.int .i64 ((a.1 : Nat) : Int))) (0, [], .nilS) ⟨Nat.zero_le _, ⟨[], RowV.nil PS 52, Sep.start σ⟩, by simp, .inl ⟨Nat.zero_le _, s.length + 1, by simp only; omega, hQ.symm⟩⟩ ?_
  rintro ⟨i, ts, v⟩ τ ⟨hi, ⟨L, hR, hS⟩, hops, hgo⟩
  simp only at hi hR hops hgo
  have bad : Q = none → retV (.tuple [.nilS, .pv (.bool false)]) τ K := by
    intro h
    have := hK τ hS.sub
    rw [h] at this
    exact ⟨lexV none, τ, .inr ⟨.inr ⟨_, rfl, rfl⟩, .inl rfl, trivial⟩, sub_refl _, this⟩
  have hts : ts.length ≤ 20001 := by rcases hgo with h | h <;> omega
  unfold L29_5
  simp (disch := omega) only [lock_eq, go_sem, T.lnv47 hR.toPV]
  refine iteI (fun g1 => ?_) (fun g1 => ?_)
  · refine iteI (fun g2 => ?_) (fun g2 => ?_)
    · rcases hgo with h | h
      · omega
      · exact bad h.2
    obtain ⟨_, n, hn, hq⟩ : ts.length ≤ 20000 ∧ ∃ n, s.length - i < n ∧ Q = lexL n (s.drop i) ts := by
      rcases hgo with h | h
      · exact h
      · omega
    obtain ⟨n, rfl⟩ : ∃ m, n = m + 1 := ⟨n - 1, by omega⟩
    rw [lexL, if_neg (drop_ne g1)] at hq
    replace hq : Q = rgo n (tokenS (s.drop i) ts) := hq
    have j12 : ∀ (σ' : AS) (t7 : Nat) (lt : Tok), Sep σ σ' ((t7, .cells ((tokPV lt).map .pv) (some 52)) :: L) → operandS ts = tokOperand lt → (lt.1 = kOp → ∀ c ∈ lt.2, c ≠ 32) → J29_12 env (RInv σ s Q) (s.length - i) (.pv (.str s)) v (.pv (.int .i64 i)) (.pv (.int .u8 (s.getD i 0).toNat)) (.addr t7 0) σ' K X := by
      intro σ' t7 lt hS' ho1 ho2
      have hv := hS'.get (i := t7) (o := .cells ((tokPV lt).map .pv) (some 52)) (by simp)
      have hrr : RR σ s Q n i ts v σ' := ⟨g1, ⟨L, hR, hS'.drop⟩, hops, by omega, by omega⟩
      unfold J29_12
      simp (disch := omega) only [lock_eq, T.ss9]
      rw [E.number]
      refine ⟨_, rfl, by rw [List.length_drop]; omega, ?_⟩
      have j25 : ∀ b : Bool, (b = true ↔ ((s.getD i 0).toNat = 32 ∨ (s.getD i 0).toNat = 9)) → J29_25 env (RInv σ s Q) (s.length - i) (.pv (.str s)) v (.pv (.int .i64 i)) (.pv (.int .u8 (s.getD i 0).toNat)) (.addr t7 0) (.pv (.int .i64 (numberL (s.drop i)))) (.pv (.bool b)) σ' K X := by
        intro b hb
        have htk : tokenS (s.drop i) ts = tokenS (s.drop i) ts := rfl
        unfold J29_25
        simp (disch := omega) only [lock_eq, go_sem, beq_iff_eq]
        refine iteI (fun g3 => ?_) (fun g3 => ?_)
        · refine rnext hrr hq ?_ (Nat.lt_succ_self i) g1
          unfold tokenS
          rw [getD_drop0, if_pos (hb.1 g3), drop_dropN]
        have h32 : ¬ ((s.getD i 0).toNat = 32 ∨ (s.getD i 0).toNat = 9) := fun h => g3 (hb.2 h)
        have hpn := prefix_nl g1
        refine iteI (fun g4 => ?_) (fun g4 => ?_)
        · rw [beq_iff_eq.2 g4, Bool.true_and] at hpn
          refine iteI (fun g5 => ?_) (fun g5 => ?_)
          · rw [decide_eq_true g5, Bool.true_and] at hpn
            simp (disch := omega) only [T.is9, go_sem]
            exact r27 E hrr rfl h32 hK hsl hv ho1 ho2 _ hpn.symm hq
          · rw [decide_eq_false g5, Bool.false_and] at hpn
            exact r27 E hrr rfl h32 hK hsl hv ho1 ho2 _ hpn.symm hq
        · rw [beq_eq_false_iff_ne.2 g4, Bool.false_and] at hpn
          exact r27 E hrr rfl h32 hK hsl hv ho1 ho2 _ hpn.symm hq
      simp (disch := omega) only [go_sem, beq_iff_eq]
      refine iteI (fun g3 => j25 _ (tIff (.inl g3))) (fun g3 => j25 _ ?_)
      rw [beq_iff_eq]
      exact ⟨.inr, fun h => h.elim (fun h => absurd h g3) id⟩
    simp (disch := omega) only [T.is9]
    have bd0 : ∀ K : AV → Prop, buildD PS 52 [] K = K (.agg [.pv (.str []), .pv (.str [])]) := by
      intro K
      simp [buildD, buildFill, go_sem, AV.cells, AV.cellOk, setAll]
    have hst : ∀ (t3 : Nat) (σ' : AS) (a b : Tok) (KS : AS → Prop), Sep σ σ' ((t3, .cells ((tokPV a).map .pv) (some 52)) :: L) → (∀ σ'', Sep σ σ'' ((t3, .cells ((tokPV b).map .pv) (some 52)) :: L) → KS σ'') → storeD PS σ' 52 (.addr t3 0) (.agg ((tokPV b).map .pv)) KS := by
      intro t3 σ' a b KS h1 h2
      have hg : σ' t3 = some (.cells ((tokPV a).map .pv) (some 52)) := h1.get (by simp)
      rw [storeD]
      simp only [hg]
      refine ⟨T.hT52, by rw [T.sz52]; rfl, rfl, by simp [AV.cells, tokPV], h2 _ (Sep.set1 h1 _)⟩
    simp only [bd0]
    refine alloc_of T.zo52 rfl ?_
    intro t7 ht7
    have hS1 := hS.alloc ht7 (.cells ((tokPV ([], [])).map .pv) (some 52))
    refine hst t7 _ ([], []) ([], []) _ hS1 ?_
    intro σ3 hS3
    refine iteI (fun g3 => ?_) (fun g3 => ?_)
    · have hle : ts.length - 1 < ts.length := by omega
      have hix : ∀ K, indexAddrD PS 47 v (.pv (.int .i64 (ts.length - 1 : Nat))) K = K (.elemP (flatT ts) ((ts.length - 1) * 2)) := by
        intro K
        have := hR.ix (t := 47) (k := .i64) (i := ts.length - 1) (K := K) T.el47 T.iS52 (by rw [T.sz52]; decide) hle
        rwa [T.sz52] at this
      have hld : ∀ σ' K, loadD PS σ' 52 (.elemP (flatT ts) ((ts.length - 1) * 2)) K = K (.agg ((tokPV ts[ts.length - 1]).map .pv)) := by
        intro σ' K
        rw [load_elemA T.hT52 T.ag52, T.sz52, flatT_get ts _ hle]
        exact propext ⟨fun h => h.2, fun h => ⟨by rw [flatT_len]; omega, h⟩⟩
      simp only [hix, hld]
      refine hst t7 _ _ _ _ hS3 ?_
      intro σ4 hS4
      refine j12 σ4 t7 _ hS4 ?_ (hops _ (List.getElem_mem _))
      unfold operandS; rw [getLast_ix (by omega)]
    · have : ts = [] := List.eq_nil_of_length_eq_zero (by omega)
      refine j12 σ3 t7 ([], []) hS3 ?_ (fun h => absurd h (by decide))
      rw [this]
      rfl
  · have hi : s.length ≤ i := by omega
    refine iteI (fun g2 => ?_) (fun g2 => ?_)
    · rcases hgo with h | h
      · omega
      · exact bad h.2
    obtain ⟨_, n, hn, hq⟩ : ts.length ≤ 20000 ∧ ∃ n, s.length - i < n ∧ Q = lexL n (s.drop i) ts := by
      rcases hgo with h | h
      · exact h
      · omega
    obtain ⟨n, rfl⟩ : ∃ m, n = m + 1 := ⟨n - 1, by omega⟩
    rw [List.drop_eq_nil_of_le hi, lexL, if_pos rfl] at hq
    have := hK τ hS.sub
    rw [hq] at this
    exact ⟨lexV (some ts), τ, .inr ⟨.inr ⟨_, hR.toPV, rfl⟩, .inl rfl, trivial⟩, sub_refl _, this⟩
end
end Go.AD.Lx
