import Derived.Test.YtjgjmpophpifgaaDoorLsS
import Derived.Test.YtjgjmpophpifgaaDoorLq
import Derived.Test.YtjgjmpophpifgaaDoorG14
/- syntax: what SyntaxShown calls: quote, slashes. -/
set_option linter.unusedVariables false
set_option linter.unusedSimpArgs false
set_option maxRecDepth 100000
namespace Go.AD.Lx
open Go.Proofs RowKit
section
variable {env : Env} {args : List AV} {σ0 σ τ : AS} {K : AV → AS → Prop} {X : PV → AS → Prop}
theorem u8enc (c : UInt8) : (48 + c / 64).toNat = 48 + c.toNat / 64 ∧ (48 + c / 8 % 8).toNat = 48 + c.toNat / 8 % 8 ∧ (48 + c % 8).toNat = 48 + c.toNat % 8 :=
  allU8 (p := fun c => (48 + c / 64).toNat = 48 + c.toNat / 64 ∧ (48 + c / 8 % 8).toNat = 48 + c.toNat / 8 % 8 ∧ (48 + c % 8).toNat = 48 + c.toNat % 8) (by decide +kernel) c
def T_quote6 : Tr := fun args σ K _ => ∃ s : Bytes, args = [.pv (.str s), .pv (.int .u8 34)] ∧ s.length ≤ 13000 ∧ ∀ σ', σ.sub σ' → K (.pv (.str (quoteS s))) σ'
theorem encS_app (a b : Bytes) : encS (a ++ b) = encS a ++ encS b := by
  induction a with
  | nil => rfl
  | cons c a ih => simp [encS, ih]
theorem T_quote6_ok (h : T_quote6 args σ K X) : bodyD PS env an38 Tryd.f38 args σ K X := by
  obtain ⟨s, rfl, hs, hK⟩ := h
  rw [← S38_eq env, S38]
  have b1 : ∀ (τ : AS) K, buildSliceD PS false τ 30 1 1 [(0, .pv (.int .u8 34))] K = K (.full 1 (pvBytes [34])) τ := by
    intro τ K; simp [buildSliceD, go_sem, elemsFill, AV.cells, AV.cellOk, toPVs, toPV, pvBytes]
  have b4 : ∀ (τ : AS) (c : UInt8) K, buildSliceD PS false τ 30 4 4 [(0, .pv (.int .u8 92)), (1, .pv (.int .u8 ((48 + c.toNat / 64 : Nat) : Int))), (2, .pv (.int .u8 ((48 + c.toNat / 8 % 8 : Nat) : Int))), (3, .pv (.int .u8 ((48 + c.toNat % 8 : Nat) : Int)))] K = K (.full 4 (pvBytes (encB c))) τ := by
    intro τ c K
    obtain ⟨h1, h2, h3⟩ := u8enc c
    have e : pvBytes (encB c) = [.int .u8 92, .int .u8 ((48 + c.toNat / 64 : Nat) : Int), .int .u8 ((48 + c.toNat / 8 % 8 : Nat) : Int), .int .u8 ((48 + c.toNat % 8 : Nat) : Int)] := by
      simp only [pvBytes, encB, List.map_cons, List.map_nil, h1, h2, h3]
      rfl
    rw [e]
    simp [buildSliceD, go_sem, elemsFill, AV.cells, AV.cellOk, toPVs, toPV]
  simp only [lock_eq, b1]
  refine lp38_3 (fun (a : Nat × AV) _ => s.length - a.1) (fun a τ => a.1 ≤ s.length ∧ ∃ L, RowF a.2 L (34 :: encS (s.take a.1)) ∧ Sep σ τ ([] ++ L)) (fun a => a.2) (fun a => .pv (.int .i64 a.1)) (0, .full 1 (pvBytes [34])) ⟨Nat.zero_le _, [], .inr ⟨rfl, rfl⟩, Sep.start σ⟩ ?_
  rintro ⟨i, v⟩ τ ⟨hi, L, hR, hS⟩
  simp only at hi hR
  have htl : (encS (s.take i)).length = 4 * i := by rw [encS_len, List.length_take]; omega
  unfold L38_3
  simp (disch := omega) only [go_sem]
  refine iteI (fun hlt => ?_) (fun hge => ?_)
  · have hc := u8lt (s.getD i 0)
    simp (disch := omega) only [T.is9]
    simp (disch := omega) only [go_sem]
    refine ⟨by decide, by decide, by decide, by decide, ?_⟩
    rw [b4]
    refine hR.append hS (r := encB (s.getD i 0)) (fun σ => rfl) (by simp [encB]) (by simp only [List.length_cons, htl, encB, List.length_nil]; omega) ?_
    intro v' L' σ' h1 h2
    refine back (i + 1, v') rfl (by simp only; omega) ⟨by simp only; omega, L', ?_, h2⟩
    have e : 34 :: encS (s.take (i + 1)) = (34 :: encS (s.take i)) ++ encB (s.getD i 0) := by
      rw [take_snocD (d := 0) hlt, encS_app]; simp [encS]
    simp only
    rw [e]; exact h1
  · have : i = s.length := by omega
    subst this
    rw [List.take_length] at hR htl
    rw [b1]
    refine hR.append hS (r := [34]) (fun σ => rfl) (by simp) (by simp only [List.length_cons, htl, List.length_nil]; omega) ?_
    intro v' L' σ' h1 h2
    rw [conv_bytes (l := 34 :: encS s ++ [34]) (isSlice T.el30) Tryd.underlying9 Tryd.underlying5 T.sz5 h1.toPV]
    exact retV_self (hK σ' h2.sub)

/-! ### slashes -/
def slashesS : Bytes → Bytes
  | [] => []
  | [c] => if c = 47 then [92, 47] else [c]
  | c :: d :: s => if c = 92 then c :: d :: slashesS s else if c = 47 then 92 :: 47 :: slashesS (d :: s) else c :: slashesS (d :: s)
theorem slashes_len : ∀ s : Bytes, (slashesS s).length ≤ 2 * s.length
  | [] => Nat.le_refl _
  | [c] => by rw [slashesS]; split <;> simp
  | c :: d :: s => by
    have h1 := slashes_len s
    have h2 := slashes_len (d :: s)
    rw [slashesS]
    simp only [List.length_cons] at h2 ⊢
    split
    · simp only [List.length_cons]; omega
    split
    · simp only [List.length_cons]; omega
    · simp only [List.length_cons]; omega
theorem slashes_esc {s : Bytes} {i : Nat} (h : i + 1 < s.length) (hc : s.getD i 0 = 92) : slashesS (s.drop i) = [92, s.getD (i + 1) 0] ++ slashesS (s.drop (i + 2)) := by
  rw [drop_consD (d := 0) (show i < s.length by omega), drop_consD (d := 0) h, slashesS, if_pos hc, hc]
  rfl
theorem slashes_one {s : Bytes} {i : Nat} (h : i < s.length) (hc : ¬ (s.getD i 0 = 92 ∧ i + 1 < s.length)) : slashesS (s.drop i) = (if s.getD i 0 = 47 then [92, s.getD i 0] else [s.getD i 0]) ++ slashesS (s.drop (i + 1)) := by
  rw [drop_consD (d := 0) h]
  rcases Nat.lt_or_ge (i + 1) s.length with h1 | h1
  · rw [drop_consD (d := 0) h1, slashesS, if_neg (fun e => hc ⟨e, h1⟩)]
    split
    · rename_i e; rw [e]; rfl
    · rfl
  · rw [List.drop_eq_nil_of_le h1, show slashesS [s.getD i 0] = (if s.getD i 0 = 47 then [92, 47] else [s.getD i 0]) from by rw [slashesS], show slashesS [] = [] from by rw [slashesS], List.append_nil]
    split
    · rename_i e; rw [e]
    · rfl
def T_slashes6 : Tr := fun args σ K _ => ∃ s : Bytes, args = [.pv (.str s)] ∧ s.length ≤ 13000 ∧ ∀ σ', σ.sub σ' → K (.pv (.str (slashesS s))) σ'
theorem T_slashes6_ok (h : T_slashes6 args σ K X) : bodyD PS env an39 Tryd.f39 args σ K X := by
  obtain ⟨s, rfl, hs, hK⟩ := h
  rw [← S39_eq env, S39]
  have b1 : ∀ (τ : AS) (c : UInt8) K, buildSliceD PS false τ 30 1 1 [(0, .pv (.int .u8 c.toNat))] K = K (.full 1 (pvBytes [c])) τ := by
    intro τ c K; simp [buildSliceD, go_sem, elemsFill, AV.cells, AV.cellOk, toPVs, toPV, pvBytes]
  have b2 : ∀ (τ : AS) (c d : UInt8) K, buildSliceD PS false τ 30 2 2 [(0, .pv (.int .u8 c.toNat)), (1, .pv (.int .u8 d.toNat))] K = K (.full 2 (pvBytes [c, d])) τ := by
    intro τ c d K; simp [buildSliceD, go_sem, elemsFill, AV.cells, AV.cellOk, toPVs, toPV, pvBytes]
  have e92 : ∀ K, (K : AV → Prop) = K := fun _ => rfl
  refine lp39_3 (fun (a : Nat × AV) _ => s.length - a.1) (fun a τ => a.1 ≤ s.length ∧ ∃ L acc, RowF a.2 L acc ∧ Sep σ τ ([] ++ L) ∧ acc ++ slashesS (s.drop a.1) = slashesS s ∧ acc.length ≤ 2 * a.1) (fun a => a.2) (fun a => .pv (.int .i64 a.1)) (0, .nilS) ⟨Nat.zero_le _, [], [], RowF.nil, Sep.start σ, rfl, Nat.le_refl _⟩ ?_
  rintro ⟨i, v⟩ τ ⟨hi, L, acc, hR, hS, hq, hal⟩
  simp only at hi hR hq hal
  unfold L39_3
  simp (disch := omega) only [go_sem]
  refine iteI (fun hlt => ?_) (fun hge => ?_)
  · have b92 : ∀ (τ : AS) K, buildSliceD PS false τ 30 1 1 [(0, .pv (.int .u8 92))] K = K (.full 1 (pvBytes [92])) τ := fun τ K => b1 τ 92 K
    have n92 : ∀ c : UInt8, (c.toNat = 92) = (c = 92) := fun c => propext ⟨fun h => UInt8.toNat_inj.1 h, fun h => by rw [h]; rfl⟩
    have n47 : ∀ c : UInt8, (c.toNat = 47) = (c = 47) := fun c => propext ⟨fun h => UInt8.toNat_inj.1 h, fun h => by rw [h]; rfl⟩
    have j10 : ∀ (v2 : AV) (L2 : Objs) (pre : Bytes) (τ2 : AS), RowF v2 L2 (acc ++ pre) → Sep σ τ2 ([] ++ L2) → pre.length ≤ 1 → slashesS (s.drop i) = (pre ++ [s.getD i 0]) ++ slashesS (s.drop (i + 1)) →
        J39_10 env (Inv (fun a : Nat × AV => [AV.pv (.str s), a.2, .pv (.int .i64 a.1)]) (fun a _ => s.length - a.1) (fun a τ => a.1 ≤ s.length ∧ ∃ L acc, RowF a.2 L acc ∧ Sep σ τ ([] ++ L) ∧ acc ++ slashesS (s.drop a.1) = slashesS s ∧ acc.length ≤ 2 * a.1)) (s.length - i) (.pv (.str s)) v2 (.pv (.int .i64 i)) τ2 K X := by
      intro v2 L2 pre τ2 hR2 hS2 hp he
      unfold J39_10
      simp (disch := omega) only [lock_eq, T.is9, b1]
      refine hR2.append hS2 (r := [s.getD i 0]) (fun σ => rfl) (by simp) (by simp only [List.length_append, List.length_singleton]; omega) ?_
      intro v' L' σ' h1 h2
      simp (disch := omega) only [bin_add, nAdd1, wrap64]
      refine back (i + 1, v') rfl (by simp only; omega) ⟨by simp only; omega, L', _, h1, h2, ?_, ?_⟩
      · simp only
        rw [← hq, he]; simp
      · simp only [List.length_append, List.length_singleton]; omega
    have j6 : ∀ b, b = decide (s.getD i 0 = 92 ∧ i + 1 < s.length) →
        J39_6 env (Inv (fun a : Nat × AV => [AV.pv (.str s), a.2, .pv (.int .i64 a.1)]) (fun a _ => s.length - a.1) (fun a τ => a.1 ≤ s.length ∧ ∃ L acc, RowF a.2 L acc ∧ Sep σ τ ([] ++ L) ∧ acc ++ slashesS (s.drop a.1) = slashesS s ∧ acc.length ≤ 2 * a.1)) (s.length - i) (.pv (.str s)) v (.pv (.int .i64 i)) (.pv (.bool b)) τ K X := by
      intro b hb
      unfold J39_6
      simp only [lock_eq, cond_bool]
      refine iteI (fun g => ?_) (fun g => ?_)
      · rw [hb] at g
        obtain ⟨g1, g2⟩ := of_decide_eq_true g
        have he := slashes_esc g2 g1
        simp (disch := omega) only [T.is9, bin_add, nAdd1, wrap64, b2, and_true]
        refine hR.append hS (r := [s.getD i 0, s.getD (i + 1) 0]) (fun σ => rfl) (by simp) (by simp only [List.length_cons, List.length_nil]; omega) ?_
        intro v' L' σ' h1 h2
        refine back (i + 2, v') rfl (by simp only; omega) ⟨by simp only; omega, L', _, h1, h2, ?_, ?_⟩
        · simp only
          rw [← hq, he, g1]; simp
        · simp only [List.length_append, List.length_cons, List.length_nil]; omega
      · have hn : ¬ (s.getD i 0 = 92 ∧ i + 1 < s.length) := fun h => g (by rw [hb]; exact decide_eq_true h)
        have he := slashes_one hlt hn
        simp (disch := omega) only [T.is9, go_sem, beq_iff_eq, n47]
        refine iteI (fun g2 => ?_) (fun g2 => ?_)
        · rw [if_pos g2] at he
          rw [b92]
          refine hR.append hS (r := [92]) (fun σ => rfl) (by simp) (by simp only [List.length_singleton]; omega) ?_
          intro v' L' σ' h1 h2
          exact j10 v' L' [92] σ' h1 h2 (Nat.le_refl _) he
        · rw [if_neg g2] at he
          exact j10 v L [] τ (by rw [List.append_nil]; exact hR) hS (Nat.zero_le _) he
    simp (disch := omega) only [T.is9, go_sem, beq_iff_eq, n92]
    refine iteI (fun g => ?_) (fun g => ?_)
    · exact j6 _ (by rw [Bool.eq_iff_iff, decide_eq_true_eq, decide_eq_true_eq]; exact ⟨fun h => ⟨g, h⟩, fun h => h.2⟩)
    · exact j6 _ (by rw [decide_eq_false (fun h => g h.1)])
  · have : i = s.length := by omega
    subst this
    rw [List.drop_length, slashesS, List.append_nil] at hq
    subst hq
    rw [conv_bytes (isSlice T.el30) Tryd.underlying9 Tryd.underlying5 T.sz5 hR.toPV]
    exact retV_self (hK τ hS.sub)
end
end Go.AD.Lx

/- syntax: bare (what SyntaxShown compares). -/
set_option linter.unusedVariables false
set_option linter.unusedSimpArgs false
set_option maxRecDepth 100000
namespace Go.AD.Lx
open Go.Proofs RowKit
mutual
/-- A tree without its groups. -/
def bareS : NTree → NTree
  | .mk op text kids => if op = oGroup ∧ kids.length = 1 then (baresS kids).headD noneN else .mk op text (baresS kids)
def baresS : List NTree → List NTree
  | [] => []
  | k :: ks => bareS k :: baresS ks
end
theorem bares_len : ∀ l : List NTree, (baresS l).length = l.length
  | [] => rfl
  | k :: ks => by rw [baresS, List.length_cons, bares_len ks, List.length_cons]
theorem bares_take (l : List NTree) {i : Nat} (h : i < l.length) : (baresS l).take (i + 1) = (baresS l).take i ++ [bareS l[i]] := by
  have e : ∀ (l : List NTree) (i : Nat) (h : i < l.length), (baresS l)[i]? = some (bareS l[i]) := by
    intro l
    induction l with
    | nil => intro i h; exact absurd h (Nat.not_lt_zero _)
    | cons k ks ih =>
      intro i h
      rw [baresS]
      cases i with
      | zero => rfl
      | succ i => exact ih i (by simpa using h)
  rw [List.take_add_one, e l i h]; rfl
theorem bare_group {op text : Bytes} {k : NTree} (h : op = oGroup) : bareS (.mk op text [k]) = bareS k := by
  rw [bareS, if_pos ⟨h, rfl⟩, baresS, baresS]; rfl
theorem bare_other {n : NTree} (h : ¬ (n.op = oGroup ∧ n.kids.length = 1)) : bareS n = .mk n.op n.text (baresS n.kids) := by
  cases n with
  | mk op text kids => rw [bareS]; exact if_neg h
section
variable {env : Env} {args : List AV} {σ0 σ τ : AS} {K : AV → AS → Prop} {X : PV → AS → Prop} {L Y M : Objs}
def T_zBare (m : Nat) : Tr := fun args σ K _ => ∃ n : NTree, args = [nodeAV n] ∧ depthN n < m ∧ okN n ∧ ∀ σ', σ.sub σ' → K (nodeAV (bareS n)) σ'
theorem ldFld2 {t : Nat} {a b v : AV} {w : Option TypeId} {K : AV → Prop} (hg : σ t = some (.cells [a, b, v] w)) (hK : K v) : loadD PS σ 35 (.addr t (0 + 2)) K := by
  rw [ldA T.hT35 T.ag35, hg, ldM_cells]
  exact ⟨v, rfl, hK⟩
theorem appG {v x : AV} {a r : List NTree} (G : RowFN v M a) (h : Sep σ0 σ (Y ++ M)) (hs : shown PS σ 39 x = some (r.length, flatN r)) (hb : a.length + r.length ≤ 1000000)
    (hK : ∀ v' M' σ', RowFN v' M' (a ++ r) → Sep σ0 σ' (Y ++ M') → K v' σ') : appendD PS false σ 35 v x K := by
  obtain ⟨q1, q2, z, q3, q4⟩ := rowTN
  have hlr : (flatN r).length = r.length * szOf PS 39 := by rw [flatN_len, T.sz39]
  rcases Nat.eq_zero_or_pos r.length with h0 | h0
  · have e : r = [] := List.eq_nil_of_length_eq_zero h0
    subst e
    rw [List.append_nil] at hK
    have hc : appendCore PS false σ 39 0 (flatN []) v K := by
      rcases G with G | ⟨rfl, rfl⟩
      · rcases G.2 with ⟨rfl, rfl, g3, g4⟩ | ⟨id, mk, rfl, rfl⟩
        · simp only [appendCore, if_true]; exact hK _ _ _ (.inl G) h
        · simp only [appendCore, if_true]; exact hK _ _ _ (.inl G) h
      · simp only [appendCore, if_true]; exact hK _ _ _ (.inr ⟨rfl, rfl⟩) h
    simp only [appendD, q1, q2, q3, q4, hs, true_and]
    exact ⟨hlr, hc⟩
  · have e1 : flatN (a ++ r) = flatN a ++ flatN r := flatN_app a r
    have hl : (a ++ r).length = a.length + r.length := List.length_append
    rcases G with G | ⟨rfl, rfl⟩
    · refine G.append h rowTN hs hlr h0 (by rw [T.by39]; omega) (by omega) ?_
      intro v' L' σ' g1 g2
      exact hK v' L' σ' (.inl (by rw [hl, e1]; exact g1)) g2
    · have hne : r.length ≠ 0 := by omega
      simp only [appendD, appendCore, q1, q2, q3, q4, hs, true_and, hne, if_false]
      refine ⟨hlr, by rw [flatN_len, T.sz39], by rw [T.by39]; omega, by omega, ?_⟩
      simp only [newRowD, Bool.false_eq_true, if_false, toPVs_pv]
      intro id hid
      have h5 := h.alloc hid (.front (a.length + r.length) (szOf PS 39) (some 39))
      refine hK _ [(id, .front (a.length + r.length) (szOf PS 39) (some 39))] _ (.inl ⟨?_, .inr ⟨id, some 39, ?_, ?_⟩⟩) ?_
      · rw [flatN_len, T.sz39]
      · rw [e1, hl]
      · rw [hl]
      · refine h5.perm ?_
        simpa using List.perm_append_comm (l₁ := [(id, AObj.front (a.length + r.length) (szOf PS 39) (some 39))]) (l₂ := Y)
theorem RowFN.cells1 {v : AV} {a : List NTree} (h : RowFN v M a) : v.cells = [v] ∧ v.cellOk = true := by
  rcases h with h | ⟨rfl, _⟩
  · exact ⟨h.cells, h.cellOk⟩
  · exact ⟨rfl, rfl⟩
theorem ldN2 {t : Nat} {w : Option TypeId} {n : NTree} {K : AV → Prop} (hg : σ t = some (.cells ((nodeCells n).map .pv) w)) (hK : K (nodeAV n)) : loadD PS σ 39 (.addr t 0) K := by rw [ldN' hg]; exact hK
theorem bare_call {m : Nat} (h : env 22 = T_zBare m) {k : NTree} (hd : depthN k < m) (hok : okN k) (hK : ∀ σ', σ.sub σ' → K (nodeAV (bareS k)) σ') : env 22 [nodeAV k] σ K X := by
  rw [h]; exact ⟨k, rfl, hd, hok, hK⟩
theorem stFld {A B : Objs} {t : Nat} {a b v v' : AV} {w : Option TypeId} {KS : AS → Prop} (hS : Sep σ0 σ (A ++ (t, .cells [a, b, v] w) :: B)) (hv : v'.cells = [v'] ∧ v'.cellOk = true)
    (hK : ∀ σ', Sep σ0 σ' (A ++ (t, .cells [a, b, v'] w) :: B) → KS σ') : storeD PS σ 35 (.addr t (0 + 2)) v' KS := by
  have hg : σ t = some (.cells [a, b, v] w) := hS.get (by simp)
  rw [stA T.hT35 T.sz35 hv.1 hv.2, hg, stM_cells]
  exact ⟨by simp, hK _ (Sep.set hS _)⟩
theorem bldN2 {a b : Bytes} {K : AV → Prop} : buildD PS 39 [(0, .pv (.str a)), (1, .pv (.str b))] K = K (.agg [.pv (.str a), .pv (.str b), .nilS]) := by
  simp [buildD, buildFill, go_sem, AV.cells, AV.cellOk, setAll]
theorem ldM2 {t : Nat} {a b v : AV} {w : Option TypeId} {K : AV → Prop} (hg : σ t = some (.cells [a, b, v] w)) (hK : K v) : ldM (σ t) 2 K := by
  rw [hg, ldM_cells]; exact ⟨v, rfl, hK⟩
theorem T_zBare_ok {m : Nat} (h1 : env 22 = T_zBare m) (h : T_zBare (m + 1) args σ K X) : bodyD PS env an22 Tryd.f22 args σ K X := by
  obtain ⟨n, rfl, hd, hok, hK⟩ := h
  rw [← S22_eq env, S22]
  simp only [lock_eq]
  refine box_N ?_
  intro t1 σ1 hS
  refine alloc_of T.zo39 rfl (fun t2 ht2 => ?_)
  have hS := hS.alloc ht2 (.cells zeroN (some 39))
  refine lp22_1 (fun (a : NTree) _ => depthN a) (fun a τ => Sep σ τ [(t2, .cells zeroN (some 39)), (t1, .cells [.pv (.str a.op), .pv (.str a.text), .pv (.lst a.kids.length (flatN a.kids))] none)] ∧ bareS a = bareS n ∧ depthN a < m + 1 ∧ okN a) n ⟨hS, rfl, hd, hok⟩ ?_
  clear hS hok hd
  rintro c τ ⟨hS, hb, hd, hok⟩
  have hkk := okN_kids hok
  have hkl := hkk.1
  have hg := hS.get (i := t1) (o := .cells [.pv (.str c.op), .pv (.str c.text), .pv (.lst c.kids.length (flatN c.kids))] none) (by simp)
  unfold L22_1
  simp (disch := omega) only [lock_eq, T.fa39_0, T.fa39_2, T.ld9, T.ld35, hg, ldM_cells, Nat.zero_add, List.getElem?_cons_zero, List.getElem?_cons_succ, someEx, bin_seql, beqD, guard_true, T.lnl35, bin_eql, cond_bool]
  have j3 : ¬ (c.op = oGroup ∧ c.kids.length = 1) → J22_3 env (.addr t1 0) (.addr t2 0) τ K X := by
    intro hn
    rw [bare_other hn] at hb
    rw [depthN_kids] at hd
    unfold J22_3
    simp (disch := omega) only [lock_eq, T.fa39_0, T.fa39_1, T.fa39_2, T.ld9, hg, ldM_cells, Nat.zero_add, List.getElem?_cons_zero, List.getElem?_cons_succ, someEx]
    rw [bldN2]
    refine alloc_of T.zo39 rfl (fun t3 ht3 => ?_)
    have hS := hS.alloc ht3 (.cells zeroN (some 39))
    have hz : (τ.set t3 (.cells zeroN (some 39))) t3 = some (.cells [.pv (.str []), .pv (.str []), .nilS] (some 39)) := set_same _ _ _
    show storeD PS (τ.set t3 (.cells zeroN (some 39))) _ _ _ _
    rw [storeD]
    simp only [hz]
    refine ⟨T.hT39, by rw [T.sz39]; rfl, rfl, Nat.le_refl _, ?_⟩
    have hS : Sep σ ((τ.set t3 (.cells zeroN (some 39))).set t3 (.cells (setAll [.pv (.str []), .pv (.str []), .nilS] 0 (AV.agg [.pv (.str c.op), .pv (.str c.text), .nilS]).cells) (some 39))) ([(t3, .cells [.pv (.str c.op), .pv (.str c.text), .nilS] (some 39)), (t2, .cells zeroN (some 39)), (t1, .cells [.pv (.str c.op), .pv (.str c.text), .pv (.lst c.kids.length (flatN c.kids))] none)] ++ []) := hS.set1 _
    generalize ((τ.set t3 (.cells zeroN (some 39))).set t3 (.cells (setAll [.pv (.str []), .pv (.str []), .nilS] 0 (AV.agg [.pv (.str c.op), .pv (.str c.text), .nilS]).cells) (some 39))) = τ3 at hS ⊢
    have hg1 : τ3 t1 = some (.cells [.pv (.str c.op), .pv (.str c.text), .pv (.lst c.kids.length (flatN c.kids))] none) := hS.get (by simp)
    refine ldFld2 (t := t1) hg1 ?_
    simp only [T.lnl35]
    refine lp22_5 (fun (a : Nat) _ => c.kids.length - a) (fun i τ => i ≤ c.kids.length ∧ ∃ v M, RowFN v M ((baresS c.kids).take i) ∧ Sep σ τ ([(t3, .cells [.pv (.str c.op), .pv (.str c.text), v] (some 39)), (t2, .cells zeroN (some 39)), (t1, .cells [.pv (.str c.op), .pv (.str c.text), .pv (.lst c.kids.length (flatN c.kids))] none)] ++ M)) (fun i => .pv (.int .i64 (i : Nat))) 0 ⟨Nat.zero_le _, .nilS, [], .inl (by rw [List.take_zero, flatN]; exact RowV.nil PS 39), hS⟩ ?_
    clear hS hg hg1 hz
    rintro i τ ⟨hi, v, M, hR, hS⟩
    have hlt : ((baresS c.kids).take i).length = i := by rw [List.length_take, bares_len]; omega
    unfold L22_5
    simp (disch := omega) only [lock_eq, go_sem]
    refine iteI (fun g => ?_) (fun g => ?_)
    · have hld : ∀ σ K, loadD PS σ 39 (.elemP (flatN c.kids) (i * 3)) K = K (nodeAV c.kids[i]) := by
        intro σ K
        rw [load_elemA T.hT39 T.ag39, T.sz39, flatN_get c.kids i g]
        exact propext ⟨fun h => h.2, fun h => ⟨by rw [flatN_len]; omega, h⟩⟩
      have hdk : depthN c.kids[i] < m := by have := depthNs_mem g; omega
      have hokk := okNs_mem hkk.2 i g
      have htk := bares_take c.kids g
      simp only [node_ix g, hld]
      generalize c.kids[i] = k at hdk hokk htk
      refine var_N hS (fun t5 σ5 hS => ?_)
      have hS : Sep σ σ5 ([(t5, .cells ((nodeCells k).map .pv) (some 39)), (t3, .cells [.pv (.str c.op), .pv (.str c.text), v] (some 39)), (t2, .cells zeroN (some 39)), (t1, .cells [.pv (.str c.op), .pv (.str c.text), .pv (.lst c.kids.length (flatN c.kids))] none)] ++ M) := hS
      have hdepth : ((baresS c.kids).take i).length + [bareS k].length ≤ 1000000 := by rw [hlt]; simp; omega
      repeat' first
        | exact trivial
        | with_reducible refine And.intro ?_ ?_
        | refine ldN2 (hS.get (i := t5) (o := .cells ((nodeCells k).map .pv) (some 39)) (by simp)) ?_
        | refine ldM2 (t := t3) (hS.get (i := t3) (o := .cells [.pv (.str c.op), .pv (.str c.text), v] (some 39)) (by simp)) ?_
        | (refine bare_call h1 hdk hokk (fun σ6 hs6 => ?_); have hS := upS hS hs6)
        | rw [rowN1]
        | refine appG (Y := [_, _, _, _]) (r := [bareS k]) hR hS rfl hdepth (fun v' M' σ7 hR hS => ?_)
        | refine stFld (A := [_]) hS hR.cells1 (fun σ8 hS => ?_)
        | (rw [← htk] at hR; exact back (i + 1) rfl (by omega) ⟨g, v', M', hR, hS.drop⟩)
    · have e : i = c.kids.length := by omega
      have et : (baresS c.kids).take i = baresS c.kids := List.take_of_length_le (by rw [bares_len]; omega)
      rw [et] at hR
      have hg3 : τ t3 = some (.cells [.pv (.str c.op), .pv (.str c.text), v] (some 39)) := hS.get (by simp)
      have hg2 : τ t2 = some (.cells zeroN (some 39)) := hS.get (by simp)
      rw [load_addrA T.hT39 T.ag39 hg3, T.sz39]
      refine ⟨Nat.le_refl _, ?_⟩
      show storeD PS τ 39 (.addr t2 0) (.agg [.pv (.str c.op), .pv (.str c.text), v]) _
      rw [storeD]
      simp only [hg2]
      have hcv : (AV.agg [.pv (.str c.op), .pv (.str c.text), v]).cells = [.pv (.str c.op), .pv (.str c.text), v] := rfl
      rw [hcv]
      refine ⟨T.hT39, by rw [T.sz39]; rfl, by show (true && (true && (v.cellOk && true))) = true; rw [hR.cells1.2]; rfl, Nat.le_refl _, ?_⟩
      have hs2 : (τ.set t2 (.cells (setAll zeroN 0 [.pv (.str c.op), .pv (.str c.text), v]) (some 39))) t2 = some (.cells [.pv (.str c.op), .pv (.str c.text), v] (some 39)) := set_same _ _ _
      have hS5 := Sep.set (l1 := [_]) hS (.cells (setAll zeroN 0 [.pv (.str c.op), .pv (.str c.text), v]) (some 39))
      rw [load_addrA T.hT39 T.ag39 hs2, T.sz39]
      refine ⟨Nat.le_refl _, ?_⟩
      refine ⟨nodeAV (bareS n), _, .inr ?_, sub_refl _, hK _ hS5.sub⟩
      rw [← hb, nodeAV_eq]
      exact ⟨.inl rfl, .inl rfl, .inr ⟨_, hR.toPV, rfl⟩, trivial⟩
  refine iteI (fun g1 => ?_) (fun g1 => ?_)
  · refine iteI (fun g2 => ?_) (fun g2 => ?_)
    · have hop : c.op = oGroup := of_decide_eq_true g1
      have hl1 : c.kids.length = 1 := by
        have := eq_of_beq g2
        omega
      have hk : ∃ k, c.kids = [k] := by
        match c.kids, hl1 with
        | [k], _ => exact ⟨k, rfl⟩
      obtain ⟨k, hk⟩ := hk
      unfold J22_2
      simp (disch := omega) only [lock_eq, T.fa39_2, T.ld35, hg, ldM_cells, Nat.zero_add, List.getElem?_cons_zero, List.getElem?_cons_succ, someEx]
      rw [hk]
      have x0 : ∀ K : AV → Prop, indexAddrD PS 35 (.pv (.lst [k].length (flatN [k]))) (.pv (.int .i64 0)) K = K (.elemP (flatN [k]) 0) := fun K => node_ix (a := [k]) (i := 0) (by simp)
      have hld : ∀ σ K, loadD PS σ 39 (.elemP (flatN [k]) 0) K = K (nodeAV k) := by
        intro σ K
        have e := flatN_get [k] 0 (by simp)
        rw [Nat.zero_mul, List.drop_zero] at e
        rw [load_elemA T.hT39 T.ag39, T.sz39, List.drop_zero, e]
        exact propext ⟨fun h => h.2, fun h => ⟨by rw [flatN_len]; simp, h⟩⟩
      simp only [x0, hld]
      rw [storeD]
      simp only [hg]
      refine ⟨T.hT39, by rw [T.sz39]; exact node_len _, node_ok _, by rw [node_len]; exact Nat.le_refl _, ?_⟩
      have e1 : setAll [.pv (.str c.op), .pv (.str c.text), .pv (.lst c.kids.length (flatN c.kids))] 0 (nodeAV k).cells = [.pv (.str k.op), .pv (.str k.text), .pv (.lst k.kids.length (flatN k.kids))] := by rw [nodeCellsD]; rfl
      rw [e1]
      have hS2 := Sep.set (l1 := [_]) (l2 := []) hS (.cells [.pv (.str k.op), .pv (.str k.text), .pv (.lst k.kids.length (flatN k.kids))] none)
      have hdk : depthN k < depthN c := by
        rw [depthN_kids c, hk, depthNs, depthNs]; omega
      refine back k rfl hdk ⟨hS2, ?_, by omega, ?_⟩
      · rw [← hb]
        cases c with
        | mk op text kids =>
          have hk : kids = [k] := hk
          rw [hk]; exact (bare_group hop).symm
      · have := hkk.2
        rw [hk, okNs] at this
        exact this.1
    · exact j3 (fun h => g2 (by rw [h.2]; rfl))
  · exact j3 (fun h => g1 (by rw [h.1]; rfl))
theorem F_zBare (hm : HM) : ∀ m : Nat, SoundF PS 22 (T_zBare m)
  | 0 => by
    rintro w0 hS ρ σ w args us K X H hr ⟨a, _, h, _⟩
    exact absurd h (Nat.not_lt_zero _)
  | m + 1 => body_sound hm (EnvOk.add (env0_ok PS) (F_zBare hm m)) an22 Tryd.func22 Tryd.call22 S22_ok (fun args σ K X h => T_zBare_ok rfl h)
end
end Go.AD.Lx

/- syntax: Show: its plain spec; its closures. -/
set_option linter.unusedVariables false
set_option linter.unusedSimpArgs false
set_option maxRecDepth 100000
namespace Go.AD.Lx
open Go.Proofs RowKit
def joinS : List Bytes → Bytes
  | [] => []
  | x :: l => x ++ l.flatMap fun y => [44, 32] ++ y
theorem join_snoc (l : List Bytes) (x : Bytes) : joinS (l ++ [x]) = (if 0 < l.length then joinS l ++ [44, 32] else joinS l) ++ x := by
  cases l with
  | nil => simp [joinS]
  | cons y l => simp [joinS, List.flatMap_append]
theorem join_len : ∀ (l : List Bytes) (i : Nat), (joinS (l.take i)).length ≤ (joinS l).length
  | [], i => by simp
  | x :: l, 0 => by simp [joinS]
  | x :: l, i + 1 => by
    have e : l.flatMap (fun y => [44, 32] ++ y) = (l.take i).flatMap (fun y => [44, 32] ++ y) ++ (l.drop i).flatMap (fun y => [44, 32] ++ y) := by
      rw [← List.flatMap_append, List.take_append_drop]
    rw [List.take_succ_cons, joinS, joinS, e]
    simp only [List.length_append]
    omega
def parS (l : List Bytes) (i : Nat) : Bytes := [40] ++ l.getD i [] ++ [41]
/-- What Show tells of a tree, of what it tells of its parts. -/
def showOp (op text : Bytes) (l : List Bytes) : Bytes :=
  if op = kNum ∨ op = oVar then text
  else if op = kStr then quoteS text
  else if op = kEre then [47] ++ slashesS text ++ [47]
  else if op = oElem then text ++ [91] ++ joinS l ++ [93]
  else if op = oCall then text ++ [40] ++ joinS l ++ [41]
  else if op = kBuilt then (if l.length = 0 ∧ text = sLength then [108, 101, 110, 103, 116, 104, 40, 41] else text ++ [40] ++ joinS l ++ [41])
  else if op = oGroup then l.getD 0 []
  else if op = oField then [36] ++ parS l 0
  else if op = oUnary then text ++ parS l 0
  else if op = oBin then parS l 0 ++ [32] ++ (if text = oCat then [] else text) ++ [32] ++ parS l 1
  else if op = oCond then parS l 0 ++ [32, 63, 32] ++ parS l 1 ++ [32, 58, 32] ++ parS l 2
  else if op = oAssign then l.getD 0 [] ++ [32] ++ text ++ [32] ++ parS l 1
  else if op = oPre then text ++ l.getD 0 []
  else if op = oPost then l.getD 0 [] ++ text
  else if op = wIn then [40] ++ joinS l ++ [41, 32, 105, 110, 32] ++ text
  else []
mutual
def showS : NTree → Bytes
  | .mk op text kids => showOp op text (showsS kids)
def showsS : List NTree → List Bytes
  | [] => []
  | k :: ks => showS k :: showsS ks
end
theorem shows_len : ∀ l : List NTree, (showsS l).length = l.length
  | [] => rfl
  | k :: ks => by rw [showsS, List.length_cons, shows_len ks, List.length_cons]
theorem shows_get : ∀ (l : List NTree) (i : Nat) (h : i < l.length), (showsS l)[i]? = some (showS l[i])
  | k :: ks, 0, _ => by rw [showsS]; rfl
  | k :: ks, i + 1, h => by rw [showsS]; exact shows_get ks i (by simpa using h)
theorem shows_take (l : List NTree) {i : Nat} (h : i < l.length) : (showsS l).take (i + 1) = (showsS l).take i ++ [showS l[i]] := by
  rw [List.take_add_one, shows_get l i h]; rfl
/-- How many kids a tree must have to be shown. -/
def wantK (op : Bytes) : Nat :=
  if op = oGroup ∨ op = oField ∨ op = oUnary ∨ op = oPre ∨ op = oPost then 1 else if op = oBin ∨ op = oAssign then 2 else if op = oCond then 3 else 0
mutual
/-- Trees that may be shown. -/
def ShowOk : NTree → Prop
  | .mk op text kids => wantK op ≤ kids.length ∧ kids.length ≤ 1000000 ∧ text.length ≤ 13000 ∧ (showS (.mk op text kids)).length ≤ 1000000 ∧ ShowOks kids
def ShowOks : List NTree → Prop
  | [] => True
  | k :: ks => ShowOk k ∧ ShowOks ks
end
theorem ShowOks_mem : ∀ {l : List NTree}, ShowOks l → ∀ (i : Nat) (h : i < l.length), ShowOk l[i]
  | n :: l, h, 0, _ => by rw [ShowOks] at h; exact h.1
  | n :: l, h, i + 1, hi => by rw [ShowOks] at h; exact ShowOks_mem h.2 i (by simpa using hi)
theorem ShowOk_of {n : NTree} (h : ShowOk n) : wantK n.op ≤ n.kids.length ∧ n.kids.length ≤ 1000000 ∧ n.text.length ≤ 13000 ∧ (showS n).length ≤ 1000000 ∧ ShowOks n.kids := by cases n; rw [ShowOk] at h; exact h
section
variable {env : Env} {args : List AV} {σ0 σ τ : AS} {K : AV → AS → Prop} {X : PV → AS → Prop} {L Y M : Objs}
def T_zShow (m : Nat) : Tr := fun args σ K _ => ∃ n : NTree, args = [nodeAV n] ∧ depthN n < m ∧ ShowOk n ∧ ∀ σ', σ.sub σ' → K (.pv (.str (showS n))) σ'
theorem show_call {m : Nat} (h : env 20 = T_zShow m) {k : NTree} (hd : depthN k < m) (hok : ShowOk k) (hK : ∀ σ', σ.sub σ' → K (.pv (.str (showS k))) σ') : env 20 [nodeAV k] σ K X := by
  rw [h]; exact ⟨k, rfl, hd, hok, hK⟩
/-- Show$2: a list. -/
def T_zShow2 (m : Nat) : Tr := fun args σ K _ => ∃ l : List NTree, args = [.pv (.lst l.length (flatN l))] ∧ depthNs l < m ∧ l.length ≤ 1000000 ∧ ShowOks l ∧ (joinS (showsS l)).length ≤ 1000000 ∧ ∀ σ', σ.sub σ' → K (.pv (.str (joinS (showsS l)))) σ'
theorem T_zShow2_ok {m : Nat} (h1 : env 20 = T_zShow m) (h : T_zShow2 m args σ K X) : bodyD PS env an36 Tryd.f36 args σ K X := by
  obtain ⟨l, rfl, hd, hl, hok, hj, hK⟩ := h
  rw [← S36_eq env, S36]
  simp only [lock_eq, T.lnl35]
  refine lp36_3 (fun (i : Nat) _ => l.length - i) (fun i τ => σ.sub τ ∧ i ≤ l.length) (fun i => .pv (.str (joinS ((showsS l).take i)))) (fun i => .pv (.int .i64 (i : Nat))) 0 ⟨sub_refl _, Nat.zero_le _⟩ ?_
  rintro i τ ⟨hs, hi⟩
  unfold L36_3
  simp (disch := omega) only [lock_eq, go_sem]
  refine iteI (fun g => ?_) (fun g => ?_)
  · have hld : ∀ σ K, loadD PS σ 39 (.elemP (flatN l) (i * 3)) K = K (nodeAV l[i]) := by
      intro σ K
      rw [load_elemA T.hT39 T.ag39, T.sz39, flatN_get l i g]
      exact propext ⟨fun h => h.2, fun h => ⟨by rw [flatN_len]; omega, h⟩⟩
    have hdk : depthN l[i] < m := by have := depthNs_mem g; omega
    have hokk := ShowOks_mem hok i g
    have htk := shows_take l g
    have hj1 := join_len (showsS l) i
    have hj2 := join_len (showsS l) (i + 1)
    have hsl := (ShowOk_of hokk).2.2.2.1
    have hlen : ((showsS l).take i).length = i := by rw [List.length_take, shows_len]; omega
    simp only [node_ix g, hld]
    generalize l[i] = k at hdk hokk htk hsl
    rw [htk, join_snoc, hlen] at hj2
    refine var_N (Sep.start τ) (fun t8 σ3 hS3 => ?_)
    have hg8 := hS3.get (i := t8) (List.mem_cons.2 (.inl rfl))
    have j7 : ∀ p : Bytes, p = (if 0 < i then joinS ((showsS l).take i) ++ [44, 32] else joinS ((showsS l).take i)) → p.length ≤ 2000000 →
        J36_7 env (Inv (fun i : Nat => [.pv (.str (joinS ((showsS l).take i))), AV.pv (.lst l.length (flatN l)), .pv (.int .i64 (l.length : Nat)), .pv (.int .i64 (i : Nat))]) (fun i _ => l.length - i) (fun i τ => σ.sub τ ∧ i ≤ l.length)) (l.length - i) (.pv (.str p)) (.addr t8 0) (.pv (.lst l.length (flatN l))) (.pv (.int .i64 (l.length : Nat))) (.pv (.int .i64 (i : Nat))) σ3 K X := by
      intro p hp hpl
      unfold J36_7
      simp only [lock_eq]
      rw [ldN' hg8]
      refine show_call h1 hdk hokk (fun σ4 hs4 => ?_)
      simp (disch := omega) only [go_sem]
      refine ⟨by omega, ?_⟩
      refine back (i + 1) ?_ (by omega) ⟨AS.sub_trans hs (AS.sub_trans hS3.sub hs4), g⟩
      rw [htk, join_snoc, hlen, ← hp]
    refine iteI (fun g2 => ?_) (fun g2 => ?_)
    · refine ⟨by simp; omega, ?_⟩
      exact j7 _ (by rw [if_pos g2]) (by simp; omega)
    · exact j7 _ (by rw [if_neg g2]) (by omega)
  · have e : (showsS l).take i = showsS l := List.take_of_length_le (by rw [shows_len]; omega)
    rw [e]
    exact retV_self (hK _ hs)
/-- The box in which the shown tree lies. -/
def boxN (t : Nat) (n : NTree) : Nat × AObj := (t, .cells [.pv (.str n.op), .pv (.str n.text), .pv (.lst n.kids.length (flatN n.kids))] none)
/-- Show$1: a part in parentheses. -/
def T_zShow1 (m : Nat) : Tr := fun args σ K _ => ∃ (σ0 : AS) (t i : Nat) (n : NTree), args = [.pv (.int .i64 (i : Nat)), .addr t 0] ∧ Sep σ0 σ [boxN t n] ∧ i < n.kids.length ∧ depthNs n.kids < m ∧ n.kids.length ≤ 1000000 ∧ ShowOks n.kids ∧ ∀ σ', σ.sub σ' → K (.pv (.str (parS (showsS n.kids) i))) σ'
theorem T_zShow1_ok {m : Nat} (h1 : env 20 = T_zShow m) (h : T_zShow1 m args σ K X) : bodyD PS env an35 Tryd.f35 args σ K X := by
  obtain ⟨σ0, t, i, n, rfl, hS, hi, hd, hl, hok, hK⟩ := h
  rw [← S35_eq env, S35]
  have hg : σ t = some (.cells [.pv (.str n.op), .pv (.str n.text), .pv (.lst n.kids.length (flatN n.kids))] none) := hS.get (by simp [boxN])
  have hld : ∀ σ K, loadD PS σ 39 (.elemP (flatN n.kids) (i * 3)) K = K (nodeAV n.kids[i]) := by
    intro σ K
    rw [load_elemA T.hT39 T.ag39, T.sz39, flatN_get n.kids i hi]
    exact propext ⟨fun h => h.2, fun h => ⟨by rw [flatN_len]; omega, h⟩⟩
  have hdk : depthN n.kids[i] < m := by have := depthNs_mem hi; omega
  have hokk := ShowOks_mem hok i hi
  have hsl := (ShowOk_of hokk).2.2.2.1
  have hx : (showsS n.kids).getD i [] = showS n.kids[i] := by rw [List.getD_eq_getElem?_getD, shows_get n.kids i hi]; rfl
  unfold parS at hK
  rw [hx] at hK
  simp (disch := omega) only [lock_eq, T.fa39_2, T.ld35, hg, ldM_cells, Nat.zero_add, List.getElem?_cons_zero, List.getElem?_cons_succ, someEx, node_ix hi, hld]
  refine show_call h1 hdk hokk (fun σ4 hs4 => ?_)
  simp (disch := omega) only [go_sem]
  refine ⟨by simp; omega, by simp; omega, ?_⟩
  exact retV_self (hK _ hs4)
/-- Show$3: a place. -/
def T_zShow3 (m : Nat) : Tr := fun args σ K _ => ∃ n : NTree, args = [nodeAV n] ∧ depthN n < m ∧ ShowOk n ∧ ∀ σ', σ.sub σ' → K (.pv (.str (showS n))) σ'
theorem T_zShow3_ok {m : Nat} (h1 : env 20 = T_zShow m) (h : T_zShow3 m args σ K X) : bodyD PS env an37 Tryd.f37 args σ K X := by
  obtain ⟨n, rfl, hd, hok, hK⟩ := h
  rw [← S37_eq env, S37]
  simp only [lock_eq]
  refine box_N ?_
  intro t1 σ1 hS
  have hg := hS.get (i := t1) (o := .cells ((nodeCells n).map .pv) none) (by rw [nodeCells_eq]; simp)
  refine ldN2 hg ?_
  refine show_call h1 hd hok (fun σ4 hs4 => ?_)
  exact retV_self (hK _ (AS.sub_trans hS.sub hs4))
end
end Go.AD.Lx

/- syntax: Show walked. -/
set_option linter.unusedVariables false
set_option linter.unusedSimpArgs false
set_option maxRecDepth 100000
namespace Go.AD.Lx
open Go.Proofs RowKit
section
variable {env : Env} {args : List AV} {σ0 σ τ : AS} {K : AV → AS → Prop} {X : PV → AS → Prop} {L Y M : Objs} {t m : Nat} {n : NTree}
theorem ldTx {K : AV → Prop} (hS : Sep σ0 σ [boxN t n]) (hK : K (.pv (.str n.text))) : loadD PS σ 9 (.addr t (0 + 1)) K := by
  have hg : σ t = some (.cells [.pv (.str n.op), .pv (.str n.text), .pv (.lst n.kids.length (flatN n.kids))] none) := hS.get (by simp [boxN])
  rw [ldA T.hT9 T.ag9, hg, ldM_cells]
  exact ⟨_, rfl, hK⟩
theorem ldKx {K : AV → Prop} (hS : Sep σ0 σ [boxN t n]) (hK : K (.pv (.lst n.kids.length (flatN n.kids)))) : loadD PS σ 35 (.addr t (0 + 2)) K := by
  have hg : σ t = some (.cells [.pv (.str n.op), .pv (.str n.text), .pv (.lst n.kids.length (flatN n.kids))] none) := hS.get (by simp [boxN])
  rw [ldA T.hT35 T.ag35, hg, ldM_cells]
  exact ⟨_, rfl, hK⟩
theorem ixK0 {l : List NTree} (h : 0 < l.length) {K : AV → Prop} (hK : K (.elemP (flatN l) (0 * 3))) : indexAddrD PS 35 (.pv (.lst l.length (flatN l))) (.pv (.int .i64 0)) K := by
  have e : indexAddrD PS 35 (.pv (.lst l.length (flatN l))) (.pv (.int .i64 0)) K = K (.elemP (flatN l) (0 * 3)) := node_ix (i := 0) h
  rw [e]; exact hK
theorem ldE0 {l : List NTree} (h : 0 < l.length) {K : AV → Prop} (hK : K (nodeAV l[0])) : loadD PS σ 39 (.elemP (flatN l) (0 * 3)) K := by
  rw [load_elemA T.hT39 T.ag39, T.sz39, flatN_get l 0 h]
  exact ⟨by rw [flatN_len]; omega, hK⟩
theorem addS {a b : Bytes} {K : AV → Prop} (h : a.length + b.length ≤ 9223372036854775807) (hK : K (.pv (.str (a ++ b)))) : binD PS .add 9 (.pv (.str a)) (.pv (.str b)) K := by
  have e : binD PS .add 9 (.pv (.str a)) (.pv (.str b)) K = (a.length + b.length ≤ 9223372036854775807 ∧ K (.pv (.str (a ++ b)))) := by simp [binD, strOp]
  rw [e]; exact ⟨h, hK⟩
structure SE (env : Env) (m : Nat) : Prop where
  show' : env 20 = T_zShow m
  in' : env 35 = T_zShow1 m
  list : env 36 = T_zShow2 m
  put : env 37 = T_zShow3 m
  quote : env 38 = T_quote6
  slash : env 39 = T_slashes6
theorem list_call (E : SE env m) {l : List NTree} (hd : depthNs l < m) (hl : l.length ≤ 1000000) (hok : ShowOks l) (hj : (joinS (showsS l)).length ≤ 1000000) (hK : ∀ σ', σ.sub σ' → K (.pv (.str (joinS (showsS l)))) σ') : callD env (.pv (.func 36)) [.pv (.lst l.length (flatN l))] σ K X := by
  show env 36 _ _ _ _
  rw [E.list]; exact ⟨l, rfl, hd, hl, hok, hj, hK⟩
theorem putY_call (E : SE env m) {k : NTree} (hd : depthN k < m) (hok : ShowOk k) (hK : ∀ σ', σ.sub σ' → K (.pv (.str (showS k))) σ') : callD env (.pv (.func 37)) [nodeAV k] σ K X := by
  show env 37 _ _ _ _
  rw [E.put]; exact ⟨k, rfl, hd, hok, hK⟩
theorem in_call (E : SE env m) (i : Nat) (hS : Sep σ0 σ [boxN t n]) (hi : i < n.kids.length) (hd : depthNs n.kids < m) (hl : n.kids.length ≤ 1000000) (hok : ShowOks n.kids) (hK : ∀ σ', σ.sub σ' → K (.pv (.str (parS (showsS n.kids) i))) σ') : callD env (.clo 35 [] [.addr t 0]) [.pv (.int .i64 (i : Nat))] σ K X := by
  show env 35 _ _ _ _
  rw [E.in']; exact ⟨σ0, t, i, n, rfl, hS, hi, hd, hl, hok, hK⟩
theorem T_zShow_ok (E : SE env m) (h : T_zShow (m + 1) args σ K X) : bodyD PS env an20 Tryd.f20 args σ K X := by
  obtain ⟨n, rfl, hd, hok, hK⟩ := h
  rw [← S20_eq env, S20]
  simp only [lock_eq]
  refine box_N ?_
  intro t1 σ1 hS
  obtain ⟨hw, hkl, htl, hsl, hoks⟩ := ShowOk_of hok
  rw [depthN_kids] at hd
  have hdk : depthNs n.kids < m := by omega
  have ex : showS n = showOp n.op n.text (showsS n.kids) := by cases n; rw [showS]; rfl
  rw [ex] at hK hsl
  have hS : Sep σ σ1 [boxN t1 n] := hS
  have hg : σ1 t1 = some (.cells [.pv (.str n.op), .pv (.str n.text), .pv (.lst n.kids.length (flatN n.kids))] none) := hS.get (by simp [boxN])
  have hp : ∀ i, i < n.kids.length → (parS (showsS n.kids) i).length ≤ 1000002 := by
    intro i hi
    unfold parS
    have hx : (showsS n.kids).getD i [] = showS n.kids[i] := by rw [List.getD_eq_getElem?_getD, shows_get n.kids i hi]; rfl
    rw [hx]
    have := (ShowOk_of (ShowOks_mem hoks i hi)).2.2.2.1
    simp; omega
  have h0 : ∀ h : 0 < n.kids.length, (showsS n.kids).getD 0 [] = showS n.kids[0] ∧ depthN n.kids[0] < m ∧ ShowOk n.kids[0] ∧ (showS n.kids[0]).length ≤ 1000000 := by
    intro h
    have := depthNs_mem h
    exact ⟨by rw [List.getD_eq_getElem?_getD, shows_get n.kids 0 h]; rfl, by omega, ShowOks_mem hoks 0 h, (ShowOk_of (ShowOks_mem hoks 0 h)).2.2.2.1⟩
  unfold showOp at hK hsl
  simp only [T.fa39_0, T.ld9, hg, ldM_cells, List.getElem?_cons_zero, someEx, bin_seql, cond_bool, Nat.add_zero]
  have j7 : ∀ b, b = decide (n.op = kNum ∨ n.op = oVar) → J20_7 env (.addr t1 0) (.clo 35 [] [.addr t1 0]) (.pv (.func 36)) (.pv (.func 37)) (.pv (.str n.op)) (.pv (.bool b)) σ1 K X := by
    intro b hb
    unfold J20_7
    simp only [lock_eq, cond_bool, bin_seql, T.fa39_1, T.fa39_2]
    refine iteI (fun g => ?_) (fun g => ?_)
    · rw [if_pos (of_decide_eq_true (by rw [← hb]; exact g))] at hK
      exact ldTx hS (retV_self (hK _ hS.sub))
    rw [if_neg (fun h => g (by rw [hb]; exact decide_eq_true h))] at hK hsl
    refine iteI (fun g => ?_) (fun g => ?_)
    · have q : n.op = kStr := eq_of_beq g
      rw [if_pos q] at hK hsl
      refine ldTx hS ?_
      rw [E.quote]
      exact ⟨n.text, rfl, htl, fun σ6 hs6 => retV_self (hK _ (AS.sub_trans hS.sub hs6))⟩
    have qkStr : ¬ n.op = kStr := fun e => g (by rw [e]; rfl)
    rw [if_neg qkStr] at hK hsl
    refine iteI (fun g => ?_) (fun g => ?_)
    · have q : n.op = kEre := eq_of_beq g
      rw [if_pos q] at hK hsl
      refine ldTx hS ?_
      rw [E.slash]
      refine ⟨n.text, rfl, htl, fun σ6 hs6 => ?_⟩
      have hS := upS hS hs6
      have hsl2 := slashes_len n.text
      repeat' first
        | exact trivial
        | with_reducible refine And.intro ?_ ?_
        | refine ldTx hS ?_
        | refine ldKx hS ?_
        | refine addS (by omega) ?_
        | refine addS (by simp only [List.length_append, List.length_cons, List.length_nil]; omega) ?_
        | exact retV_self (hK _ hS.sub)
    have qkEre : ¬ n.op = kEre := fun e => g (by rw [e]; rfl)
    rw [if_neg qkEre] at hK hsl
    refine iteI (fun g => ?_) (fun g => ?_)
    · have q : n.op = oElem := eq_of_beq g
      rw [if_pos q] at hK hsl
      have hj : (joinS (showsS n.kids)).length ≤ 1000000 := by simp only [List.length_append, List.length_cons, List.length_nil] at hsl; omega
      repeat' first
        | exact trivial
        | with_reducible refine And.intro ?_ ?_
        | refine ldTx hS ?_
        | refine ldKx hS ?_
        | (refine list_call E hdk hkl hoks hj (fun σ6 hs6 => ?_); have hS := upS hS hs6)
        | refine addS (by omega) ?_
        | refine addS (by simp only [List.length_append, List.length_cons, List.length_nil]; omega) ?_
        | exact retV_self (hK _ hS.sub)
    have qoElem : ¬ n.op = oElem := fun e => g (by rw [e]; rfl)
    rw [if_neg qoElem] at hK hsl
    refine iteI (fun g => ?_) (fun g => ?_)
    · have q : n.op = oCall := eq_of_beq g
      rw [if_pos q] at hK hsl
      have hj : (joinS (showsS n.kids)).length ≤ 1000000 := by simp only [List.length_append, List.length_cons, List.length_nil] at hsl; omega
      repeat' first
        | exact trivial
        | with_reducible refine And.intro ?_ ?_
        | refine ldTx hS ?_
        | refine ldKx hS ?_
        | (refine list_call E hdk hkl hoks hj (fun σ6 hs6 => ?_); have hS := upS hS hs6)
        | refine addS (by omega) ?_
        | refine addS (by simp only [List.length_append, List.length_cons, List.length_nil]; omega) ?_
        | exact retV_self (hK _ hS.sub)
    have qoCall : ¬ n.op = oCall := fun e => g (by rw [e]; rfl)
    rw [if_neg qoCall] at hK hsl
    refine iteI (fun g => ?_) (fun g => ?_)
    · have q : n.op = kBuilt := eq_of_beq g
      rw [if_pos q] at hK hsl
      have j19 : ¬ ((showsS n.kids).length = 0 ∧ n.text = sLength) → J20_19 env (.addr t1 0) (.pv (.func 36)) σ1 K X := by
        intro hn
        rw [if_neg hn] at hK hsl
        have hj : (joinS (showsS n.kids)).length ≤ 1000000 := by simp only [List.length_append, List.length_cons, List.length_nil] at hsl; omega
        unfold J20_19
        simp only [lock_eq, T.fa39_1, T.fa39_2]
        repeat' first
          | exact trivial
          | with_reducible refine And.intro ?_ ?_
          | refine ldTx hS ?_
          | refine ldKx hS ?_
          | (refine list_call E hdk hkl hoks hj (fun σ6 hs6 => ?_); have hS := upS hS hs6)
          | refine addS (by omega) ?_
          | refine addS (by simp only [List.length_append, List.length_cons, List.length_nil]; omega) ?_
          | exact retV_self (hK _ hS.sub)
      refine ldKx hS ?_
      simp only [T.lnl35, bin_eql, guard_true]
      refine iteI (fun g2 => ?_) (fun g2 => ?_)
      · have z : n.kids.length = 0 := by have := eq_of_beq g2; omega
        refine ldTx hS ?_
        simp only [bin_seql, cond_bool]
        refine iteI (fun g3 => ?_) (fun g3 => ?_)
        · rw [if_pos ⟨by rw [shows_len]; exact z, eq_of_beq g3⟩] at hK
          exact retV_self (hK _ hS.sub)
        · exact j19 (fun h => g3 (by rw [h.2]; rfl))
      · exact j19 (fun h => g2 (by have := h.1; rw [shows_len] at this; rw [this]; rfl))
    have qkBuilt : ¬ n.op = kBuilt := fun e => g (by rw [e]; rfl)
    rw [if_neg qkBuilt] at hK hsl
    refine iteI (fun g => ?_) (fun g => ?_)
    · have q : n.op = oGroup := eq_of_beq g
      rw [if_pos q] at hK hsl
      have hk : 1 ≤ n.kids.length := by rw [q] at hw; exact hw
      have hk0 : 0 < n.kids.length := by omega
      obtain ⟨hx, hd0, hok0, hl0⟩ := h0 hk0
      rw [hx] at hK
      refine ldKx hS ?_
      refine ixK0 hk0 ?_
      refine ldE0 hk0 ?_
      exact show_call E.show' hd0 hok0 (fun σ6 hs6 => retV_self (hK _ (AS.sub_trans hS.sub hs6)))
    have qoGroup : ¬ n.op = oGroup := fun e => g (by rw [e]; rfl)
    rw [if_neg qoGroup] at hK hsl
    refine iteI (fun g => ?_) (fun g => ?_)
    · have q : n.op = oField := eq_of_beq g
      rw [if_pos q] at hK hsl
      have hk : 1 ≤ n.kids.length := by rw [q] at hw; exact hw
      have hp0 := hp 0 (by omega)
      repeat' first
        | exact trivial
        | with_reducible refine And.intro ?_ ?_
        | refine ldTx hS ?_
        | refine ldKx hS ?_
        | (refine in_call E 0 hS (by omega) hdk hkl hoks (fun σ6 hs6 => ?_); have hS := upS hS hs6)
        | refine addS (by omega) ?_
        | refine addS (by simp only [List.length_append, List.length_cons, List.length_nil]; omega) ?_
        | exact retV_self (hK _ hS.sub)
    have qoField : ¬ n.op = oField := fun e => g (by rw [e]; rfl)
    rw [if_neg qoField] at hK hsl
    refine iteI (fun g => ?_) (fun g => ?_)
    · have q : n.op = oUnary := eq_of_beq g
      rw [if_pos q] at hK hsl
      have hk : 1 ≤ n.kids.length := by rw [q] at hw; exact hw
      have hp0 := hp 0 (by omega)
      repeat' first
        | exact trivial
        | with_reducible refine And.intro ?_ ?_
        | refine ldTx hS ?_
        | refine ldKx hS ?_
        | (refine in_call E 0 hS (by omega) hdk hkl hoks (fun σ6 hs6 => ?_); have hS := upS hS hs6)
        | refine addS (by omega) ?_
        | refine addS (by simp only [List.length_append, List.length_cons, List.length_nil]; omega) ?_
        | exact retV_self (hK _ hS.sub)
    have qoUnary : ¬ n.op = oUnary := fun e => g (by rw [e]; rfl)
    rw [if_neg qoUnary] at hK hsl
    refine iteI (fun g => ?_) (fun g => ?_)
    · have q : n.op = oBin := eq_of_beq g
      rw [if_pos q] at hK hsl
      have hk : 2 ≤ n.kids.length := by rw [q] at hw; exact hw
      have hp0 := hp 0 (by omega)
      have hp1 := hp 1 (by omega)
      have j30 : ∀ x : Bytes, x = (if n.text = oCat then [] else n.text) → x.length ≤ 13000 → J20_30 env (.clo 35 [] [.addr t1 0]) (.pv (.str x)) σ1 K X := by
        intro x hxx hxl
        rw [← hxx] at hK
        unfold J20_30
        simp only [lock_eq]
        repeat' first
          | exact trivial
          | with_reducible refine And.intro ?_ ?_
          | refine ldTx hS ?_
          | refine ldKx hS ?_
          | (refine in_call E 0 hS (by omega) hdk hkl hoks (fun σ6 hs6 => ?_); have hS := upS hS hs6)
          | (refine in_call E 1 hS (by omega) hdk hkl hoks (fun σ6 hs6 => ?_); have hS := upS hS hs6)
          | refine addS (by omega) ?_
          | refine addS (by simp only [List.length_append, List.length_cons, List.length_nil]; omega) ?_
          | exact retV_self (hK _ hS.sub)
      refine ldTx hS ?_
      simp only [bin_seql, cond_bool]
      refine iteI (fun g2 => ?_) (fun g2 => ?_)
      · exact j30 [] (by rw [if_pos (show n.text = oCat from eq_of_beq g2)]) (by simp)
      · exact j30 n.text (by rw [if_neg (show ¬ n.text = oCat from fun e => g2 (by rw [e]; rfl))]) htl
    have qoBin : ¬ n.op = oBin := fun e => g (by rw [e]; rfl)
    rw [if_neg qoBin] at hK hsl
    refine iteI (fun g => ?_) (fun g => ?_)
    · have q : n.op = oCond := eq_of_beq g
      rw [if_pos q] at hK hsl
      have hk : 3 ≤ n.kids.length := by rw [q] at hw; exact hw
      have hp0 := hp 0 (by omega)
      have hp1 := hp 1 (by omega)
      have hp2 := hp 2 (by omega)
      repeat' first
        | exact trivial
        | with_reducible refine And.intro ?_ ?_
        | refine ldTx hS ?_
        | refine ldKx hS ?_
        | (refine in_call E 0 hS (by omega) hdk hkl hoks (fun σ6 hs6 => ?_); have hS := upS hS hs6)
        | (refine in_call E 1 hS (by omega) hdk hkl hoks (fun σ6 hs6 => ?_); have hS := upS hS hs6)
        | (refine in_call E 2 hS (by omega) hdk hkl hoks (fun σ6 hs6 => ?_); have hS := upS hS hs6)
        | refine addS (by omega) ?_
        | refine addS (by simp only [List.length_append, List.length_cons, List.length_nil]; omega) ?_
        | exact retV_self (hK _ hS.sub)
    have qoCond : ¬ n.op = oCond := fun e => g (by rw [e]; rfl)
    rw [if_neg qoCond] at hK hsl
    refine iteI (fun g => ?_) (fun g => ?_)
    · have q : n.op = oAssign := eq_of_beq g
      rw [if_pos q] at hK hsl
      have hk : 2 ≤ n.kids.length := by rw [q] at hw; exact hw
      have hp0 := hp 0 (by omega)
      have hp1 := hp 1 (by omega)
      have hk0 : 0 < n.kids.length := by omega
      obtain ⟨hx, hd0, hok0, hl0⟩ := h0 hk0
      rw [hx] at hK
      repeat' first
        | exact trivial
        | with_reducible refine And.intro ?_ ?_
        | refine ldTx hS ?_
        | refine ldKx hS ?_
        | refine ixK0 hk0 ?_
        | refine ldE0 hk0 ?_
        | (refine putY_call E hd0 hok0 (fun σ6 hs6 => ?_); have hS := upS hS hs6)
        | (refine in_call E 1 hS (by omega) hdk hkl hoks (fun σ6 hs6 => ?_); have hS := upS hS hs6)
        | refine addS (by omega) ?_
        | refine addS (by simp only [List.length_append, List.length_cons, List.length_nil]; omega) ?_
        | exact retV_self (hK _ hS.sub)
    have qoAssign : ¬ n.op = oAssign := fun e => g (by rw [e]; rfl)
    rw [if_neg qoAssign] at hK hsl
    refine iteI (fun g => ?_) (fun g => ?_)
    · have q : n.op = oPre := eq_of_beq g
      rw [if_pos q] at hK hsl
      have hk : 1 ≤ n.kids.length := by rw [q] at hw; exact hw
      have hk0 : 0 < n.kids.length := by omega
      obtain ⟨hx, hd0, hok0, hl0⟩ := h0 hk0
      rw [hx] at hK
      repeat' first
        | exact trivial
        | with_reducible refine And.intro ?_ ?_
        | refine ldTx hS ?_
        | refine ldKx hS ?_
        | refine ixK0 hk0 ?_
        | refine ldE0 hk0 ?_
        | (refine putY_call E hd0 hok0 (fun σ6 hs6 => ?_); have hS := upS hS hs6)
        | refine addS (by omega) ?_
        | refine addS (by simp only [List.length_append, List.length_cons, List.length_nil]; omega) ?_
        | exact retV_self (hK _ hS.sub)
    have qoPre : ¬ n.op = oPre := fun e => g (by rw [e]; rfl)
    rw [if_neg qoPre] at hK hsl
    refine iteI (fun g => ?_) (fun g => ?_)
    · have q : n.op = oPost := eq_of_beq g
      rw [if_pos q] at hK hsl
      have hk : 1 ≤ n.kids.length := by rw [q] at hw; exact hw
      have hk0 : 0 < n.kids.length := by omega
      obtain ⟨hx, hd0, hok0, hl0⟩ := h0 hk0
      rw [hx] at hK
      repeat' first
        | exact trivial
        | with_reducible refine And.intro ?_ ?_
        | refine ldTx hS ?_
        | refine ldKx hS ?_
        | refine ixK0 hk0 ?_
        | refine ldE0 hk0 ?_
        | (refine putY_call E hd0 hok0 (fun σ6 hs6 => ?_); have hS := upS hS hs6)
        | refine addS (by omega) ?_
        | refine addS (by simp only [List.length_append, List.length_cons, List.length_nil]; omega) ?_
        | exact retV_self (hK _ hS.sub)
    have qoPost : ¬ n.op = oPost := fun e => g (by rw [e]; rfl)
    rw [if_neg qoPost] at hK hsl
    refine iteI (fun g => ?_) (fun g => ?_)
    · have q : n.op = wIn := eq_of_beq g
      rw [if_pos q] at hK hsl
      have hj : (joinS (showsS n.kids)).length ≤ 1000000 := by simp only [List.length_append, List.length_cons, List.length_nil] at hsl; omega
      repeat' first
        | exact trivial
        | with_reducible refine And.intro ?_ ?_
        | refine ldTx hS ?_
        | refine ldKx hS ?_
        | (refine list_call E hdk hkl hoks hj (fun σ6 hs6 => ?_); have hS := upS hS hs6)
        | refine addS (by omega) ?_
        | refine addS (by simp only [List.length_append, List.length_cons, List.length_nil]; omega) ?_
        | exact retV_self (hK _ hS.sub)
    have qwIn : ¬ n.op = wIn := fun e => g (by rw [e]; rfl)
    rw [if_neg qwIn] at hK hsl
    exact retV_self (hK _ hS.sub)
  refine iteI (fun g => j7 _ (by rw [eq_of_beq g]; rfl)) (fun g => ?_)
  exact j7 _ (by
    have q : ¬ n.op = kNum := fun e => g (by rw [e]; rfl)
    rw [Bool.eq_iff_iff, decide_eq_true_eq]
    exact ⟨fun h => .inr (eq_of_beq h), fun h => h.elim (fun h => absurd h q) (fun h => by rw [h]; rfl)⟩)
theorem F_quote6 (hm : HM) : SoundF PS 38 T_quote6 := body_sound hm (env0_ok PS) an38 Tryd.func38 Tryd.call38 S38_ok (fun args σ K X h => T_quote6_ok h)
theorem F_slashes6 (hm : HM) : SoundF PS 39 T_slashes6 := body_sound hm (env0_ok PS) an39 Tryd.func39 Tryd.call39 S39_ok (fun args σ K X h => T_slashes6_ok h)
theorem F_zShow (hm : HM) : ∀ m : Nat, SoundF PS 20 (T_zShow m)
  | 0 => by
    rintro w0 hS ρ σ w args us K X H hr ⟨a, _, h, _⟩
    exact absurd h (Nat.not_lt_zero _)
  | m + 1 => by
    have E1 := EnvOk.add (EnvOk.add (EnvOk.add (env0_ok PS) (F_quote6 hm)) (F_slashes6 hm)) (F_zShow hm m)
    have G1 := body_sound hm E1 an35 Tryd.func35 Tryd.call35 S35_ok (T := T_zShow1 m) (fun args σ K X h => T_zShow1_ok rfl h)
    have E2 := EnvOk.add E1 G1
    have G2 := body_sound hm E2 an36 Tryd.func36 Tryd.call36 S36_ok (T := T_zShow2 m) (fun args σ K X h => T_zShow2_ok rfl h)
    have E3 := EnvOk.add E2 G2
    have G3 := body_sound hm E3 an37 Tryd.func37 Tryd.call37 S37_ok (T := T_zShow3 m) (fun args σ K X h => T_zShow3_ok rfl h)
    have E4 := EnvOk.add E3 G3
    exact body_sound hm E4 an20 Tryd.func20 Tryd.call20 S20_ok (fun args σ K X h => T_zShow_ok ⟨rfl, rfl, rfl, rfl, rfl, rfl⟩ h)
end
end Go.AD.Lx

/- syntax: SyntaxShown's last part walked. -/
set_option linter.unusedVariables false
set_option linter.unusedSimpArgs false
set_option maxRecDepth 100000
namespace Go.AD.Lx
open Go.Proofs RowKit
section
variable {env : Env} {args : List AV} {σ0 σ τ : AS} {K : AV → AS → Prop} {X : PV → AS → Prop} {m : Nat}
theorem ldE0' {l : List NTree} (h : 0 < l.length) {K : AV → Prop} : loadD PS σ 39 (.elemP (flatN l) 0) K = K (nodeAV l[0]) := by
  have e := flatN_get l 0 h
  rw [Nat.zero_mul, List.drop_zero] at e
  rw [load_elemA T.hT39 T.ag39, T.sz39, List.drop_zero, e]
  exact propext ⟨fun h => h.2, fun h2 => ⟨by rw [flatN_len]; omega, h2⟩⟩
theorem ixK0' {l : List NTree} (h : 0 < l.length) {K : AV → Prop} : indexAddrD PS 35 (.pv (.lst l.length (flatN l))) (.pv (.int .i64 0)) K = K (.elemP (flatN l) 0) := node_ix (i := 0) h
theorem shown_end (h1 : env 22 = T_zBare m) (h3 : env 21 = Tr.wk T_zSameA) {a r : NTree} (ha : 0 < a.kids.length) (hr : 0 < r.kids.length) (da : depthN a.kids[0] < m) (dr : depthN r.kids[0] < m) (oa : okN a.kids[0]) (or' : okN r.kids[0]) (ob : okN (bareS a.kids[0])) (hb : bareS r.kids[0] = bareS a.kids[0]) (hK : ∀ σ', K (.pv (.bool true)) σ') :
    J6_11 env (.pv (.lst [a].length (flatN [a]))) (.pv (.lst [r].length (flatN [r]))) σ K X := by
  have c1 : (flatN [a])[0 + 2]? = some (.lst a.kids.length (flatN a.kids)) := nc2 (a := [a]) (i := 0) (by simp)
  have c2 : (flatN [r])[0 + 2]? = some (.lst r.kids.length (flatN r.kids)) := nc2 (a := [r]) (i := 0) (by simp)
  have x1 : ∀ K : AV → Prop, indexAddrD PS 35 (.pv (.lst [a].length (flatN [a]))) (.pv (.int .i64 0)) K = K (.elemP (flatN [a]) 0) := fun K => ixK0' (l := [a]) (by simp)
  have x2 : ∀ K : AV → Prop, indexAddrD PS 35 (.pv (.lst [r].length (flatN [r]))) (.pv (.int .i64 0)) K = K (.elemP (flatN [r]) 0) := fun K => ixK0' (l := [r]) (by simp)
  have x3 : ∀ K : AV → Prop, indexAddrD PS 35 (.pv (.lst a.kids.length (flatN a.kids))) (.pv (.int .i64 0)) K = K (.elemP (flatN a.kids) 0) := fun K => ixK0' ha
  have x4 : ∀ K : AV → Prop, indexAddrD PS 35 (.pv (.lst r.kids.length (flatN r.kids))) (.pv (.int .i64 0)) K = K (.elemP (flatN r.kids) 0) := fun K => ixK0' hr
  have l1 : ∀ σ (K : AV → Prop), loadD PS σ 39 (.elemP (flatN a.kids) 0) K = K (nodeAV a.kids[0]) := fun σ K => ldE0' ha
  have l2 : ∀ σ (K : AV → Prop), loadD PS σ 39 (.elemP (flatN r.kids) 0) K = K (nodeAV r.kids[0]) := fun σ K => ldE0' hr
  unfold J6_11
  simp only [lock_eq, x1, x2, x3, x4, T.fe39_2, T.le35, c1, c2, someEx, l1, l2]
  have fin : ∀ τ, env 21 [.full 1 (flatN [bareS a.kids[0]]), .full 1 (flatN [bareS r.kids[0]])] τ (fun t100 σ145 => retV t100 σ145 K) (panV X) := by
    intro τ
    rw [hb]
    exact same6_call (a := [bareS a.kids[0]]) h3 rfl rfl (by simp) (by rw [okNs, okNs]; exact ⟨ob, trivial⟩) (fun σ7 _ => retV_self (hK _))
  repeat' first
    | exact trivial
    | exact fin _
    | with_reducible refine And.intro ?_ ?_
    | refine bare_call h1 da oa (fun σ6 hs6 => ?_)
    | refine bare_call h1 dr or' (fun σ6 hs6 => ?_)
    | rw [rowN1]
end
end Go.AD.Lx

/- syntax: SyntaxShown walked, but for its plain law. -/
set_option linter.unusedVariables false
set_option linter.unusedSimpArgs false
set_option maxRecDepth 100000
namespace Go.AD.Lx
open Go.Proofs RowKit
/-- The plain law that SyntaxShown asks for. -/
def ShownLaw : Prop := ∀ (s text : Bytes) (e b : NTree), s.length ≤ 1000 → parseS s = some [.mk oRule text [e, b]] → b.op = oNone → e.op ≠ oNone → depthN (.mk oRule text [e, b]) ≤ 60 →
  ShowOk e ∧ okN (bareS e) ∧ ∃ (text' : Bytes) (e' b' : NTree), parseS (showS e ++ [10]) = some [.mk oRule text' [e', b']] ∧ bareS e' = bareS e
section
variable {env : Env} {args : List AV} {σ0 σ τ : AS} {K : AV → AS → Prop} {X : PV → AS → Prop} {m : Nat}
theorem ixK1' {l : List NTree} (h : 1 < l.length) {K : AV → Prop} : indexAddrD PS 35 (.pv (.lst l.length (flatN l))) (.pv (.int .i64 1)) K = K (.elemP (flatN l) 3) := node_ix (i := 1) h
theorem T_SyntaxShown_ok (hlaw : ShownLaw) (h1 : env 18 = T_yParse) (h2 : env 17 = T_awake6) (h3 : env 21 = Tr.wk T_zSameA) (h4 : env 19 = T_depth6 300) (h5 : env 20 = T_zShow 300) (h6 : env 22 = T_zBare 300) (h : T_lawY1 args σ K X) : bodyD PS env an6 Tryd.f6 args σ K X := by
  obtain ⟨s, rfl, hK⟩ := h
  rw [← S6_eq env, S6]
  simp only [lock_eq]
  refine awake_call h2 fun σ1 _ => ?_
  simp only [go_sem, Bool.not_true, Bool.false_eq_true, if_false]
  refine iteI (fun _ => retV_self (hK _)) (fun g1 => ?_)
  refine parse_call h1 fun σ2 _ => ?_
  cases ha : parseS s with
  | none =>
    simp only [parseNV, ext_tuple, List.getElem?_cons_zero, List.getElem?_cons_succ, someEx, un_not, Bool.not_false, guard_false, if_true]
    exact retV_self (hK _)
  | some A =>
    obtain ⟨hA, lA⟩ := parse_items ha
    simp (disch := omega) only [parseNV, ext_tuple, List.getElem?_cons_zero, List.getElem?_cons_succ, someEx, un_not, Bool.not_true, guard_false, Bool.false_eq_true, if_false, T.lnl35, bin_neq]
    refine iteI (fun _ => retV_self (hK _)) (fun g2 => ?_)
    have hl1 : A.length = 1 := by
      simp only [bne_iff_ne, ne_eq, Decidable.not_not] at g2
      omega
    have hA0 : ∃ a, A = [a] := by
      match A, hl1 with
      | [a], _ => exact ⟨a, rfl⟩
    obtain ⟨a, rfl⟩ := hA0
    have hI := hA a (List.mem_singleton.2 rfl)
    have hdep := fine_depth _ _ _ hI.2.1
    have x0 : ∀ K : AV → Prop, indexAddrD PS 35 (.pv (.lst [a].length (flatN [a]))) (.pv (.int .i64 0)) K = K (.elemP (flatN [a]) 0) := fun K => ixK0' (l := [a]) (by simp)
    have c0 : (flatN [a])[0]? = some (.str a.op) := nc0 (a := [a]) (i := 0) (by simp)
    have c2 : (flatN [a])[0 + 2]? = some (.lst a.kids.length (flatN a.kids)) := nc2 (a := [a]) (i := 0) (by simp)
    have hld : ∀ σ (K : AV → Prop), loadD PS σ 39 (.elemP (flatN [a]) 0) K = K (nodeAV a) := fun σ K => ldE0' (l := [a]) (by simp)
    simp only [x0, T.fe39_0, T.fe39_2, T.le9, T.le35, Nat.add_zero, c0, c2, hld, someEx, bin_sneq, guard_false]
    refine iteI (fun _ => retV_self (hK _)) (fun g3 => ?_)
    have hop : a.op = oRule := by simpa [oRule] using g3
    have hk2 := hI.2.2 hop
    obtain ⟨e, b, hkids⟩ := two_of hk2
    have hav : a = .mk oRule a.text [e, b] := by
      cases a with
      | mk op text kids =>
        have h1 : op = oRule := hop
        have h2 : kids = [e, b] := hkids
        rw [h1, h2]; rfl
    have x1 : ∀ K : AV → Prop, indexAddrD PS 35 (.pv (.lst a.kids.length (flatN a.kids))) (.pv (.int .i64 1)) K = K (.elemP (flatN a.kids) 3) := fun K => ixK1' (by omega)
    have x2 : ∀ K : AV → Prop, indexAddrD PS 35 (.pv (.lst a.kids.length (flatN a.kids))) (.pv (.int .i64 0)) K = K (.elemP (flatN a.kids) 0) := fun K => ixK0' (by omega)
    have d1 : (flatN a.kids)[3]? = some (.str b.op) := by rw [hkids]; exact nc0 (a := [e, b]) (i := 1) (by simp)
    have d0 : (flatN a.kids)[0]? = some (.str e.op) := by rw [hkids]; exact nc0 (a := [e, b]) (i := 0) (by simp)
    simp only [x1, x2, T.fe39_0, T.le9, Nat.add_zero, d0, d1, someEx, bin_sneq, bin_seql, guard_false]
    refine iteI (fun _ => retV_self (hK _)) (fun g4 => ?_)
    refine iteI (fun _ => retV_self (hK _)) (fun g5 => ?_)
    rw [h4]
    refine ⟨a, rfl, by omega, by omega, hI.1, fun σ4 _ => ?_⟩
    simp (disch := omega) only [go_sem]
    refine iteI (fun _ => retV_self (hK _)) (fun g6 => ?_)
    have hbo : b.op = oNone := by simpa [oNone] using g4
    have heo : e.op ≠ oNone := fun h => g5 (by rw [h]; rfl)
    rw [hav] at ha
    obtain ⟨hs, hob, text', e', b', hp, hbb⟩ := hlaw s a.text e b (by omega) ha hbo heo (by rw [← hav]; omega)
    have hle := (ShowOk_of hs).2.2.2.1
    have hde : depthN e < 300 := by
      have := depthN_kids a
      rw [hkids, depthNs] at this
      omega
    unfold J6_8
    have hlde : ∀ σ (K : AV → Prop), loadD PS σ 39 (.elemP (flatN a.kids) 0) K = K (nodeAV e) := by
      intro σ K
      rw [hkids]
      exact ldE0' (l := [e, b]) (by simp)
    simp only [lock_eq, x0, x2, T.fe39_2, T.le35, c2, someEx, hlde]
    refine show_call h5 hde hs (fun σ5 _ => ?_)
    simp (disch := omega) only [go_sem]
    refine ⟨by simp; omega, ?_⟩
    refine parse_call h1 fun σ6 _ => ?_
    rw [hp]
    obtain ⟨hB, _⟩ := parse_items hp
    have hI2 := hB _ (List.mem_singleton.2 rfl)
    have hdep2 := fine_depth _ _ _ hI2.2.1
    have hok2 := okNs_mem (okN_kids hI2.1).2 0 (Nat.zero_lt_succ 1)
    generalize hrv : NTree.mk oRule text' [e', b'] = r at hI2 hdep2
    have hrk : r.kids = [e', b'] := by rw [← hrv]; rfl
    have y0 : ∀ K : AV → Prop, indexAddrD PS 35 (.pv (.lst [r].length (flatN [r]))) (.pv (.int .i64 0)) K = K (.elemP (flatN [r]) 0) := fun K => ixK0' (l := [r]) (by simp)
    have f0 : (flatN [r])[0]? = some (.str oRule) := by rw [← hrv]; exact nc0 (a := [NTree.mk oRule text' [e', b']]) (i := 0) (by simp)
    simp (disch := omega) only [parseNV, ext_tuple, List.getElem?_cons_zero, List.getElem?_cons_succ, someEx, un_not, Bool.not_true, guard_false, Bool.false_eq_true, if_false, T.lnl35, bin_neq, y0, T.fe39_0, T.le9, Nat.add_zero, f0, bin_sneq, cond_bool]
    rw [if_neg (show ¬ (([r].length : Int) != 1) = true from by simp), if_neg (show ¬ (!oRule == [114, 117, 108, 101]) = true by decide)]
    have hde' : depthN e' < 300 := by
      have := depthN_kids r
      rw [hrk, depthNs] at this
      omega
    have ka : a.kids[0]'(by omega) = e := by simp [hkids]
    have kr : r.kids[0]'(by rw [hrk]; simp) = e' := by simp [hrk]
    exact shown_end h6 h3 (by omega) (by rw [hrk]; simp) (by rw [ka]; exact hde) (by rw [kr]; exact hde') (okNs_mem (okN_kids hI.1).2 0 (by omega)) (by rw [kr]; exact hok2) (by rw [ka]; exact hob) (by rw [ka, kr]; exact hbb) hK
end
end Go.AD.Lx

/- syntax, plain: what Show tells of an expression reads as that expression (SyntaxShown's plain law); SyntaxShown. -/
set_option linter.unusedVariables false
set_option linter.unusedSimpArgs false
set_option maxRecDepth 100000
namespace Go.AD.Lx
/-! ### a number's text is a number -/
theorem span_take {p : UInt8 → Bool} : ∀ (s : Bytes) (n : Nat), spanL p (s.take n) = min (spanL p s) n
  | [], n => by simp [spanL]
  | c :: s, 0 => by simp [spanL]
  | c :: s, n + 1 => by
    rw [List.take_succ_cons, spanL, spanL]
    split
    · rw [span_take s n]; omega
    · omega
theorem getD_take {s : Bytes} {n k : Nat} (h : k < n) : (s.take n).getD k 0 = s.getD k 0 := by
  simp [List.getD_eq_getElem?_getD, List.getElem?_take_of_lt h]
theorem isAt_take {s : Bytes} {n k c : Nat} : isAt (s.take n) k c = (decide (k < n) && isAt s k c) := by
  unfold isAt
  rw [List.length_take]
  by_cases h : k < n
  · rw [getD_take h, decide_eq_true h, Bool.true_and]
    by_cases h2 : k < s.length
    · rw [decide_eq_true h2, decide_eq_true (by omega)]
    · rw [decide_eq_false h2, decide_eq_false (by omega)]
  · rw [decide_eq_false h, decide_eq_false (by omega), Bool.false_and, Bool.false_and]
theorem drop_take' {s : Bytes} {n k : Nat} : (s.take n).drop k = (s.drop k).take (n - k) := by rw [List.drop_take]
theorem expAt_gt (s : Bytes) (n : Nat) : n < expAt s n := by unfold expAt; split <;> omega
theorem expL_ge (s : Bytes) (n : Nat) : n ≤ expL s n := by
  unfold expL
  split
  · split
    · have := expAt_gt s n; omega
    · exact Nat.le_refl _
  · exact Nat.le_refl _
theorem expL_take {s : Bytes} {a : Nat} (ha : a ≤ s.length) : expL (s.take (expL s a)) a = expL s a := by
  have hle := expL_le ha
  by_cases h1 : (decide (a < s.length) && (s.getD a 0 ||| 32).toNat == 101) = true
  · by_cases h2 : 0 < spanL digitB (s.drop (expAt s a))
    · have e : expL s a = expAt s a + spanL digitB (s.drop (expAt s a)) := by unfold expL; rw [if_pos h1, if_pos h2]
      have hg := expAt_gt s a
      generalize hn : expL s a = n at *
      have hE : expAt (s.take n) a = expAt s a := by
        have hx : ∀ c, isAt (s.take n) (a + 1) c = isAt s (a + 1) c := by
          intro c
          rw [isAt_take, decide_eq_true (by omega), Bool.true_and]
        unfold expAt
        rw [hx, hx]
      have h1' : (decide (a < (s.take n).length) && ((s.take n).getD a 0 ||| 32).toNat == 101) = true := by
        rw [getD_take (by omega), List.length_take, decide_eq_true (by omega)]
        rw [Bool.and_eq_true] at h1
        rw [h1.2]; rfl
      have hs : spanL digitB ((s.take n).drop (expAt s a)) = spanL digitB (s.drop (expAt s a)) := by
        rw [drop_take', span_take]; omega
      unfold expL
      rw [if_pos h1', hE, hs, if_pos h2, e]
    · have e : expL s a = a := by unfold expL; rw [if_pos h1, if_neg h2]
      rw [e]
      unfold expL
      rw [if_neg]
      rw [List.length_take, decide_eq_false (by omega)]
      simp
  · have e : expL s a = a := by unfold expL; rw [if_neg h1]
    rw [e]
    unfold expL
    rw [if_neg]
    rw [List.length_take, decide_eq_false (by omega)]
    simp
theorem number_take (s : Bytes) : numberL (s.take (numberL s)) = numberL s := by
  by_cases h0 : (fracL s (spanL digitB s)).2 = 0
  · have e : numberL s = 0 := by unfold numberL; rw [if_pos h0]
    rw [e]; rfl
  · have e : numberL s = expL s (fracL s (spanL digitB s)).1 := by unfold numberL; rw [if_neg h0]
    have hk := span_le digitB s
    have hf := fracL_le hk
    have hge := expL_ge s (fracL s (spanL digitB s)).1
    have hex := expL_take hf
    rw [← e] at hge hex
    generalize hn : numberL s = n at *
    have hks : spanL digitB s ≤ (fracL s (spanL digitB s)).1 := by
      unfold fracL
      split
      · split
        · simp only; omega
        · exact Nat.le_refl _
      · exact Nat.le_refl _
    have hs : spanL digitB (s.take n) = spanL digitB s := by rw [span_take]; omega
    have hfr : fracL (s.take n) (spanL digitB s) = fracL s (spanL digitB s) := by
      by_cases h1 : isAt s (spanL digitB s) 46 = true
      · by_cases h2 : 0 < spanL digitB s + spanL digitB (s.drop (spanL digitB s + 1))
        · have e2 : fracL s (spanL digitB s) = (spanL digitB s + 1 + spanL digitB (s.drop (spanL digitB s + 1)), spanL digitB s + spanL digitB (s.drop (spanL digitB s + 1))) := by
            unfold fracL; rw [if_pos h1, if_pos h2]
          rw [e2] at hge
          simp only at hge
          have h3 : spanL digitB ((s.take n).drop (spanL digitB s + 1)) = spanL digitB (s.drop (spanL digitB s + 1)) := by
            rw [drop_take', span_take]; omega
          rw [e2]
          unfold fracL
          rw [isAt_take, h1, decide_eq_true (by omega), Bool.and_self, if_pos rfl, h3, if_pos h2]
        · exfalso
          apply h0
          unfold fracL
          rw [if_pos h1, if_neg h2]
          simp only; omega
      · have e2 : fracL s (spanL digitB s) = (spanL digitB s, spanL digitB s) := by unfold fracL; rw [if_neg h1]
        rw [e2]
        unfold fracL
        rw [isAt_take, if_neg]
        rw [Bool.and_eq_true]
        exact fun h => h1 h.2
    unfold numberL
    rw [hs, hfr, if_neg h0, hex]
/-! ### what a token looks like -/
def NumOk (t : Bytes) : Prop := 0 < t.length ∧ numberL t = t.length
inductive EreOk : Bytes → Prop
  | nil : EreOk []
  | one {c : UInt8} {t : Bytes} (h1 : c.toNat ≠ 10) (h2 : c.toNat ≠ 92) : EreOk t → EreOk (c :: t)
  | two {c : UInt8} {t : Bytes} (h1 : c.toNat ≠ 10) (h2 : c.toNat ≠ 47) : EreOk t → EreOk (92 :: c :: t)
structure WordOk (t : Bytes) : Prop where
  ne : t ≠ []
  letter : letterB (t.getD 0 0) = true
  inner : spanL innerB t = t.length
  barred : listedS lBarred t = false
def NameOk (t : Bytes) : Prop := WordOk t ∧ listedS lWords t = false ∧ listedS lBuilts t = false
def BuiltOk (t : Bytes) : Prop := WordOk t ∧ listedS lWords t = false ∧ listedS lBuilts t = true
structure TokOk (t : Tok) : Prop where
  num : t.1 = kNum → NumOk t.2
  ere : t.1 = kEre → EreOk t.2
  name : t.1 = kName → NameOk t.2
  func : t.1 = kFunc → NameOk t.2
  built : t.1 = kBuilt → BuiltOk t.2
theorem EreOk.app {a b : Bytes} (ha : EreOk a) (hb : EreOk b) : EreOk (a ++ b) := by
  induction ha with
  | nil => exact hb
  | one h1 h2 _ ih => exact .one h1 h2 ih
  | two h1 h2 _ ih => exact .two h1 h2 ih
theorem quoted_ere : ∀ (f : Nat) (s acc t r : Bytes), EreOk acc → quotedS 47 inEreS f s acc = some (t, r) → EreOk t
  | 0, _, _, _, _, _, h => by cases h
  | f + 1, s, acc, t, r, ha, h => by
    rw [quotedS] at h
    split at h
    · cases h
    split at h
    · cases h
    rename_i h10
    split at h
    · cases h; exact ha
    split at h
    · rename_i h92
      exact quoted_ere f _ _ _ _ (ha.app (.one h10 h92 .nil)) h
    split at h
    · cases h
    refine quoted_ere f _ _ _ _ (ha.app ?_) h
    unfold inEreS
    split
    · exact .nil
    · rename_i g10
      simp only
      split
      · rename_i g47
        exact .one g10 (by omega) .nil
      · rename_i g47
        exact .two g10 g47 .nil
theorem span_take_all {p : UInt8 → Bool} (s : Bytes) : spanL p (s.take (spanL p s)) = (s.take (spanL p s)).length := by
  have := span_le p s
  rw [span_take, List.length_take]; omega
theorem tok_ok0 {k : Bytes} (t : Bytes) (h1 : k ≠ kNum) (h2 : k ≠ kEre) (h3 : k ≠ kName) (h4 : k ≠ kFunc) (h5 : k ≠ kBuilt) : TokOk (k, t) :=
  ⟨fun h => absurd h h1, fun h => absurd h h2, fun h => absurd h h3, fun h => absurd h h4, fun h => absurd h h5⟩
/-- How much tokens weigh. -/
def wt (t : Tok) : Nat := 8 + 4 * t.2.length
def wts : List Tok → Nat
  | [] => 0
  | t :: ts => wt t + wts ts
theorem wts_app (a b : List Tok) : wts (a ++ b) = wts a + wts b := by
  induction a with
  | nil => rw [wts, List.nil_append]; omega
  | cons t a ih => rw [List.cons_append, wts, wts, ih]; omega
theorem inText_fst (r : Bytes) (hr : r ≠ []) : (inTextS r).1.length + (inTextS r).2.length ≤ r.length + 1 := by
  have hp : 0 < r.length := List.length_pos_iff.2 hr
  unfold inTextS
  split
  · simp only [List.length_cons, List.length_nil, List.length_drop]; omega
  · simp only [List.length_drop]
    split
    · simp; omega
    split
    · simp; omega
    split
    · simp; omega
    · simp; omega
theorem inEre_fst (r : Bytes) (hr : r ≠ []) : (inEreS r).1.length + (inEreS r).2.length ≤ r.length + 1 := by
  have hp : 0 < r.length := List.length_pos_iff.2 hr
  unfold inEreS
  split
  · simp
  · simp only [List.length_drop]
    split <;> simp <;> omega
theorem quoted_wt {q : UInt8} {e : Bytes → Bytes × Bytes} (he : ∀ r, r ≠ [] → (e r).1.length + (e r).2.length ≤ r.length + 1) : ∀ (f : Nat) (s acc t r : Bytes), quotedS q e f s acc = some (t, r) → t.length + r.length + 1 ≤ acc.length + s.length
  | 0, _, _, _, _, h => by cases h
  | f + 1, s, acc, t, r, h => by
    rw [quotedS] at h
    split at h
    · cases h
    rename_i hs
    have hp : 0 < s.length := List.length_pos_iff.2 hs
    have hd : (s.drop 1).length = s.length - 1 := by rw [List.length_drop]
    split at h
    · cases h
    split at h
    · cases h; omega
    split at h
    · have := quoted_wt he f _ _ _ _ h
      rw [List.length_append, List.length_singleton] at this
      omega
    split at h
    · cases h
    · rename_i h4
      have := quoted_wt he f _ _ _ _ h
      have h5 := he _ h4
      rw [List.length_append] at this
      omega
/-- One token more: it looks as a token looks, and weighs no more than what was read. -/
theorem token_ok {s : Bytes} {ts : List Tok} (hs : s ≠ []) {r : Bytes} {ts' : List Tok} (h : tokenS s ts = some (r, ts')) (ht : ∀ t ∈ ts, TokOk t) :
    (∀ t ∈ ts', TokOk t) ∧ wts ts' + 12 * r.length ≤ wts ts + 12 * s.length := by
  have hp : 0 < s.length := List.length_pos_iff.2 hs
  have add : ∀ {k : Tok}, TokOk k → ∀ t ∈ ts ++ [k], TokOk t := by
    intro k hk t hm
    rcases List.mem_append.1 hm with hm | hm
    · exact ht t hm
    · rw [List.mem_singleton.1 hm]; exact hk
  have qt : ∀ q e k, (∀ t, TokOk (k, t) ∨ k = kEre ∧ q = 47 ∧ e = inEreS) → (∀ r, r ≠ [] → (e r).1.length + (e r).2.length ≤ r.length + 1) → quoteTok q e k s ts = some (r, ts') → (∀ t ∈ ts', TokOk t) ∧ wts ts' + 12 * r.length ≤ wts ts + 12 * s.length := by
    intro q e k hk he h
    unfold quoteTok at h
    split at h
    · cases h
    · rename_i t r' hq
      have hw := quoted_wt he _ _ _ _ _ hq
      rw [List.length_drop, List.length_nil] at hw
      cases h
      refine ⟨add ?_, ?_⟩
      · rcases hk t with hk | ⟨rfl, rfl, rfl⟩
        · exact hk
        · have := quoted_ere _ _ _ _ _ .nil hq
          exact ⟨fun h => absurd h (by dsimp only; decide), fun _ => this, fun h => absurd h (by dsimp only; decide), fun h => absurd h (by dsimp only; decide), fun h => absurd h (by dsimp only; decide)⟩
      · rw [wts_app, wts, wts, wt]; simp only; omega
  have w1 : ∀ {n : Nat} {k w : Bytes}, n ≤ s.length → 0 < n → w.length ≤ n → wts (ts ++ [(k, w)]) + 12 * (s.drop n).length ≤ wts ts + 12 * s.length := by
    intro n k w h1 h2 h3
    rw [wts_app, wts, wts, wt, List.length_drop]; simp only; omega
  have w0 : ∀ {n : Nat}, wts ts + 12 * (s.drop n).length ≤ wts ts + 12 * s.length := by
    intro n; rw [List.length_drop]; omega
  unfold tokenS at h
  split at h
  · cases h; exact ⟨ht, w0⟩
  split at h
  · cases h; exact ⟨ht, w0⟩
  split at h
  · cases h; exact ⟨ht, w0⟩
  split at h
  · cases h; exact ⟨add (tok_ok0 _ (by decide) (by decide) (by decide) (by decide) (by decide)), w1 (by omega) (by decide) (by simp)⟩
  split at h
  · rename_i hn
    have hle := number_le s
    cases h
    refine ⟨add ⟨fun _ => ⟨by rw [List.length_take]; omega, ?_⟩, fun h => absurd h (by dsimp only; decide), fun h => absurd h (by dsimp only; decide), fun h => absurd h (by dsimp only; decide), fun h => absurd h (by dsimp only; decide)⟩, w1 hle hn (by rw [List.length_take]; omega)⟩
    show numberL (s.take (numberL s)) = (s.take (numberL s)).length
    rw [number_take, List.length_take]; omega
  split at h
  · exact qt _ _ _ (fun t => .inl (tok_ok0 _ (by decide) (by decide) (by decide) (by decide) (by decide))) inText_fst h
  split at h
  · exact qt _ _ _ (fun t => .inr ⟨rfl, rfl, rfl⟩) inEre_fst h
  split at h
  · rename_i hl
    unfold nameS at h
    split at h
    · cases h
    · rename_i hb
      have hsp := span_le innerB s
      have hpos := span_pos (p := innerB) hs (by unfold innerB; rw [hl]; rfl)
      have hw : WordOk (s.take (spanL innerB s)) := by
        refine ⟨?_, ?_, span_take_all s, by simpa using hb⟩
        · intro e
          have := congrArg List.length e
          rw [List.length_take, List.length_nil] at this
          omega
        · rw [getD_take hpos]; exact hl
      cases h
      refine ⟨add ?_, w1 hsp hpos (by rw [List.length_take]; omega)⟩
      by_cases g1 : listedS lWords (s.take (spanL innerB s)) = true
      · rw [if_pos g1]
        exact tok_ok0 _ (by decide) (by decide) (by decide) (by decide) (by decide)
      · rw [if_neg g1]
        by_cases g2 : listedS lBuilts (s.take (spanL innerB s)) = true
        · rw [if_pos g2]
          exact ⟨fun h => absurd h (by dsimp only; decide), fun h => absurd h (by dsimp only; decide), fun h => absurd h (by dsimp only; decide), fun h => absurd h (by dsimp only; decide), fun _ => ⟨hw, by simpa using g1, g2⟩⟩
        · rw [if_neg g2]
          by_cases g3 : Lib.hasPrefix (s.drop (spanL innerB s)) [40] = true
          · rw [if_pos g3]
            exact ⟨fun h => absurd h (by dsimp only; decide), fun h => absurd h (by dsimp only; decide), fun h => absurd h (by dsimp only; decide), fun _ => ⟨hw, by simpa using g1, by simpa using g2⟩, fun h => absurd h (by dsimp only; decide)⟩
          · rw [if_neg g3]
            exact ⟨fun h => absurd h (by dsimp only; decide), fun h => absurd h (by dsimp only; decide), fun _ => ⟨hw, by simpa using g1, by simpa using g2⟩, fun h => absurd h (by dsimp only; decide), fun h => absurd h (by dsimp only; decide)⟩
  · unfold opTok at h
    split at h
    · rename_i h2
      rw [Bool.and_eq_true] at h2
      have h3 := of_decide_eq_true h2.1
      cases h
      exact ⟨add (tok_ok0 _ (by decide) (by decide) (by decide) (by decide) (by decide)), w1 (by omega) (by decide) (by rw [List.length_take]; omega)⟩
    · split at h
      · cases h
        exact ⟨add (tok_ok0 _ (by decide) (by decide) (by decide) (by decide) (by decide)), w1 (by omega) (by decide) (by rw [List.length_take]; omega)⟩
      · cases h
theorem lexL_ok : ∀ (f : Nat) (s : Bytes) (ts a : List Tok), (∀ t ∈ ts, TokOk t) → lexL f s ts = some a → (∀ t ∈ a, TokOk t) ∧ wts a ≤ wts ts + 12 * s.length
  | 0, _, _, _, _, h => by cases h
  | f + 1, s, ts, a, ht, h => by
    rw [lexL] at h
    split at h
    · cases h; exact ⟨ht, by omega⟩
    rename_i hs
    split at h
    · cases h
    · rename_i s' ts' hk
      obtain ⟨h1, h2⟩ := token_ok hs hk ht
      split at h
      · obtain ⟨h3, h4⟩ := lexL_ok f s' ts' a h1 h
        exact ⟨h3, by omega⟩
      · cases h
theorem lexS_ok {s : Bytes} {a : List Tok} (h : lexS s = some a) : (∀ t ∈ a, TokOk t) ∧ wts a ≤ 12 * s.length := by
  unfold lexS at h
  split at h
  · have := lexL_ok _ _ _ _ (by simp) h
    rw [wts] at this
    exact ⟨this.1, by omega⟩
  · cases h
end Go.AD.Lx
namespace Go.AD.Lx
/-! ### what trees the parser's readers of expressions give -/
/-- The signs that stand between two operands, each of its level (joining has none). -/
def BinOp (o : Bytes) : Prop := o ∈ ([[124, 124], [38, 38], [126], [33, 126], [62], [60], [60, 61], [61, 61], [33, 61], [62, 61], [43], [45], [42], [47], [37], [94], oCat] : List Bytes)
def AssOp (o : Bytes) : Prop := o ∈ ([[61], [43, 61], [45, 61], [42, 61], [47, 61], [37, 61], [94, 61]] : List Bytes)
def SignOp (o : Bytes) : Prop := o ∈ ([[33], [43], [45]] : List Bytes)
def StepOp (o : Bytes) : Prop := o ∈ ([[43, 43], [45, 45]] : List Bytes)
/-- Trees of expressions; 'b': lists may stand among them. -/
inductive Sh (b : Bool) : NTree → Prop
  | num {t : Bytes} : NumOk t → Sh b (.mk kNum t [])
  | str {t : Bytes} : Sh b (.mk kStr t [])
  | ere {t : Bytes} : EreOk t → Sh b (.mk kEre t [])
  | var {t : Bytes} : NameOk t → Sh b (.mk oVar t [])
  | elem {t : Bytes} {l : List NTree} : NameOk t → l ≠ [] → (∀ x ∈ l, Sh b x) → Sh b (.mk oElem t l)
  | call {t : Bytes} {l : List NTree} : NameOk t → (∀ x ∈ l, Sh b x) → Sh b (.mk oCall t l)
  | built {t : Bytes} {l : List NTree} : BuiltOk t → (∀ x ∈ l, Sh b x) → Sh b (.mk kBuilt t l)
  | group {x : NTree} : Sh b x → Sh b (.mk oGroup [] [x])
  | lst {l : List NTree} : b = true → (∀ x ∈ l, Sh b x) → Sh b (.mk oList [] l)
  | within {t : Bytes} {l : List NTree} : NameOk t → l ≠ [] → (∀ x ∈ l, Sh b x) → Sh b (.mk wIn t l)
  | field {x : NTree} : Sh b x → Sh b (.mk oField [] [x])
  | unary {o : Bytes} {x : NTree} : SignOp o → Sh b x → Sh b (.mk oUnary o [x])
  | bin {o : Bytes} {x y : NTree} : BinOp o → Sh b x → Sh b y → Sh b (.mk oBin o [x, y])
  | cond {x y z : NTree} : Sh b x → Sh b y → Sh b z → Sh b (.mk oCond [] [x, y, z])
  | assign {o : Bytes} {x y : NTree} : AssOp o → placeB x = true → Sh b x → Sh b y → Sh b (.mk oAssign o [x, y])
  | pre {o : Bytes} {x : NTree} : StepOp o → placeB x = true → Sh b x → Sh b (.mk oPre o [x])
  | post {o : Bytes} {x : NTree} : StepOp o → placeB x = true → Sh b x → Sh b (.mk oPost o [x])
/-- How long a tree is shown. -/
abbrev sl (e : NTree) : Nat := (showS e).length
theorem s_num {t : Bytes} {l : List NTree} : showS (.mk kNum t l) = t := by rw [showS]; unfold showOp; exact if_pos (.inl rfl)
theorem s_var {t : Bytes} {l : List NTree} : showS (.mk oVar t l) = t := by rw [showS]; unfold showOp; exact if_pos (.inr rfl)
theorem s_str {t : Bytes} {l : List NTree} : showS (.mk kStr t l) = quoteS t := by rw [showS]; rfl
theorem s_ere {t : Bytes} {l : List NTree} : showS (.mk kEre t l) = [47] ++ slashesS t ++ [47] := by rw [showS]; rfl
theorem s_elem {t : Bytes} {l : List NTree} : showS (.mk oElem t l) = t ++ [91] ++ joinS (showsS l) ++ [93] := by rw [showS]; rfl
theorem s_call {t : Bytes} {l : List NTree} : showS (.mk oCall t l) = t ++ [40] ++ joinS (showsS l) ++ [41] := by rw [showS]; rfl
theorem s_built {t : Bytes} {l : List NTree} : showS (.mk kBuilt t l) = t ++ [40] ++ joinS (showsS l) ++ [41] := by
  rw [showS]
  show (if (showsS l).length = 0 ∧ t = sLength then _ else t ++ [40] ++ joinS (showsS l) ++ [41]) = _
  split
  · rename_i h
    have : showsS l = [] := List.eq_nil_of_length_eq_zero h.1
    rw [this, h.2]; rfl
  · rfl
theorem s_group {t : Bytes} {x : NTree} : showS (.mk oGroup t [x]) = showS x := by rw [showS, showsS, showsS]; rfl
theorem s_list {t : Bytes} {l : List NTree} : showS (.mk oList t l) = [] := by rw [showS]; rfl
theorem s_in {t : Bytes} {l : List NTree} : showS (.mk wIn t l) = [40] ++ joinS (showsS l) ++ [41, 32, 105, 110, 32] ++ t := by rw [showS]; rfl
theorem s_field {t : Bytes} {x : NTree} : showS (.mk oField t [x]) = [36] ++ ([40] ++ showS x ++ [41]) := by rw [showS, showsS, showsS]; rfl
theorem s_unary {t : Bytes} {x : NTree} : showS (.mk oUnary t [x]) = t ++ ([40] ++ showS x ++ [41]) := by rw [showS, showsS, showsS]; rfl
theorem s_bin {t : Bytes} {x y : NTree} : showS (.mk oBin t [x, y]) = ([40] ++ showS x ++ [41]) ++ [32] ++ (if t = oCat then [] else t) ++ [32] ++ ([40] ++ showS y ++ [41]) := by rw [showS, showsS, showsS, showsS]; rfl
theorem s_cond {t : Bytes} {x y z : NTree} : showS (.mk oCond t [x, y, z]) = ([40] ++ showS x ++ [41]) ++ [32, 63, 32] ++ ([40] ++ showS y ++ [41]) ++ [32, 58, 32] ++ ([40] ++ showS z ++ [41]) := by rw [showS, showsS, showsS, showsS, showsS]; rfl
theorem s_assign {t : Bytes} {x y : NTree} : showS (.mk oAssign t [x, y]) = showS x ++ [32] ++ t ++ [32] ++ ([40] ++ showS y ++ [41]) := by rw [showS, showsS, showsS, showsS]; rfl
theorem s_pre {t : Bytes} {x : NTree} : showS (.mk oPre t [x]) = t ++ showS x := by rw [showS, showsS, showsS]; rfl
theorem s_post {t : Bytes} {x : NTree} : showS (.mk oPost t [x]) = showS x ++ t := by rw [showS, showsS, showsS]; rfl
/-- How long a list is shown. -/
abbrev jl (l : List NTree) : Nat := (joinS (showsS l)).length
theorem shows_app (a b : List NTree) : showsS (a ++ b) = showsS a ++ showsS b := by
  induction a with
  | nil => rw [showsS]; rfl
  | cons x a ih => rw [List.cons_append, showsS, showsS, ih]; rfl
theorem jl_one (x : NTree) : jl [x] = sl x := by
  unfold jl sl
  rw [showsS, showsS, joinS]
  simp
theorem jl_snoc {l : List NTree} {x : NTree} (hl : l ≠ []) : jl (l ++ [x]) = jl l + 2 + sl x := by
  unfold jl sl
  rw [shows_app, showsS, showsS, join_snoc, if_pos (by rw [shows_len]; exact List.length_pos_iff.2 hl)]
  simp only [List.length_append, List.length_cons, List.length_nil]
def TokS (ts : List Tok) : Prop := ∀ t ∈ ts, TokOk t
theorem TokS.drop {ts : List Tok} (h : TokS ts) (k : Nat) : TokS (ts.drop k) := fun t ht => h t (List.mem_of_mem_drop ht)
theorem wts_drop (ts : List Tok) (k : Nat) : wts (ts.drop k) ≤ wts ts := by
  induction ts generalizing k with
  | nil => simp
  | cons t ts ih =>
    cases k with
    | zero => exact Nat.le_refl _
    | succ k => rw [List.drop_succ_cons, wts]; have := ih k; omega
theorem at_split {ts : List Tok} (h : atS 0 ts ≠ ([], [])) : ∃ r, ts = atS 0 ts :: r := by
  cases ts with
  | nil => exact absurd rfl h
  | cons t r => exact ⟨r, rfl⟩
theorem wts1 {ts : List Tok} {t : Tok} (h : atS 0 ts = t) (ht : t ≠ ([], [])) : wts (ts.drop 1) + wt t ≤ wts ts := by
  obtain ⟨r, hr⟩ := at_split (ts := ts) (by rw [h]; exact ht)
  rw [hr, h, List.drop_succ_cons, List.drop_zero, wts]; omega
theorem wts1k {ts : List Tok} (h : (atS 0 ts).1 ≠ []) : wts (ts.drop 1) + (8 + 4 * (atS 0 ts).2.length) ≤ wts ts := wts1 rfl (fun e => h (by rw [e]))
theorem wts2k {ts : List Tok} (h : (atS 0 ts).1 ≠ []) : wts (ts.drop 2) + (8 + 4 * (atS 0 ts).2.length) ≤ wts ts := by
  have h1 := wts1k h
  have h2 := wts_drop (ts.drop 1) 1
  rw [List.drop_drop] at h2
  have h3 : wts (ts.drop 2) ≤ wts (ts.drop 1) := h2
  omega
theorem wts2 {ts : List Tok} {t : Tok} (h : (atS 0 ts).1 ≠ []) (h1 : atS 1 ts = t) (ht : t ≠ ([], [])) : wts (ts.drop 2) + (8 + 4 * (atS 0 ts).2.length) + wt t ≤ wts ts := by
  have h2 := wts1k h
  have e : atS 0 (ts.drop 1) = t := by
    rw [← h1]; unfold atS
    simp [List.getD_eq_getElem?_getD, List.getElem?_drop]
  have h3 := wts1 e ht
  rw [List.drop_drop] at h3
  have h4 : wts (ts.drop (1 + 1)) + wt t ≤ wts (ts.drop 1) := h3
  have h5 : wts (ts.drop (1 + 1)) = wts (ts.drop 2) := rfl
  omega
theorem nls_ok {ts : List Tok} (h : TokS ts) : TokS (nlsS ts) ∧ wts (nlsS ts) ≤ wts ts := by
  induction ts with
  | nil => exact ⟨h, Nat.le_refl _⟩
  | cons t ts ih =>
    rw [nlsS]
    split
    · have := ih (fun x hx => h x (List.mem_cons_of_mem _ hx))
      refine ⟨this.1, ?_⟩
      rw [wts]; omega
    · exact ⟨h, Nat.le_refl _⟩
theorem at_ok {ts : List Tok} (h : TokS ts) : TokOk (atS 0 ts) := by
  cases ts with
  | nil => exact tok_ok0 [] (k := []) (by decide) (by decide) (by decide) (by decide) (by decide)
  | cons t ts => exact h t (by simp [atS])
theorem need_ok {t : Tok} (ht : t ≠ ([], [])) {ts r : List Tok} {a : Unit} (h : needS t ts = .ok a r) (hT : TokS ts) : TokS r ∧ wts r + wt t ≤ wts ts := by
  unfold needS at h
  split at h
  · rename_i e
    cases h
    exact ⟨hT.drop 1, wts1 e ht⟩
  · cases h
theorem kind_name {ts r : List Tok} {x : Bytes} (h : kindS [kName] ts = .ok x r) (hT : TokS ts) : NameOk x ∧ TokS r ∧ wts r + (8 + 4 * x.length) ≤ wts ts := by
  unfold kindS at h
  split at h
  · rename_i e
    rw [List.mem_singleton] at e
    cases h
    exact ⟨(at_ok hT).name e, hT.drop 1, wts1k (by rw [e]; decide)⟩
  · cases h
/-- What a reader of an expression answers. -/
def EOk (m : R NTree) (ts : List Tok) : Prop := ∀ e r, m = .ok e r → Sh true e ∧ TokS r ∧ sl e + 6 + wts r ≤ wts ts
def LOk (m : R (List NTree)) (ts : List Tok) : Prop := ∀ l r, m = .ok l r → l ≠ [] ∧ (∀ x ∈ l, Sh true x) ∧ TokS r ∧ jl l + 6 + wts r ≤ wts ts
structure SO (r : Rec) : Prop where
  expr : ∀ least pr ts, TokS ts → EOk (r.expr least pr ts) ts
  unary : ∀ ts, TokS ts → EOk (r.unary ts) ts
  exponent : ∀ ts, TokS ts → EOk (r.exponent ts) ts
  operand : ∀ ts, TokS ts → EOk (r.operand ts) ts
section
variable {r : Rec}
theorem O_stepped {ts : List Tok} {s : Bytes} (h : steppedS ts = some s) : StepOp s ∧ s.length = 2 ∧ atS 0 ts = opT s := by
  unfold steppedS at h
  split at h
  · rename_i e; cases h; exact ⟨by unfold StepOp; decide, rfl, e⟩
  · split at h
    · rename_i e; cases h; exact ⟨by unfold StepOp; decide, rfl, e⟩
    · cases h
theorem opT_nz (s : Bytes) : opT s ≠ ([], []) := fun h => by
  have : kOp = [] := congrArg Prod.fst h
  exact absurd this (by decide)
theorem wordT_nz (s : Bytes) : wordT s ≠ ([], []) := fun h => by
  have : kWord = [] := congrArg Prod.fst h
  exact absurd this (by decide)
theorem O_ahead (H : SO r) (ts : List Tok) (hT : TokS ts) {o : Option NTree} {u : List Tok} (h : aheadS r ts = .ok o u) : match o with
    | none => u = ts
    | some e => Sh true e ∧ TokS u ∧ sl e + 6 + wts u ≤ wts ts := by
  unfold aheadS at h
  split at h
  · cases h; rfl
  · rename_i s hs
    obtain ⟨h1, h2, h3⟩ := O_stepped hs
    obtain ⟨e, v, h4, h⟩ := bnd_ok h
    split at h
    · rename_i hp
      cases h
      obtain ⟨g1, g2, g3⟩ := H.operand _ (hT.drop 1) e u h4
      refine ⟨.pre h1 hp g1, g2, ?_⟩
      have := wts1 h3 (opT_nz s)
      rw [wt] at this
      simp only [opT] at this
      unfold sl at g3 ⊢
      rw [s_pre, List.length_append]; omega
    · cases h
theorem O_step (H : SO r) (ts : List Tok) (hT : TokS ts) : EOk (stepS r ts) ts := by
  intro e u h0
  rw [stepS] at h0
  obtain ⟨o, v, h1, h⟩ := bnd_ok h0
  clear h0
  have hA := O_ahead H ts hT h1
  cases o with
  | some x => cases h; exact hA
  | none =>
    simp only at hA h
    subst hA
    obtain ⟨x, w, h2, h3⟩ := bnd_ok h
    clear h
    obtain ⟨g1, g2, g3⟩ := H.operand _ hT x w h2
    split at h3
    · rename_i hp
      split at h3
      · rename_i s hs
        obtain ⟨k1, k2, k3⟩ := O_stepped hs
        cases h3
        have := wts1 k3 (opT_nz s)
        rw [wt] at this
        simp only [opT] at this
        refine ⟨.post k1 hp g1, g2.drop 1, ?_⟩
        unfold sl at g3 ⊢
        rw [s_post, List.length_append]; omega
      · cases h3; exact ⟨g1, g2, g3⟩
    · cases h3; exact ⟨g1, g2, g3⟩
theorem bin_len {o : Bytes} {x y : NTree} (h : o ≠ oCat) : sl (.mk oBin o [x, y]) = sl x + sl y + o.length + 6 := by
  unfold sl
  rw [s_bin, if_neg h]
  simp only [List.length_append, List.length_cons, List.length_nil]; omega
theorem cat_len {x y : NTree} : sl (.mk oBin oCat [x, y]) = sl x + sl y + 6 := by
  unfold sl
  rw [s_bin, if_pos rfl]
  simp only [List.length_append, List.length_cons, List.length_nil]; omega
theorem O_power (H : SO r) (ts : List Tok) (hT : TokS ts) : EOk (powerS r ts) ts := by
  intro e u h
  unfold powerS at h
  obtain ⟨x, v, h1, h⟩ := bnd_ok h
  obtain ⟨g1, g2, g3⟩ := O_step H ts hT x v h1
  split at h
  · rename_i hc
    obtain ⟨y, w, h2, h⟩ := bnd_ok h
    obtain ⟨k1, k2, k3⟩ := H.exponent _ (g2.drop 1) y w h2
    cases h
    have hw := wts1 hc (opT_nz _)
    refine ⟨.bin (by unfold BinOp; decide) g1 k1, k2, ?_⟩
    rw [bin_len (by decide)]
    simp only [wt, opT, List.length_cons, List.length_nil] at hw ⊢
    omega
  · cases h; exact ⟨g1, g2, g3⟩
theorem O_listL (H : SO r) (pr : Bool) : ∀ (f : Nat) (l : List NTree) (ts : List Tok), l ≠ [] → (∀ x ∈ l, Sh true x) → TokS ts → ∀ l' u, listL r pr f l ts = .ok l' u → l' ≠ [] ∧ (∀ x ∈ l', Sh true x) ∧ TokS u ∧ jl l' + wts u ≤ jl l + wts ts
  | 0, _, _, _, _, _, _, _, h => by cases h
  | f + 1, l, ts, h0, hl, hT, l', u, h => by
    rw [listL] at h
    split at h
    · rename_i hc
      obtain ⟨e, v, h1, h⟩ := bnd_ok h
      have hn := nls_ok (hT.drop 1)
      obtain ⟨g1, g2, g3⟩ := H.expr _ _ _ hn.1 e v h1
      have hw := wts1 hc (opT_nz _)
      obtain ⟨k1, k2, k3, k4⟩ := O_listL H pr f (l ++ [e]) v (by simp) (by
        intro x hx
        rcases List.mem_append.1 hx with hx | hx
        · exact hl x hx
        · rw [List.mem_singleton.1 hx]; exact g1) g2 l' u h
      refine ⟨k1, k2, k3, ?_⟩
      rw [jl_snoc h0] at k4
      omega
    · cases h; exact ⟨h0, hl, hT, Nat.le_refl _⟩
theorem O_list (H : SO r) (pr : Bool) (ts : List Tok) (hT : TokS ts) : LOk (listS r pr ts) ts := by
  intro l u h
  unfold listS at h
  obtain ⟨e, v, h1, h⟩ := bnd_ok h
  obtain ⟨g1, g2, g3⟩ := H.expr _ _ _ hT e v h1
  obtain ⟨k1, k2, k3, k4⟩ := O_listL H pr _ [e] v (by simp) (by simpa using g1) g2 l u h
  rw [jl_one] at k4
  exact ⟨k1, k2, k3, by omega⟩
theorem O_args (H : SO r) (ts : List Tok) (hT : TokS ts) {l : List NTree} {u : List Tok} (h : argsS r ts = .ok l u) : (∀ x ∈ l, Sh true x) ∧ TokS u ∧ jl l + 12 + wts u ≤ wts ts := by
  unfold argsS at h
  split at h
  · rename_i hc
    cases h
    have hw := wts1 hc (opT_nz _)
    simp only [wt, opT, List.length_cons, List.length_nil] at hw
    exact ⟨by simp, hT.drop 1, by simp only [jl, showsS, joinS, List.length_nil]; omega⟩
  · obtain ⟨l', v, h1, h⟩ := bnd_ok h
    obtain ⟨_, w, h2, h⟩ := bnd_ok h
    cases h
    obtain ⟨g1, g2, g3, g4⟩ := O_list H false ts hT l v h1
    obtain ⟨k1, k2⟩ := need_ok (opT_nz _) h2 g3
    simp only [wt, opT, List.length_cons, List.length_nil] at k2
    exact ⟨g2, k1, by omega⟩
theorem O_subs (H : SO r) (ts : List Tok) (hT : TokS ts) {l : List NTree} {u : List Tok} (h : subsS r ts = .ok l u) : l ≠ [] ∧ (∀ x ∈ l, Sh true x) ∧ TokS u ∧ jl l + 18 + wts u ≤ wts ts := by
  unfold subsS at h
  obtain ⟨l', v, h1, h⟩ := bnd_ok h
  obtain ⟨_, w, h2, h⟩ := bnd_ok h
  cases h
  obtain ⟨g1, g2, g3, g4⟩ := O_list H false ts hT l v h1
  obtain ⟨k1, k2⟩ := need_ok (opT_nz _) h2 g3
  simp only [wt, opT, List.length_cons, List.length_nil] at k2
  exact ⟨g1, g2, k1, by omega⟩
theorem O_sign : ∀ {l : List Bytes} {ts : List Tok} {s : Bytes}, signS l ts = some s → s ∈ l ∧ atS 0 ts = opT s
  | [], _, _, h => by cases h
  | a :: l, ts, s, h => by
    rw [signS] at h
    split at h
    · rename_i e; cases h; exact ⟨by simp, e⟩
    · obtain ⟨h1, h2⟩ := O_sign h; exact ⟨List.mem_cons_of_mem _ h1, h2⟩
theorem un_len {o : Bytes} {x : NTree} : sl (.mk oUnary o [x]) = o.length + sl x + 2 := by
  unfold sl
  rw [s_unary]
  simp only [List.length_append, List.length_cons, List.length_nil]; omega
theorem O_unary (H : SO r) (ts : List Tok) (hT : TokS ts) : EOk (unaryS r ts) ts := by
  intro e u h
  unfold unaryS at h
  split at h
  · rename_i s hs
    obtain ⟨x, v, h1, h⟩ := bnd_ok h
    cases h
    obtain ⟨k1, k2⟩ := O_sign hs
    obtain ⟨g1, g2, g3⟩ := H.unary _ (hT.drop 1) x _ h1
    have hw := wts1 k2 (opT_nz _)
    simp only [wt, opT] at hw
    refine ⟨.unary k1 g1, g2, ?_⟩
    rw [un_len]; omega
  · exact O_power H ts hT e u h
theorem O_exponent (H : SO r) (ts : List Tok) (hT : TokS ts) : EOk (exponentS r ts) ts := by
  intro e u h
  unfold exponentS at h
  split at h
  · rename_i s hs
    obtain ⟨x, v, h1, h⟩ := bnd_ok h
    cases h
    obtain ⟨k1, k2⟩ := O_sign hs
    obtain ⟨g1, g2, g3⟩ := H.exponent _ (hT.drop 1) x _ h1
    have hw := wts1 k2 (opT_nz _)
    simp only [wt, opT] at hw
    refine ⟨.unary (show _ ∈ _ from List.mem_cons_of_mem _ k1) g1, g2, ?_⟩
    rw [un_len]; omega
  · exact O_power H ts hT e u h
theorem iteP {c : Prop} [Decidable c] {P : Nat → Prop} {a b : Nat} (h1 : c → P a) (h2 : ¬ c → P b) : P (if c then a else b) := by
  split
  · rename_i h; exact h1 h
  · rename_i h; exact h2 h
/-- What a level says of a token. -/
def LevP (t : Tok) (n : Nat) : Prop := n = 0 ∨ (n = 5 ∧ t = wordT wIn) ∨ n = 8 ∨ (t.1 = kOp ∧ ((n = 1 ∧ AssOp t.2) ∨ (n = 2 ∧ t.2 = [63]) ∨ (n ≠ 1 ∧ n ≠ 2 ∧ n ≠ 5 ∧ n ≠ 8 ∧ BinOp t.2 ∧ t.2 ≠ oCat)))
theorem binS {o : Bytes} (l : List Bytes) (h1 : l.all (fun o => decide (o ∈ ([[124, 124], [38, 38], [126], [33, 126], [62], [60], [60, 61], [61, 61], [33, 61], [62, 61], [43], [45], [42], [47], [37], [94]] : List Bytes))) = true) (h : o ∈ l) : BinOp o ∧ o ≠ oCat := by
  have h2 := of_decide_eq_true (List.all_eq_true.1 h1 o h)
  have h3 : (([[124, 124], [38, 38], [126], [33, 126], [62], [60], [60, 61], [61, 61], [33, 61], [62, 61], [43], [45], [42], [47], [37], [94]] : List Bytes) ++ [oCat]) = [[124, 124], [38, 38], [126], [33, 126], [62], [60], [60, 61], [61, 61], [33, 61], [62, 61], [43], [45], [42], [47], [37], [94], oCat] := rfl
  refine ⟨?_, ?_⟩
  · unfold BinOp
    rw [← h3]
    exact List.mem_append_left _ h2
  · intro e
    rw [e] at h2
    exact absurd h2 (by decide)
theorem lev_cases (pr : Bool) (t : Tok) : LevP t (levelS pr t) := by
  have B : ∀ {n : Nat} (l : List Bytes), t.1 = kOp → n ≠ 1 → n ≠ 2 → n ≠ 5 → n ≠ 8 → l.all (fun o => decide (o ∈ ([[124, 124], [38, 38], [126], [33, 126], [62], [60], [60, 61], [61, 61], [33, 61], [62, 61], [43], [45], [42], [47], [37], [94]] : List Bytes))) = true → t.2 ∈ l → LevP t n := by
    intro n l hk h1 h2 h5 h8 ha hm
    have := binS l ha hm
    exact .inr (.inr (.inr ⟨hk, .inr (.inr ⟨h1, h2, h5, h8, this.1, this.2⟩)⟩))
  unfold levelS
  refine iteP (fun h => .inr (.inl ⟨rfl, h⟩)) (fun _ => ?_)
  refine iteP (fun h => .inr (.inr (.inl rfl))) (fun _ => ?_)
  refine iteP (fun h => .inl rfl) (fun hk => ?_)
  have hk : t.1 = kOp := Decidable.not_not.1 hk
  refine iteP (fun h => .inr (.inr (.inr ⟨hk, .inl ⟨rfl, h⟩⟩))) (fun _ => ?_)
  refine iteP (fun h => .inr (.inr (.inr ⟨hk, .inr (.inl ⟨rfl, h⟩)⟩))) (fun _ => ?_)
  refine iteP (fun h => B [[124, 124]] hk (by decide) (by decide) (by decide) (by decide) (by decide) (List.mem_singleton.2 h)) (fun _ => ?_)
  refine iteP (fun h => B [[38, 38]] hk (by decide) (by decide) (by decide) (by decide) (by decide) (List.mem_singleton.2 h)) (fun _ => ?_)
  refine iteP (fun h => B _ hk (by decide) (by decide) (by decide) (by decide) (by decide) h) (fun _ => ?_)
  refine iteP (fun h => iteP (fun _ => .inl rfl) (fun _ => B [[62]] hk (by decide) (by decide) (by decide) (by decide) (by decide) (List.mem_singleton.2 h))) (fun _ => ?_)
  refine iteP (fun h => B _ hk (by decide) (by decide) (by decide) (by decide) (by decide) h) (fun _ => ?_)
  refine iteP (fun h => B _ hk (by decide) (by decide) (by decide) (by decide) (by decide) h) (fun _ => ?_)
  refine iteP (fun h => B _ hk (by decide) (by decide) (by decide) (by decide) (by decide) h) (fun _ => .inl rfl)
theorem lev_ne {pr : Bool} {t : Tok} (h : levelS pr t ≠ 0) : t ≠ ([], []) := by
  rintro rfl
  exact h (by cases pr <;> rfl)
theorem in_len {t : Bytes} {l : List NTree} : sl (.mk wIn t l) = jl l + t.length + 6 := by
  unfold sl jl
  rw [s_in]
  simp only [List.length_append, List.length_cons, List.length_nil]; omega
theorem as_len {o : Bytes} {x y : NTree} : sl (.mk oAssign o [x, y]) = sl x + sl y + o.length + 4 := by
  unfold sl
  rw [s_assign]
  simp only [List.length_append, List.length_cons, List.length_nil]; omega
theorem co_len {o : Bytes} {x y z : NTree} : sl (.mk oCond o [x, y, z]) = sl x + sl y + sl z + 12 := by
  unfold sl
  rw [s_cond]
  simp only [List.length_append, List.length_cons, List.length_nil]; omega
theorem O_exprL (H : SO r) (least : Nat) (pr : Bool) : ∀ (f : Nat) (left : NTree) (b : Nat) (ts : List Tok), Sh true left → TokS ts → ∀ e u, exprL r least pr f left b ts = .ok e u → Sh true e ∧ TokS u ∧ sl e + wts u ≤ sl left + wts ts
  | 0, _, _, _, _, _, _, _, h => by cases h
  | f + 1, left, b, ts, hl, hT, e, u, h => by
    rw [exprL] at h
    have hL := lev_cases pr (atS 0 ts)
    by_cases h0 : levelS pr (atS 0 ts) < least ∨ b < levelS pr (atS 0 ts) ∨ levelS pr (atS 0 ts) = 0
    · rw [if_pos h0] at h; cases h; exact ⟨hl, hT, Nat.le_refl _⟩
    rw [if_neg h0] at h
    have hne : levelS pr (atS 0 ts) ≠ 0 := fun e => h0 (.inr (.inr e))
    have hw := wts1 rfl (lev_ne hne)
    rw [wt] at hw
    by_cases h1 : levelS pr (atS 0 ts) = 1
    · rw [if_pos h1] at h
      have ha : AssOp (atS 0 ts).2 := by
        rcases hL with g | g | g | ⟨_, g | g | g⟩
        · omega
        · omega
        · omega
        · exact g.2
        · omega
        · omega
      by_cases hp : placeB left = true
      · rw [if_pos hp] at h
        obtain ⟨y, v, h2, h⟩ := bnd_ok h
        cases h
        obtain ⟨g1, g2, g3⟩ := H.expr _ _ _ (hT.drop 1) y _ h2
        refine ⟨.assign ha hp hl g1, g2, ?_⟩
        rw [as_len]; omega
      · rw [if_neg hp] at h; cases h
    rw [if_neg h1] at h
    by_cases h2 : levelS pr (atS 0 ts) = 2
    · rw [if_pos h2] at h
      have hx := nls_ok (hT.drop 1)
      obtain ⟨x, v, k1, h3⟩ := bnd_ok h
      obtain ⟨g1, g2, g3⟩ := H.expr _ _ _ hx.1 x v k1
      obtain ⟨_, w, k2, h4⟩ := bnd_ok h3
      obtain ⟨g4, g5⟩ := need_ok (opT_nz _) k2 g2
      have hy := nls_ok g4
      obtain ⟨y, z, k3, h5⟩ := bnd_ok h4
      obtain ⟨g6, g7, g8⟩ := H.expr _ _ _ hy.1 y z k3
      cases h5
      refine ⟨.cond hl g1 g6, g7, ?_⟩
      rw [wt] at g5
      rw [co_len]; omega
    rw [if_neg h2] at h
    by_cases h5 : levelS pr (atS 0 ts) = 5
    · rw [if_pos h5] at h
      obtain ⟨x, v, k1, h3⟩ := bnd_ok h
      obtain ⟨g1, g2, g3⟩ := kind_name k1 (hT.drop 1)
      have := O_exprL H least pr f _ 5 v (.within g1 (List.cons_ne_nil _ _) (by simpa using hl)) g2 e u h3
      rw [in_len, jl_one] at this
      exact ⟨this.1, this.2.1, by omega⟩
    rw [if_neg h5] at h
    by_cases h8 : levelS pr (atS 0 ts) = 8
    · rw [if_pos h8] at h
      obtain ⟨x, v, k1, h3⟩ := bnd_ok h
      obtain ⟨g1, g2, g3⟩ := H.expr _ _ _ hT x v k1
      have := O_exprL H least pr f _ 8 v (.bin (by unfold BinOp; decide) hl g1) g2 e u h3
      rw [cat_len] at this
      exact ⟨this.1, this.2.1, by omega⟩
    rw [if_neg h8] at h
    have hb : BinOp (atS 0 ts).2 ∧ (atS 0 ts).2 ≠ oCat := by
      rcases hL with g | g | g | ⟨_, g | g | g⟩
      · omega
      · omega
      · omega
      · omega
      · omega
      · exact ⟨g.2.2.2.2.1, g.2.2.2.2.2⟩
    obtain ⟨x, v, k1, h3⟩ := bnd_ok h
    have hx : TokS (if levelS pr (atS 0 ts) ≤ 4 then nlsS (ts.drop 1) else ts.drop 1) ∧ wts (if levelS pr (atS 0 ts) ≤ 4 then nlsS (ts.drop 1) else ts.drop 1) ≤ wts (ts.drop 1) := by
      split
      · exact nls_ok (hT.drop 1)
      · exact ⟨hT.drop 1, Nat.le_refl _⟩
    obtain ⟨g1, g2, g3⟩ := H.expr _ _ _ hx.1 x v k1
    have := O_exprL H least pr f _ _ v (.bin hb.1 hl g1) g2 e u h3
    rw [bin_len hb.2] at this
    exact ⟨this.1, this.2.1, by omega⟩
theorem O_expr (H : SO r) (least : Nat) (pr : Bool) (ts : List Tok) (hT : TokS ts) : EOk (exprS r least pr ts) ts := by
  intro e u h
  unfold exprS at h
  obtain ⟨x, v, h1, h2⟩ := bnd_ok h
  obtain ⟨g1, g2, g3⟩ := H.unary ts hT x v h1
  obtain ⟨k1, k2, k3⟩ := O_exprL H least pr _ x 10 v g1 g2 e u h2
  exact ⟨k1, k2, by omega⟩
theorem enc_len (t : Bytes) : (quoteS t).length = 4 * t.length + 2 := by simp [quoteS, encS_len]
theorem O_operand (H : SO r) (ts : List Tok) (hT : TokS ts) : EOk (opndS r ts) ts := by
  intro e u h
  unfold opndS at h
  have hA := at_ok hT
  by_cases h0 : atS 0 ts = ([], [])
  · rw [if_pos h0] at h; cases h
  rw [if_neg h0] at h
  have hw := wts1 rfl h0
  rw [wt] at hw
  by_cases h1 : (atS 0 ts).1 ∈ [kNum, kStr, kEre]
  · rw [if_pos h1] at h
    cases h
    have hc : (atS 0 ts).1 = kNum ∨ (atS 0 ts).1 = kStr ∨ (atS 0 ts).1 = kEre := by simpa using h1
    refine ⟨?_, hT.drop 1, ?_⟩
    · rcases hc with g | g | g
      · rw [g]; exact .num (hA.num g)
      · rw [g]; exact .str
      · rw [g]; exact .ere (hA.ere g)
    · unfold sl
      rcases hc with g | g | g
      · rw [g, s_num]; omega
      · rw [g, s_str, enc_len]; omega
      · rw [g, s_ere]
        have := slashes_len (atS 0 ts).2
        simp only [List.length_append, List.length_cons, List.length_nil]; omega
  rw [if_neg h1] at h
  by_cases h2 : (atS 0 ts).1 = kName
  · rw [if_pos h2] at h
    have hn := hA.name h2
    by_cases h3 : atS 1 ts = opT [91]
    · rw [if_pos h3] at h
      obtain ⟨l, v, k1, k2⟩ := bnd_ok h
      cases k2
      obtain ⟨g1, g2, g3, g4⟩ := O_subs H _ (hT.drop 2) k1
      have hw2 := wts2k (ts := ts) (by rw [h2]; decide)
      refine ⟨.elem hn g1 g2, g3, ?_⟩
      unfold sl jl at *
      rw [s_elem]
      simp only [List.length_append, List.length_cons, List.length_nil]; omega
    · rw [if_neg h3] at h
      cases h
      refine ⟨.var hn, hT.drop 1, ?_⟩
      unfold sl
      rw [s_var]; omega
  rw [if_neg h2] at h
  by_cases h4 : (atS 0 ts).1 = kFunc
  · rw [if_pos h4] at h
    obtain ⟨l, v, k1, k2⟩ := bnd_ok h
    cases k2
    obtain ⟨g1, g2, g3⟩ := O_args H _ (hT.drop 2) k1
    have hw2 := wts2k (ts := ts) (by rw [h4]; decide)
    refine ⟨.call (hA.func h4) g1, g2, ?_⟩
    unfold sl jl at *
    rw [s_call]
    simp only [List.length_append, List.length_cons, List.length_nil]; omega
  rw [if_neg h4] at h
  by_cases h5 : (atS 0 ts).1 = kBuilt
  · rw [if_pos h5] at h
    have hb := hA.built h5
    by_cases h6 : atS 1 ts = opT [40]
    · rw [if_pos h6] at h
      obtain ⟨l, v, k1, k2⟩ := bnd_ok h
      cases k2
      obtain ⟨g1, g2, g3⟩ := O_args H _ (hT.drop 2) k1
      have hw2 := wts2k (ts := ts) (by rw [h5]; decide)
      refine ⟨.built hb g1, g2, ?_⟩
      unfold sl jl at *
      rw [s_built]
      simp only [List.length_append, List.length_cons, List.length_nil]; omega
    · rw [if_neg h6] at h
      by_cases h7 : (atS 0 ts).2 = sLength
      · rw [if_pos h7] at h
        cases h
        refine ⟨.built hb (by simp), hT.drop 1, ?_⟩
        unfold sl
        rw [s_built]
        simp only [showsS, joinS, List.length_append, List.length_cons, List.length_nil]
        rw [h7] at hw ⊢
        simp only [sLength, List.length_cons, List.length_nil] at hw ⊢
        omega
      · rw [if_neg h7] at h; cases h
  rw [if_neg h5] at h
  by_cases h8 : atS 0 ts = opT [40]
  · rw [if_pos h8] at h
    rw [h8] at hw
    obtain ⟨l, v, k1, k2⟩ := bnd_ok h
    obtain ⟨g1, g2, g3, g4⟩ := O_list H false _ (hT.drop 1) l v k1
    obtain ⟨_, w, k3, k4⟩ := bnd_ok k2
    obtain ⟨g5, g6⟩ := need_ok (opT_nz _) k3 g3
    simp only [wt, opT, List.length_cons, List.length_nil] at hw g6
    by_cases h9 : l.length = 1
    · rw [if_pos h9] at k4
      cases k4
      obtain ⟨x, rfl⟩ : ∃ x, l = [x] := by
        match l, h9 with
        | [x], _ => exact ⟨x, rfl⟩
      refine ⟨.group (g2 x (by simp)), g5, ?_⟩
      rw [jl_one] at g4
      unfold sl at *
      rw [s_group]; omega
    · rw [if_neg h9] at k4
      by_cases h10 : atS 0 w = wordT wIn
      · rw [if_pos h10] at k4
        have hw2 := wts1 h10 (wordT_nz _)
        obtain ⟨x, z, k5, k6⟩ := bnd_ok k4
        cases k6
        obtain ⟨g7, g8, g9⟩ := kind_name k5 (g5.drop 1)
        refine ⟨.within g7 g1 g2, g8, ?_⟩
        rw [in_len]
        omega
      · rw [if_neg h10] at k4
        cases k4
        refine ⟨.lst rfl g2, g5, ?_⟩
        unfold sl
        rw [s_list]
        simp only [List.length_nil]; omega
  rw [if_neg h8] at h
  by_cases h11 : atS 0 ts = opT [36]
  · rw [if_pos h11] at h
    rw [h11] at hw
    simp only [wt, opT, List.length_cons, List.length_nil] at hw
    have fl : ∀ x : NTree, sl (.mk oField [] [x]) = sl x + 3 := by
      intro x
      unfold sl
      rw [s_field]
      simp only [List.length_append, List.length_cons, List.length_nil]; omega
    obtain ⟨o, v, k1, k2⟩ := bnd_ok h
    have hO := O_ahead H _ (hT.drop 1) k1
    cases o with
    | some x =>
      cases k2
      obtain ⟨g1, g2, g3⟩ := hO
      exact ⟨.field g1, g2, by rw [fl]; omega⟩
    | none =>
      simp only at hO k2
      subst hO
      obtain ⟨x, w, k3, k4⟩ := bnd_ok k2
      cases k4
      obtain ⟨g1, g2, g3⟩ := H.operand _ (hT.drop 1) x _ k3
      exact ⟨.field g1, g2, by rw [fl]; omega⟩
  · rw [if_neg h11] at h; cases h
theorem EOk.out {ts : List Tok} : EOk .out ts := fun _ _ h => nomatch h
theorem SO_all : ∀ n : Nat, SO (recN n)
  | 0 => ⟨fun _ _ _ _ => EOk.out, fun _ _ => EOk.out, fun _ _ => EOk.out, fun _ _ => EOk.out⟩
  | n + 1 => ⟨O_expr (SO_all n), O_unary (SO_all n), O_exponent (SO_all n), O_operand (SO_all n)⟩
end
end Go.AD.Lx
namespace Go.AD.Lx
/-! ### what is shown, as tokens -/
def joinT : List (List Tok) → List Tok
  | [] => []
  | x :: l => x ++ l.flatMap fun y => opT [44] :: y
def parT (x : List Tok) : List Tok := opT [40] :: (x ++ [opT [41]])
def tkOp (op text : Bytes) (l : List (List Tok)) : List Tok :=
  if op = kNum then [(kNum, text)]
  else if op = oVar then [(kName, text)]
  else if op = kStr then [(kStr, text)]
  else if op = kEre then [(kEre, text)]
  else if op = oElem then (kName, text) :: opT [91] :: (joinT l ++ [opT [93]])
  else if op = oCall then (kFunc, text) :: opT [40] :: (joinT l ++ [opT [41]])
  else if op = kBuilt then (kBuilt, text) :: opT [40] :: (joinT l ++ [opT [41]])
  else if op = oGroup then l.getD 0 []
  else if op = oField then opT [36] :: parT (l.getD 0 [])
  else if op = oUnary then opT text :: parT (l.getD 0 [])
  else if op = oBin then parT (l.getD 0 []) ++ ((if text = oCat then [] else [opT text]) ++ parT (l.getD 1 []))
  else if op = oCond then parT (l.getD 0 []) ++ (opT [63] :: (parT (l.getD 1 []) ++ (opT [58] :: parT (l.getD 2 []))))
  else if op = oAssign then l.getD 0 [] ++ (opT text :: parT (l.getD 1 []))
  else if op = oPre then opT text :: l.getD 0 []
  else if op = oPost then l.getD 0 [] ++ [opT text]
  else if op = wIn then opT [40] :: (joinT l ++ [opT [41], wordT wIn, (kName, text)])
  else []
mutual
def tk : NTree → List Tok
  | .mk op text kids => tkOp op text (tks kids)
def tks : List NTree → List (List Tok)
  | [] => []
  | k :: ks => tk k :: tks ks
end
theorem k_num {t : Bytes} {l : List NTree} : tk (.mk kNum t l) = [(kNum, t)] := by rw [tk]; rfl
theorem k_var {t : Bytes} {l : List NTree} : tk (.mk oVar t l) = [(kName, t)] := by rw [tk]; rfl
theorem k_str {t : Bytes} {l : List NTree} : tk (.mk kStr t l) = [(kStr, t)] := by rw [tk]; rfl
theorem k_ere {t : Bytes} {l : List NTree} : tk (.mk kEre t l) = [(kEre, t)] := by rw [tk]; rfl
theorem k_elem {t : Bytes} {l : List NTree} : tk (.mk oElem t l) = (kName, t) :: opT [91] :: (joinT (tks l) ++ [opT [93]]) := by rw [tk]; rfl
theorem k_call {t : Bytes} {l : List NTree} : tk (.mk oCall t l) = (kFunc, t) :: opT [40] :: (joinT (tks l) ++ [opT [41]]) := by rw [tk]; rfl
theorem k_built {t : Bytes} {l : List NTree} : tk (.mk kBuilt t l) = (kBuilt, t) :: opT [40] :: (joinT (tks l) ++ [opT [41]]) := by rw [tk]; rfl
theorem k_group {t : Bytes} {x : NTree} : tk (.mk oGroup t [x]) = tk x := by rw [tk, tks, tks]; rfl
theorem k_in {t : Bytes} {l : List NTree} : tk (.mk wIn t l) = opT [40] :: (joinT (tks l) ++ [opT [41], wordT wIn, (kName, t)]) := by rw [tk]; rfl
theorem k_field {t : Bytes} {x : NTree} : tk (.mk oField t [x]) = opT [36] :: parT (tk x) := by rw [tk, tks, tks]; rfl
theorem k_unary {t : Bytes} {x : NTree} : tk (.mk oUnary t [x]) = opT t :: parT (tk x) := by rw [tk, tks, tks]; rfl
theorem k_bin {t : Bytes} {x y : NTree} : tk (.mk oBin t [x, y]) = parT (tk x) ++ ((if t = oCat then [] else [opT t]) ++ parT (tk y)) := by rw [tk, tks, tks, tks]; rfl
theorem k_cond {t : Bytes} {x y z : NTree} : tk (.mk oCond t [x, y, z]) = parT (tk x) ++ (opT [63] :: (parT (tk y) ++ (opT [58] :: parT (tk z)))) := by rw [tk, tks, tks, tks, tks]; rfl
theorem k_assign {t : Bytes} {x y : NTree} : tk (.mk oAssign t [x, y]) = tk x ++ (opT t :: parT (tk y)) := by rw [tk, tks, tks, tks]; rfl
theorem k_pre {t : Bytes} {x : NTree} : tk (.mk oPre t [x]) = opT t :: tk x := by rw [tk, tks, tks]; rfl
theorem k_post {t : Bytes} {x : NTree} : tk (.mk oPost t [x]) = tk x ++ [opT t] := by rw [tk, tks, tks]; rfl
/-! ### the lexer, step by step -/
def lexW (s : Bytes) (ts : List Tok) : Option (List Tok) := lexU (s.length + 1) s ts
theorem lexW_nil (ts : List Tok) : lexW [] ts = some ts := by unfold lexW; rw [lexU, if_pos rfl]
theorem lexW_step {s s' : Bytes} {ts ts' : List Tok} (hs : s ≠ []) (h : tokenS s ts = some (s', ts')) : lexW s ts = lexW s' ts' := by
  have := (token_le hs h).1
  unfold lexW
  rw [lexU, if_neg hs, h]
  exact lexU_fuel _ _ _ _ (by omega) (by omega)
theorem op_end (ts : List Tok) (k : Tok) : operandS (ts ++ [k]) = tokOperand k := by
  unfold operandS
  rw [List.getLast?_concat]
/-- A byte with which nothing but signs begins. -/
structure OpHead (c : UInt8) : Prop where
  blank : ¬ (c.toNat = 32 ∨ c.toNat = 9)
  back : c ≠ 92
  com : c.toNat ≠ 35
  nl : c.toNat ≠ 10
  dig : digitB c = false
  dot : c.toNat ≠ 46
  quo : c.toNat ≠ 34
  let_ : letterB c = false
theorem no_cont {c : UInt8} {r : Bytes} (h : c ≠ 92) : ¬ Lib.hasPrefix (c :: r) [92, 10] = true := by
  have : ((92 : UInt8) == c) = false := by simpa using Ne.symm h
  simp [Lib.hasPrefix, List.isPrefixOf, this]
theorem tok_op {c : UInt8} {r : Bytes} {ts : List Tok} (hc : OpHead c) (ho : c.toNat ≠ 47 ∨ operandS ts = true) : tokenS (c :: r) ts = opTok (c :: r) ts := by
  have e : (c :: r).getD 0 0 = c := rfl
  unfold tokenS
  rw [e, if_neg hc.blank, if_neg (no_cont hc.back), if_neg hc.com, if_neg hc.nl, number_zero hc.dig hc.dot, if_neg (by decide), if_neg hc.quo, if_neg, if_neg (by rw [hc.let_]; decide)]
  rintro ⟨h1, h2⟩
  rcases ho with h | h
  · exact h h1
  · rw [h] at h2; cases h2
theorem op2 {c d : UInt8} {r : Bytes} {ts : List Tok} (hc : OpHead c) (h : listedS lTwos [c, d] = true) (ho : c.toNat ≠ 47 ∨ operandS ts = true) : lexW (c :: d :: r) ts = lexW r (ts ++ [opT [c, d]]) := by
  refine lexW_step (by simp) ?_
  rw [tok_op hc ho]
  unfold opTok
  have e : (c :: d :: r).take 2 = [c, d] := by simp
  rw [e, h, if_pos (by simp)]
  rfl
theorem op1 {c : UInt8} {r : Bytes} {ts : List Tok} (hc : OpHead c) (h : ∀ y, r.head? = some y → listedS lTwos [c, y] = false) (h1 : 0 ≤ Lib.indexByte lOnes c) (ho : c.toNat ≠ 47 ∨ operandS ts = true) : lexW (c :: r) ts = lexW r (ts ++ [opT [c]]) := by
  refine lexW_step (by simp) ?_
  rw [tok_op hc ho]
  unfold opTok
  have e : (c :: r).getD 0 0 = c := rfl
  rw [if_neg, e, if_pos h1]
  · rfl
  · rw [Bool.and_eq_true]
    rintro ⟨g1, g2⟩
    cases r with
    | nil => simp at g1
    | cons y r =>
      have e : (c :: y :: r).take 2 = [c, y] := by simp
      rw [e, h y rfl] at g2
      cases g2
/-- A sign of its own, whatever stands behind it. -/
structure One (c : UInt8) : Prop where
  head : OpHead c
  sl : c.toNat ≠ 47
  one : 0 ≤ Lib.indexByte lOnes c
  two : ∀ y, listedS lTwos [c, y] = false
theorem one40 : One 40 := ⟨⟨by decide, by decide, by decide, by decide, by decide, by decide, by decide, by decide⟩, by decide, by decide, allU8 (by decide +kernel)⟩
theorem one41 : One 41 := ⟨⟨by decide, by decide, by decide, by decide, by decide, by decide, by decide, by decide⟩, by decide, by decide, allU8 (by decide +kernel)⟩
theorem one91 : One 91 := ⟨⟨by decide, by decide, by decide, by decide, by decide, by decide, by decide, by decide⟩, by decide, by decide, allU8 (by decide +kernel)⟩
theorem one93 : One 93 := ⟨⟨by decide, by decide, by decide, by decide, by decide, by decide, by decide, by decide⟩, by decide, by decide, allU8 (by decide +kernel)⟩
theorem one44 : One 44 := ⟨⟨by decide, by decide, by decide, by decide, by decide, by decide, by decide, by decide⟩, by decide, by decide, allU8 (by decide +kernel)⟩
theorem one36 : One 36 := ⟨⟨by decide, by decide, by decide, by decide, by decide, by decide, by decide, by decide⟩, by decide, by decide, allU8 (by decide +kernel)⟩
theorem one63 : One 63 := ⟨⟨by decide, by decide, by decide, by decide, by decide, by decide, by decide, by decide⟩, by decide, by decide, allU8 (by decide +kernel)⟩
theorem one58 : One 58 := ⟨⟨by decide, by decide, by decide, by decide, by decide, by decide, by decide, by decide⟩, by decide, by decide, allU8 (by decide +kernel)⟩
theorem stop41 : Stop 41 := ⟨by decide, by decide, by decide, by decide, by decide, by decide, by decide, by decide, allU8 (by decide +kernel)⟩
theorem stop44 : Stop 44 := ⟨by decide, by decide, by decide, by decide, by decide, by decide, by decide, by decide, allU8 (by decide +kernel)⟩
theorem stop93 : Stop 93 := ⟨by decide, by decide, by decide, by decide, by decide, by decide, by decide, by decide, allU8 (by decide +kernel)⟩
theorem one_step {c : UInt8} (h : One c) (r : Bytes) (ts : List Tok) : lexW (c :: r) ts = lexW r (ts ++ [opT [c]]) := op1 h.head (fun y _ => h.two y) h.one (.inl h.sl)
theorem blank_step (r : Bytes) (ts : List Tok) : lexW (32 :: r) ts = lexW r ts := lexW_step (by simp) (token_blank (.inl rfl))
theorem nl_step (r : Bytes) (ts : List Tok) : lexW (10 :: r) ts = lexW r (ts ++ [(kNl, [])]) := by
  refine lexW_step (by simp) ?_
  have e : (10 :: r).getD 0 0 = 10 := rfl
  unfold tokenS
  rw [e, if_neg (by decide), if_neg (no_cont (by decide)), if_neg (by decide), if_pos (by decide)]
  rfl
/-- A text that is read as these tokens, where a text begins and ends. -/
def LexE (s : Bytes) (l : List Tok) : Prop := ∀ (x : UInt8) (t : Bytes) (ts : List Tok), Stop x → operandS ts = false → lexW (s ++ x :: t) ts = lexW (x :: t) (ts ++ l)
/-- .. whatever stands ahead. -/
def LexP (s : Bytes) (l : List Tok) : Prop := ∀ (x : UInt8) (t : Bytes) (ts : List Tok), innerB x = false → x.toNat ≠ 40 → lexW (s ++ x :: t) ts = lexW (x :: t) (ts ++ l)
theorem num_head {c : UInt8} {r : Bytes} (h : 0 < numberL (c :: r)) : ¬ (c.toNat = 32 ∨ c.toNat = 9) ∧ c ≠ 92 ∧ c.toNat ≠ 35 ∧ c.toNat ≠ 10 := by
  have hc : digitB c = true ∨ c.toNat = 46 := by
    by_cases h1 : digitB c = true
    · exact .inl h1
    · by_cases h2 : c.toNat = 46
      · exact .inr h2
      · rw [number_zero (by simpa using h1) h2] at h; omega
  have := allU8 (p := fun c => digitB c = true ∨ c.toNat = 46 → ¬ (c.toNat = 32 ∨ c.toNat = 9) ∧ c ≠ 92 ∧ c.toNat ≠ 35 ∧ c.toNat ≠ 10) (by decide +kernel) c
  exact this hc
theorem lex_num {t : Bytes} (h : NumOk t) : LexE t [(kNum, t)] := by
  intro x u ts hx ho
  obtain ⟨h1, h2⟩ := h
  cases t with
  | nil => simp at h1
  | cons c t =>
    obtain ⟨g1, g2, g3, g4⟩ := num_head (c := c) (r := t) (by rw [h2]; exact h1)
    refine lexW_step (by simp) ?_
    have hn : numberL ((c :: t) ++ x :: u) = (c :: t).length := by rw [number_app hx, h2]
    have e : ((c :: t) ++ x :: u).getD 0 0 = c := rfl
    have e2 : (c :: t) ++ x :: u = c :: (t ++ x :: u) := rfl
    unfold tokenS
    rw [hn, e, if_neg g1, if_neg (by rw [e2]; exact no_cont g2), if_neg g3, if_neg g4, if_pos h1, List.drop_left, List.take_left]
theorem lex_str (t : Bytes) : LexE (quoteS t) [(kStr, t)] := by
  intro x u ts hx ho
  refine lexW_step (by simp [quoteS]) ?_
  have h34 : ((quoteS t).getD 0 0).toNat = 34 := rfl
  have h1 : quoteTok 34 inTextS kStr (quoteS t) ts = some ([], ts ++ [(kStr, t)]) := by
    have e1 : (quoteS t).drop 1 = encS t ++ [34] := rfl
    unfold quoteTok
    rw [e1, quoted_enc t [] _ (by rw [enc_len, encS_len]; omega)]
    rfl
  have hne : quoteS t ≠ [] := by simp [quoteS]
  rw [token_q1 (by rw [head_app hne]; exact h34), quoteTok_some (fun r hr => inText_app hx hr) inText_len hne h1, h1]
  rfl
theorem slashes_step {c : UInt8} {t : Bytes} (h : c ≠ 92) : slashesS (c :: t) = (if c = 47 then [92, 47] else [c]) ++ slashesS t := by
  cases t with
  | nil => rw [slashesS, slashesS]; split <;> rfl
  | cons d s =>
    rw [slashesS, if_neg h]
    split <;> rfl
theorem quoted_slashes {t : Bytes} (h : EreOk t) (u : Bytes) : ∀ (acc : Bytes) (f : Nat), (slashesS t).length + 1 < f → quotedS 47 inEreS f (slashesS t ++ 47 :: u) acc = some (acc ++ t, u) := by
  induction h with
  | nil =>
    intro acc f hf
    obtain ⟨f, rfl⟩ : ∃ m, f = m + 1 := ⟨f - 1, by omega⟩
    have e : slashesS [] ++ 47 :: u = 47 :: u := rfl
    have e2 : (47 :: u).getD 0 0 = 47 := rfl
    rw [e, quotedS, if_neg (by simp), e2, if_neg (by decide), if_pos rfl]
    simp
  | @one c t h1 h2 ht ih =>
    intro acc f hf
    obtain ⟨f, rfl⟩ : ∃ m, f = m + 1 := ⟨f - 1, by omega⟩
    have hc : c ≠ 92 := by rintro rfl; exact h2 rfl
    rw [slashes_step hc] at hf ⊢
    rw [List.length_append] at hf
    by_cases h47 : c = 47
    · rw [if_pos h47] at hf ⊢
      simp only [List.length_cons, List.length_nil] at hf
      have e : [92, 47] ++ slashesS t ++ 47 :: u = 92 :: 47 :: (slashesS t ++ 47 :: u) := by simp
      have e2 : (92 :: 47 :: (slashesS t ++ 47 :: u)).getD 0 0 = 92 := rfl
      have e3 : (92 :: 47 :: (slashesS t ++ 47 :: u)).drop 1 = 47 :: (slashesS t ++ 47 :: u) := rfl
      have e4 : inEreS (47 :: (slashesS t ++ 47 :: u)) = ([47], slashesS t ++ 47 :: u) := rfl
      rw [e, quotedS, if_neg (by simp), e2, e3, if_neg (by decide), if_neg (by decide), if_neg (by decide), if_neg (by simp), e4, ih _ _ (by omega), h47]
      simp
    · rw [if_neg h47] at hf ⊢
      simp only [List.length_cons, List.length_nil] at hf
      have e : [c] ++ slashesS t ++ 47 :: u = c :: (slashesS t ++ 47 :: u) := by simp
      have e2 : (c :: (slashesS t ++ 47 :: u)).getD 0 0 = c := rfl
      have e3 : (c :: (slashesS t ++ 47 :: u)).drop 1 = slashesS t ++ 47 :: u := rfl
      rw [e, quotedS, if_neg (by simp), e2, e3, if_neg h1, if_neg h47, if_pos h2, ih _ _ (by omega)]
      simp
  | @two c t h1 h2 ht ih =>
    intro acc f hf
    obtain ⟨f, rfl⟩ : ∃ m, f = m + 1 := ⟨f - 1, by omega⟩
    have e0 : slashesS (92 :: c :: t) = 92 :: c :: slashesS t := by rw [slashesS, if_pos rfl]
    rw [e0] at hf ⊢
    simp only [List.length_cons] at hf
    have e : (92 :: c :: slashesS t) ++ 47 :: u = 92 :: c :: (slashesS t ++ 47 :: u) := rfl
    have e2 : (92 :: c :: (slashesS t ++ 47 :: u)).getD 0 0 = 92 := rfl
    have e3 : (92 :: c :: (slashesS t ++ 47 :: u)).drop 1 = c :: (slashesS t ++ 47 :: u) := rfl
    have e4 : inEreS (c :: (slashesS t ++ 47 :: u)) = ([92, c], slashesS t ++ 47 :: u) := by
      have g : (c :: (slashesS t ++ 47 :: u)).getD 0 0 = c := rfl
      unfold inEreS
      rw [g, if_neg h1, if_neg h2]
      rfl
    rw [e, quotedS, if_neg (by simp), e2, e3, if_neg (by decide), if_neg (by decide), if_neg (by decide), if_neg (by simp), e4, ih _ _ (by omega)]
    simp
theorem lex_ere {t : Bytes} (h : EreOk t) : LexE ([47] ++ slashesS t ++ [47]) [(kEre, t)] := by
  intro x u ts hx ho
  have e : [47] ++ slashesS t ++ [47] ++ x :: u = 47 :: (slashesS t ++ 47 :: x :: u) := by simp
  rw [e]
  refine lexW_step (by simp) ?_
  rw [token_q2 (by rfl) ho]
  have e1 : (47 :: (slashesS t ++ 47 :: x :: u)).drop 1 = slashesS t ++ 47 :: x :: u := rfl
  unfold quoteTok
  rw [e1, quoted_slashes h (x :: u) [] _ (by simp; omega)]
  rfl
theorem let_head {c : UInt8} (h : letterB c = true) : ¬ (c.toNat = 32 ∨ c.toNat = 9) ∧ c ≠ 92 ∧ c.toNat ≠ 35 ∧ c.toNat ≠ 10 ∧ digitB c = false ∧ c.toNat ≠ 46 ∧ c.toNat ≠ 34 ∧ c.toNat ≠ 47 :=
  allU8 (p := fun c => letterB c = true → ¬ (c.toNat = 32 ∨ c.toNat = 9) ∧ c ≠ 92 ∧ c.toNat ≠ 35 ∧ c.toNat ≠ 10 ∧ digitB c = false ∧ c.toNat ≠ 46 ∧ c.toNat ≠ 34 ∧ c.toNat ≠ 47) (by decide +kernel) c h
theorem lex_word {t : Bytes} (h : WordOk t) (x : UInt8) (u : Bytes) (ts : List Tok) (hx : innerB x = false) : lexW (t ++ x :: u) ts = lexW (x :: u) (ts ++ [(if listedS lWords t = true then kWord else if listedS lBuilts t = true then kBuilt else if x.toNat = 40 then kFunc else kName, t)]) := by
  obtain ⟨h0, h1, h2, h3⟩ := h
  cases t with
  | nil => exact absurd rfl h0
  | cons c t =>
    have h1 : letterB c = true := h1
    obtain ⟨g1, g2, g3, g4, g5, g6, g7, g8⟩ := let_head h1
    refine lexW_step (by simp) ?_
    have e : ((c :: t) ++ x :: u).getD 0 0 = c := rfl
    have e2 : (c :: t) ++ x :: u = c :: (t ++ x :: u) := rfl
    have hz : numberL ((c :: t) ++ x :: u) = 0 := number_zero g5 g6
    have hs : spanL innerB ((c :: t) ++ x :: u) = (c :: t).length := by rw [span_app hx, h2]
    unfold tokenS
    rw [e, if_neg g1, if_neg (by rw [e2]; exact no_cont g2), if_neg g3, if_neg g4, hz, if_neg (by decide), if_neg g7, if_neg (fun h => g8 h.1), if_pos h1]
    unfold nameS
    rw [hs, List.take_left, List.drop_left, h3, if_neg (by decide)]
    have hp : (Lib.hasPrefix (x :: u) [40] = true) = (x.toNat = 40) := by
      apply propext
      simp only [Lib.hasPrefix, List.isPrefixOf, Bool.and_true, beq_iff_eq]
      constructor
      · intro h; rw [← h]; rfl
      · intro h; exact (UInt8.toNat_inj.1 h).symm
    simp only [hp]
theorem lex_name {t : Bytes} (h : NameOk t) (x : UInt8) (u : Bytes) (ts : List Tok) (hx : innerB x = false) (h40 : x.toNat ≠ 40) : lexW (t ++ x :: u) ts = lexW (x :: u) (ts ++ [(kName, t)]) := by
  rw [lex_word h.1 x u ts hx, h.2.1, h.2.2, if_neg (by decide), if_neg (by decide), if_neg h40]
theorem lex_func {t : Bytes} (h : NameOk t) (u : Bytes) (ts : List Tok) : lexW (t ++ 40 :: u) ts = lexW (40 :: u) (ts ++ [(kFunc, t)]) := by
  rw [lex_word h.1 40 u ts (by decide), h.2.1, h.2.2, if_neg (by decide), if_neg (by decide), if_pos (by decide)]
theorem lex_built {t : Bytes} (h : BuiltOk t) (u : Bytes) (ts : List Tok) : lexW (t ++ 40 :: u) ts = lexW (40 :: u) (ts ++ [(kBuilt, t)]) := by
  rw [lex_word h.1 40 u ts (by decide), h.2.1, h.2.2, if_neg (by decide), if_pos rfl]
theorem lex_in (u : Bytes) (ts : List Tok) : lexW (105 :: 110 :: 32 :: u) ts = lexW (32 :: u) (ts ++ [wordT wIn]) := by
  have h : WordOk [105, 110] := ⟨by decide, by decide, by decide, by decide +kernel⟩
  have := lex_word h 32 u ts (by decide)
  rw [if_pos (by decide +kernel)] at this
  exact this
/-! ### signs with blanks about them -/
theorem sp_op {o : Bytes} (h : BinOp o ∧ o ≠ oCat ∨ AssOp o) (u : Bytes) (ts : List Tok) (ho : operandS ts = true) : lexW (o ++ 32 :: u) ts = lexW (32 :: u) (ts ++ [opT o]) := by
  have one : ∀ c : UInt8, OpHead c → 0 ≤ Lib.indexByte lOnes c → listedS lTwos [c, 32] = false → lexW ([c] ++ 32 :: u) ts = lexW (32 :: u) (ts ++ [opT [c]]) := by
    intro c h1 h2 h3
    exact op1 h1 (fun y hy => by cases hy; exact h3) h2 (.inr ho)
  have two : ∀ c d : UInt8, OpHead c → listedS lTwos [c, d] = true → lexW ([c, d] ++ 32 :: u) ts = lexW (32 :: u) (ts ++ [opT [c, d]]) := by
    intro c d h1 h2
    exact op2 h1 h2 (.inr ho)
  have H : ∀ {c : UInt8}, (decide (¬ (c.toNat = 32 ∨ c.toNat = 9) ∧ c ≠ 92 ∧ c.toNat ≠ 35 ∧ c.toNat ≠ 10 ∧ digitB c = false ∧ c.toNat ≠ 46 ∧ c.toNat ≠ 34 ∧ letterB c = false)) = true → OpHead c := by
    intro c h
    obtain ⟨a1, a2, a3, a4, a5, a6, a7, a8⟩ := of_decide_eq_true h
    exact ⟨a1, a2, a3, a4, a5, a6, a7, a8⟩
  rcases h with ⟨h, hc⟩ | h
  · unfold BinOp at h
    simp only [List.mem_cons, List.not_mem_nil, or_false] at h
    rcases h with rfl | rfl | rfl | rfl | rfl | rfl | rfl | rfl | rfl | rfl | rfl | rfl | rfl | rfl | rfl | rfl | rfl
    · exact two _ _ (H (by decide)) (by decide +kernel)
    · exact two _ _ (H (by decide)) (by decide +kernel)
    · exact one _ (H (by decide)) (by decide) (by decide +kernel)
    · exact two _ _ (H (by decide)) (by decide +kernel)
    · exact one _ (H (by decide)) (by decide) (by decide +kernel)
    · exact one _ (H (by decide)) (by decide) (by decide +kernel)
    · exact two _ _ (H (by decide)) (by decide +kernel)
    · exact two _ _ (H (by decide)) (by decide +kernel)
    · exact two _ _ (H (by decide)) (by decide +kernel)
    · exact two _ _ (H (by decide)) (by decide +kernel)
    · exact one _ (H (by decide)) (by decide) (by decide +kernel)
    · exact one _ (H (by decide)) (by decide) (by decide +kernel)
    · exact one _ (H (by decide)) (by decide) (by decide +kernel)
    · exact one _ (H (by decide)) (by decide) (by decide +kernel)
    · exact one _ (H (by decide)) (by decide) (by decide +kernel)
    · exact one _ (H (by decide)) (by decide) (by decide +kernel)
    · exact absurd rfl hc
  · unfold AssOp at h
    simp only [List.mem_cons, List.not_mem_nil, or_false] at h
    rcases h with rfl | rfl | rfl | rfl | rfl | rfl | rfl
    · exact one _ (H (by decide)) (by decide) (by decide +kernel)
    · exact two _ _ (H (by decide)) (by decide +kernel)
    · exact two _ _ (H (by decide)) (by decide +kernel)
    · exact two _ _ (H (by decide)) (by decide +kernel)
    · exact two _ _ (H (by decide)) (by decide +kernel)
    · exact two _ _ (H (by decide)) (by decide +kernel)
    · exact two _ _ (H (by decide)) (by decide +kernel)
theorem opHead33 : OpHead 33 := ⟨by decide, by decide, by decide, by decide, by decide, by decide, by decide, by decide⟩
theorem opHead43 : OpHead 43 := ⟨by decide, by decide, by decide, by decide, by decide, by decide, by decide, by decide⟩
theorem opHead45 : OpHead 45 := ⟨by decide, by decide, by decide, by decide, by decide, by decide, by decide, by decide⟩
theorem sign_op {o : Bytes} (h : SignOp o) (u : Bytes) (ts : List Tok) : lexW (o ++ 40 :: u) ts = lexW (40 :: u) (ts ++ [opT o]) := by
  unfold SignOp at h
  simp only [List.mem_cons, List.not_mem_nil, or_false] at h
  rcases h with rfl | rfl | rfl
  · exact op1 opHead33 (fun y hy => by cases hy; decide +kernel) (by decide) (.inl (by decide))
  · exact op1 opHead43 (fun y hy => by cases hy; decide +kernel) (by decide) (.inl (by decide))
  · exact op1 opHead45 (fun y hy => by cases hy; decide +kernel) (by decide) (.inl (by decide))
theorem step_op {o : Bytes} (h : StepOp o) (u : Bytes) (ts : List Tok) : lexW (o ++ u) ts = lexW u (ts ++ [opT o]) := by
  unfold StepOp at h
  simp only [List.mem_cons, List.not_mem_nil, or_false] at h
  rcases h with rfl | rfl
  · exact op2 opHead43 (by decide +kernel) (.inl (by decide))
  · exact op2 opHead45 (by decide +kernel) (.inl (by decide))
/-! ### trees -/
theorem par_lex {s : Bytes} {l : List Tok} (h : LexE s l) (u : Bytes) (ts : List Tok) : lexW (([40] ++ s ++ [41]) ++ u) ts = lexW u (ts ++ parT l) := by
  have e : ([40] ++ s ++ [41]) ++ u = 40 :: (s ++ 41 :: u) := by simp
  rw [e, one_step one40, h 41 u _ stop41 (by rw [op_end]; decide +kernel), one_step one41]
  unfold parT
  simp
theorem par_end (ts l : List Tok) : operandS (ts ++ parT l) = true := by
  have e : ts ++ parT l = (ts ++ opT [40] :: l) ++ [opT [41]] := by simp [parT]
  rw [e, op_end]; decide +kernel
theorem tail_lex : ∀ {l : List NTree}, (∀ x ∈ l, LexE (showS x) (tk x)) → ∀ (x : UInt8) (t : Bytes) (ts : List Tok), Stop x →
    lexW ((showsS l).flatMap (fun y => [44, 32] ++ y) ++ x :: t) ts = lexW (x :: t) (ts ++ (tks l).flatMap fun y => opT [44] :: y)
  | [], _, x, t, ts, hx => by simp [showsS, tks]
  | a :: l, h, x, t, ts, hx => by
    have hl : ∀ x ∈ l, LexE (showS x) (tk x) := fun y hy => h y (List.mem_cons_of_mem _ hy)
    have ha := h a (List.mem_cons_self ..)
    have e : (showsS (a :: l)).flatMap (fun y => [44, 32] ++ y) ++ x :: t = 44 :: 32 :: (showS a ++ ((showsS l).flatMap (fun y => [44, 32] ++ y) ++ x :: t)) := by
      rw [showsS]; simp
    have e2 : (tks (a :: l)).flatMap (fun y => opT [44] :: y) = opT [44] :: (tk a ++ (tks l).flatMap fun y => opT [44] :: y) := by
      rw [tks]; simp
    have ho : operandS (ts ++ [opT [44]]) = false := by rw [op_end]; decide +kernel
    have hstep : lexW (showS a ++ ((showsS l).flatMap (fun y => [44, 32] ++ y) ++ x :: t)) (ts ++ [opT [44]]) = lexW ((showsS l).flatMap (fun y => [44, 32] ++ y) ++ x :: t) (ts ++ [opT [44]] ++ tk a) := by
      cases l with
      | nil => rw [showsS]; exact ha x t _ hx ho
      | cons b l =>
        have e3 : (showsS (b :: l)).flatMap (fun y => [44, 32] ++ y) ++ x :: t = 44 :: (32 :: showS b ++ (showsS l).flatMap (fun y => [44, 32] ++ y) ++ x :: t) := by
          rw [showsS]; simp
        rw [e3]
        exact ha 44 _ _ stop44 ho
    rw [e, one_step one44, blank_step, hstep, tail_lex hl x t _ hx, e2]
    simp
theorem join_lex {l : List NTree} (h : ∀ x ∈ l, LexE (showS x) (tk x)) (hne : l ≠ []) (x : UInt8) (t : Bytes) (ts : List Tok) (hx : Stop x) (ho : operandS ts = false) :
    lexW (joinS (showsS l) ++ x :: t) ts = lexW (x :: t) (ts ++ joinT (tks l)) := by
  cases l with
  | nil => exact absurd rfl hne
  | cons a l =>
    have hl : ∀ x ∈ l, LexE (showS x) (tk x) := fun y hy => h y (List.mem_cons_of_mem _ hy)
    have ha := h a (List.mem_cons_self ..)
    have e : joinS (showsS (a :: l)) ++ x :: t = showS a ++ ((showsS l).flatMap (fun y => [44, 32] ++ y) ++ x :: t) := by
      rw [showsS, joinS]; simp
    have hstep : lexW (showS a ++ ((showsS l).flatMap (fun y => [44, 32] ++ y) ++ x :: t)) ts = lexW ((showsS l).flatMap (fun y => [44, 32] ++ y) ++ x :: t) (ts ++ tk a) := by
      cases l with
      | nil => rw [showsS]; exact ha x t _ hx ho
      | cons b l =>
        have e3 : (showsS (b :: l)).flatMap (fun y => [44, 32] ++ y) ++ x :: t = 44 :: (32 :: showS b ++ (showsS l).flatMap (fun y => [44, 32] ++ y) ++ x :: t) := by
          rw [showsS]; simp
        rw [e3]
        exact ha 44 _ _ stop44 ho
    rw [e, hstep, tail_lex hl x t _ hx, tks, joinT]
    simp
/-- A list between two signs. -/
theorem args_lex {l : List NTree} (h : ∀ x ∈ l, LexE (showS x) (tk x)) {a b : UInt8} (ha : One a) (hb : One b) (hs : Stop b) (hao : tokOperand (opT [a]) = false) (u : Bytes) (ts : List Tok) :
    lexW (a :: (joinS (showsS l) ++ b :: u)) ts = lexW u (ts ++ opT [a] :: (joinT (tks l) ++ [opT [b]])) := by
  rw [one_step ha]
  cases l with
  | nil =>
    have e : joinS (showsS []) ++ b :: u = b :: u := by rw [showsS]; rfl
    rw [e, one_step hb, tks, joinT]
    simp
  | cons x l =>
    rw [join_lex h (by simp) b u _ hs (by rw [op_end]; exact hao), one_step hb]
    simp
theorem LexP.plain {s : Bytes} {l : List Tok} (h : LexP s l) : LexE s l := fun x t ts hx ho => h x t ts hx.inn hx.par
theorem kind_op (k : Bytes) (t : Bytes) (h : k = kNum ∨ k = kStr ∨ k = kEre ∨ k = kName) : tokOperand (k, t) = true := by
  unfold tokOperand
  exact if_pos h
theorem no_place {op text : Bytes} {kids : List NTree} (h : (op = oVar ∨ op = oElem ∨ op = oField) = False) : ¬ placeB (.mk op text kids) = true := by
  intro hp
  unfold placeB NTree.op at hp
  simp only [Bool.or_eq_true, decide_eq_true_eq] at hp
  rw [← h]; exact hp
/-- What is shown of a tree is read as its tokens. -/
theorem tree_lex {e : NTree} (h : Sh false e) : LexE (showS e) (tk e) ∧ (placeB e = true → LexP (showS e) (tk e) ∧ ∀ ts, operandS (ts ++ tk e) = true) := by
  induction h with
  | num h => rw [s_num, k_num]; exact ⟨lex_num h, fun hp => absurd hp (no_place (eq_false (by decide)))⟩
  | str => rw [s_str, k_str]; exact ⟨lex_str _, fun hp => absurd hp (no_place (eq_false (by decide)))⟩
  | ere h => rw [s_ere, k_ere]; exact ⟨lex_ere h, fun hp => absurd hp (no_place (eq_false (by decide)))⟩
  | @var t h =>
    rw [s_var, k_var]
    have P : LexP t [(kName, t)] := fun x u ts h1 h2 => lex_name h x u ts h1 h2
    exact ⟨P.plain, fun _ => ⟨P, fun ts => by rw [op_end]; exact kind_op _ _ (.inr (.inr (.inr rfl)))⟩⟩
  | @elem t l h hne hl ih =>
    rw [s_elem, k_elem]
    have P : LexP (t ++ [91] ++ joinS (showsS l) ++ [93]) ((kName, t) :: opT [91] :: (joinT (tks l) ++ [opT [93]])) := by
      intro x u ts h1 h2
      have e : t ++ [91] ++ joinS (showsS l) ++ [93] ++ x :: u = t ++ 91 :: (joinS (showsS l) ++ 93 :: x :: u) := by simp
      rw [e, lex_name h 91 _ ts (by decide) (by decide), args_lex (fun x hx => (ih x hx).1) one91 one93 stop93 (by decide +kernel)]
      simp
    refine ⟨P.plain, fun _ => ⟨P, fun ts => ?_⟩⟩
    have e : ts ++ (kName, t) :: opT [91] :: (joinT (tks l) ++ [opT [93]]) = (ts ++ (kName, t) :: opT [91] :: joinT (tks l)) ++ [opT [93]] := by simp
    rw [e, op_end]; decide +kernel
  | @call t l h hl ih =>
    rw [s_call, k_call]
    refine ⟨?_, fun hp => absurd hp (no_place (eq_false (by decide)))⟩
    intro x u ts hx ho
    have e : t ++ [40] ++ joinS (showsS l) ++ [41] ++ x :: u = t ++ 40 :: (joinS (showsS l) ++ 41 :: x :: u) := by simp
    rw [e, lex_func h, args_lex (fun x hx => (ih x hx).1) one40 one41 stop41 (by decide +kernel)]
    simp
  | @built t l h hl ih =>
    rw [s_built, k_built]
    refine ⟨?_, fun hp => absurd hp (no_place (eq_false (by decide)))⟩
    intro x u ts hx ho
    have e : t ++ [40] ++ joinS (showsS l) ++ [41] ++ x :: u = t ++ 40 :: (joinS (showsS l) ++ 41 :: x :: u) := by simp
    rw [e, lex_built h, args_lex (fun x hx => (ih x hx).1) one40 one41 stop41 (by decide +kernel)]
    simp
  | group h ih =>
    rw [s_group, k_group]
    exact ⟨ih.1, fun hp => absurd hp (no_place (eq_false (by decide)))⟩
  | lst h => cases h
  | @within t l h hne hl ih =>
    rw [s_in, k_in]
    refine ⟨?_, fun hp => absurd hp (no_place (eq_false (by decide)))⟩
    intro x u ts hx ho
    have e : [40] ++ joinS (showsS l) ++ [41, 32, 105, 110, 32] ++ t ++ x :: u = 40 :: (joinS (showsS l) ++ 41 :: 32 :: 105 :: 110 :: 32 :: (t ++ x :: u)) := by simp
    rw [e, args_lex (fun x hx => (ih x hx).1) one40 one41 stop41 (by decide +kernel), blank_step, lex_in, blank_step, lex_name h x u _ hx.inn hx.par]
    simp
  | @field y h ih =>
    rw [s_field, k_field]
    have P : LexP ([36] ++ ([40] ++ showS y ++ [41])) (opT [36] :: parT (tk y)) := by
      intro x u ts h1 h2
      have e : [36] ++ ([40] ++ showS y ++ [41]) ++ x :: u = 36 :: (([40] ++ showS y ++ [41]) ++ x :: u) := by simp
      rw [e, one_step one36, par_lex ih.1]
      simp
    refine ⟨P.plain, fun _ => ⟨P, fun ts => ?_⟩⟩
    have e : ts ++ opT [36] :: parT (tk y) = (ts ++ [opT [36]]) ++ parT (tk y) := by simp
    rw [e]
    exact par_end _ _
  | @unary o y ho h ih =>
    rw [s_unary, k_unary]
    refine ⟨?_, fun hp => absurd hp (no_place (eq_false (by decide)))⟩
    intro x u ts hx _
    have e : o ++ ([40] ++ showS y ++ [41]) ++ x :: u = o ++ 40 :: (showS y ++ [41] ++ x :: u) := by simp
    have e2 : 40 :: (showS y ++ [41] ++ x :: u) = ([40] ++ showS y ++ [41]) ++ x :: u := by simp
    rw [e, sign_op ho, e2, par_lex ih.1]
    simp
  | @bin o y z ho hy hz ihy ihz =>
    rw [s_bin, k_bin]
    refine ⟨?_, fun hp => absurd hp (no_place (eq_false (by decide)))⟩
    intro x u ts hx _
    by_cases hc : o = oCat
    · rw [if_pos hc, if_pos hc]
      have e : ([40] ++ showS y ++ [41]) ++ [32] ++ [] ++ [32] ++ ([40] ++ showS z ++ [41]) ++ x :: u = ([40] ++ showS y ++ [41]) ++ 32 :: 32 :: (([40] ++ showS z ++ [41]) ++ x :: u) := by simp
      rw [e, par_lex ihy.1, blank_step, blank_step, par_lex ihz.1]
      simp
    · rw [if_neg hc, if_neg hc]
      have e : ([40] ++ showS y ++ [41]) ++ [32] ++ o ++ [32] ++ ([40] ++ showS z ++ [41]) ++ x :: u = ([40] ++ showS y ++ [41]) ++ 32 :: (o ++ 32 :: (([40] ++ showS z ++ [41]) ++ x :: u)) := by simp
      rw [e, par_lex ihy.1, blank_step, sp_op (.inl ⟨ho, hc⟩) _ _ (par_end _ _), blank_step, par_lex ihz.1]
      simp
  | @cond y z w hy hz hw ihy ihz ihw =>
    rw [s_cond, k_cond]
    refine ⟨?_, fun hp => absurd hp (no_place (eq_false (by decide)))⟩
    intro x u ts hx _
    have e : ([40] ++ showS y ++ [41]) ++ [32, 63, 32] ++ ([40] ++ showS z ++ [41]) ++ [32, 58, 32] ++ ([40] ++ showS w ++ [41]) ++ x :: u = ([40] ++ showS y ++ [41]) ++ 32 :: 63 :: 32 :: (([40] ++ showS z ++ [41]) ++ 32 :: 58 :: 32 :: (([40] ++ showS w ++ [41]) ++ x :: u)) := by simp
    rw [e, par_lex ihy.1, blank_step, one_step one63, blank_step, par_lex ihz.1, blank_step, one_step one58, blank_step, par_lex ihw.1]
    simp
  | @assign o y z ho hp hy hz ihy ihz =>
    rw [s_assign, k_assign]
    refine ⟨?_, fun hp => absurd hp (no_place (eq_false (by decide)))⟩
    intro x u ts hx _
    obtain ⟨P, Q⟩ := ihy.2 hp
    have e : showS y ++ [32] ++ o ++ [32] ++ ([40] ++ showS z ++ [41]) ++ x :: u = showS y ++ 32 :: (o ++ 32 :: (([40] ++ showS z ++ [41]) ++ x :: u)) := by simp
    rw [e, P 32 _ ts (by decide) (by decide), blank_step, sp_op (.inr ho) _ _ (Q ts), blank_step, par_lex ihz.1]
    simp
  | @pre o y ho hp hy ih =>
    rw [s_pre, k_pre]
    refine ⟨?_, fun hp => absurd hp (no_place (eq_false (by decide)))⟩
    intro x u ts hx _
    obtain ⟨P, Q⟩ := ih.2 hp
    have e : o ++ showS y ++ x :: u = o ++ (showS y ++ x :: u) := by simp
    rw [e, step_op ho, P x u _ hx.inn hx.par]
    simp
  | @post o y ho hp hy ih =>
    rw [s_post, k_post]
    refine ⟨?_, fun hp => absurd hp (no_place (eq_false (by decide)))⟩
    intro x u ts hx _
    obtain ⟨P, Q⟩ := ih.2 hp
    have e : showS y ++ o ++ x :: u = showS y ++ (o ++ x :: u) := by simp
    have hs : lexW (showS y ++ (o ++ x :: u)) ts = lexW (o ++ x :: u) (ts ++ tk y) := by
      unfold StepOp at ho
      simp only [List.mem_cons, List.not_mem_nil, or_false] at ho
      rcases ho with rfl | rfl
      · exact P 43 _ ts (by decide) (by decide)
      · exact P 45 _ ts (by decide) (by decide)
    rw [e, hs, step_op ho]
    simp
/-- The text that is shown, as a program of its own. -/
theorem show_lex {e : NTree} (h : Sh false e) (hl : (showS e).length ≤ 19000) : lexS (showS e ++ [10]) = some (tk e ++ [(kNl, [])]) := by
  have h1 := (tree_lex h).1 10 [] [] stop10 rfl
  rw [nl_step, lexW_nil, List.nil_append] at h1
  rw [lexS_U (f := (showS e ++ [10]).length + 1) (by simp; omega) (Nat.lt_succ_self _)]
  exact h1
end Go.AD.Lx
namespace Go.AD.Lx
/-! ### what is shown, parsed -/
def grp (x : NTree) : NTree := .mk oGroup [] [x]
def rgOp (op text : Bytes) (l : List NTree) : NTree :=
  if op = oGroup then l.headD noneN
  else if op = oField then .mk oField text [grp (l.headD noneN)]
  else if op = oUnary then .mk oUnary text [grp (l.headD noneN)]
  else if op = oBin then .mk oBin text [grp (l.headD noneN), grp (l.getD 1 noneN)]
  else if op = oCond then .mk oCond text [grp (l.headD noneN), grp (l.getD 1 noneN), grp (l.getD 2 noneN)]
  else if op = oAssign then .mk oAssign text [l.headD noneN, grp (l.getD 1 noneN)]
  else if op = wIn ∧ l.length = 1 then .mk wIn text [grp (l.headD noneN)]
  else .mk op text l
mutual
/-- The tree that is parsed of what is shown of a tree. -/
def rg : NTree → NTree
  | .mk op text kids => rgOp op text (rgs kids)
def rgs : List NTree → List NTree
  | [] => []
  | k :: ks => rg k :: rgs ks
end
theorem rgs_len : ∀ l : List NTree, (rgs l).length = l.length
  | [] => rfl
  | k :: ks => by rw [rgs, List.length_cons, rgs_len ks, List.length_cons]
/-- Ops whose trees stay, but for their parts. -/
theorem g_mk {op t : Bytes} {l : List NTree} (h : (op = oGroup ∨ op = oField ∨ op = oUnary ∨ op = oBin ∨ op = oCond ∨ op = oAssign ∨ op = wIn) = False) : rg (.mk op t l) = .mk op t (rgs l) := by
  have h' : ¬ (op = oGroup ∨ op = oField ∨ op = oUnary ∨ op = oBin ∨ op = oCond ∨ op = oAssign ∨ op = wIn) := by rw [h]; exact id
  simp only [not_or] at h'
  obtain ⟨h1, h2, h3, h4, h5, h6, h7⟩ := h'
  rw [rg]; unfold rgOp
  rw [if_neg h1, if_neg h2, if_neg h3, if_neg h4, if_neg h5, if_neg h6, if_neg (fun h => h7 h.1)]
theorem g_num {t : Bytes} : rg (.mk kNum t []) = .mk kNum t [] := by rw [g_mk (eq_false (by decide)), rgs]
theorem g_str {t : Bytes} : rg (.mk kStr t []) = .mk kStr t [] := by rw [g_mk (eq_false (by decide)), rgs]
theorem g_ere {t : Bytes} : rg (.mk kEre t []) = .mk kEre t [] := by rw [g_mk (eq_false (by decide)), rgs]
theorem g_var {t : Bytes} : rg (.mk oVar t []) = .mk oVar t [] := by rw [g_mk (eq_false (by decide)), rgs]
theorem g_elem {t : Bytes} {l : List NTree} : rg (.mk oElem t l) = .mk oElem t (rgs l) := g_mk (eq_false (by decide))
theorem g_call {t : Bytes} {l : List NTree} : rg (.mk oCall t l) = .mk oCall t (rgs l) := g_mk (eq_false (by decide))
theorem g_built {t : Bytes} {l : List NTree} : rg (.mk kBuilt t l) = .mk kBuilt t (rgs l) := g_mk (eq_false (by decide))
theorem g_pre {t : Bytes} {x : NTree} : rg (.mk oPre t [x]) = .mk oPre t [rg x] := by rw [g_mk (eq_false (by decide)), rgs, rgs]
theorem g_post {t : Bytes} {x : NTree} : rg (.mk oPost t [x]) = .mk oPost t [rg x] := by rw [g_mk (eq_false (by decide)), rgs, rgs]
theorem g_group {t : Bytes} {x : NTree} : rg (.mk oGroup t [x]) = rg x := by rw [rg, rgs, rgs]; rfl
theorem g_field {t : Bytes} {x : NTree} : rg (.mk oField t [x]) = .mk oField t [grp (rg x)] := by rw [rg, rgs, rgs]; rfl
theorem g_unary {t : Bytes} {x : NTree} : rg (.mk oUnary t [x]) = .mk oUnary t [grp (rg x)] := by rw [rg, rgs, rgs]; rfl
theorem g_bin {t : Bytes} {x y : NTree} : rg (.mk oBin t [x, y]) = .mk oBin t [grp (rg x), grp (rg y)] := by rw [rg, rgs, rgs, rgs]; rfl
theorem g_cond {t : Bytes} {x y z : NTree} : rg (.mk oCond t [x, y, z]) = .mk oCond t [grp (rg x), grp (rg y), grp (rg z)] := by rw [rg, rgs, rgs, rgs, rgs]; rfl
theorem g_assign {t : Bytes} {x y : NTree} : rg (.mk oAssign t [x, y]) = .mk oAssign t [rg x, grp (rg y)] := by rw [rg, rgs, rgs, rgs]; rfl
theorem g_in1 {t : Bytes} {x : NTree} : rg (.mk wIn t [x]) = .mk wIn t [grp (rg x)] := by rw [rg, rgs, rgs]; rfl
theorem g_in2 {t : Bytes} {l : List NTree} (h : l.length ≠ 1) : rg (.mk wIn t l) = .mk wIn t (rgs l) := by
  rw [rg]
  show (if wIn = wIn ∧ (rgs l).length = 1 then _ else NTree.mk wIn t (rgs l)) = _
  rw [if_neg (fun hh => h (by rw [← rgs_len l]; exact hh.2))]
/-- A place stays one. -/
theorem g_place {e : NTree} (h : placeB e = true) (hs : Sh false e) : (rg e).op = e.op := by
  cases hs with
  | var _ => rw [g_var]
  | elem _ _ _ => rw [g_elem]; rfl
  | field _ => rw [g_field]; rfl
  | num _ => exact absurd h (no_place (eq_false (by decide)))
  | str => exact absurd h (no_place (eq_false (by decide)))
  | ere _ => exact absurd h (no_place (eq_false (by decide)))
  | call _ _ => exact absurd h (no_place (eq_false (by decide)))
  | built _ _ => exact absurd h (no_place (eq_false (by decide)))
  | group _ => exact absurd h (no_place (eq_false (by decide)))
  | lst h _ => cases h
  | within _ _ _ => exact absurd h (no_place (eq_false (by decide)))
  | unary _ _ => exact absurd h (no_place (eq_false (by decide)))
  | bin _ _ _ => exact absurd h (no_place (eq_false (by decide)))
  | cond _ _ _ => exact absurd h (no_place (eq_false (by decide)))
  | assign _ _ _ _ => exact absurd h (no_place (eq_false (by decide)))
  | pre _ _ _ => exact absurd h (no_place (eq_false (by decide)))
  | post _ _ _ => exact absurd h (no_place (eq_false (by decide)))
theorem g_placeB {e : NTree} (h : placeB e = true) (hs : Sh false e) : placeB (rg e) = true := by
  unfold placeB at h ⊢
  rw [g_place h hs]; exact h
/-- With what the tokens of a tree begin. -/
theorem tk_head {e : NTree} (h : Sh false e) : ∃ t u, tk e = t :: u ∧ startsB t = true := by
  have K : ∀ {k t : Bytes}, k ∈ ([kNum, kStr, kEre, kName, kFunc, kBuilt] : List Bytes) → startsB (k, t) = true := by
    intro k t h
    unfold startsB beginsB
    rw [decide_eq_true h]; rfl
  have A : ∀ {t u v : List Tok} {a : Tok}, (∃ x y, t = x :: y ∧ startsB x = true) → ∃ x y, t ++ u = x :: y ∧ startsB x = true := by
    rintro t u v a ⟨x, y, rfl, h⟩
    exact ⟨x, y ++ u, rfl, h⟩
  induction h with
  | num h => rw [k_num]; exact ⟨_, _, rfl, K (by decide)⟩
  | str => rw [k_str]; exact ⟨_, _, rfl, K (by decide)⟩
  | ere h => rw [k_ere]; exact ⟨_, _, rfl, K (by decide)⟩
  | var h => rw [k_var]; exact ⟨_, _, rfl, K (by decide)⟩
  | elem h _ _ _ => rw [k_elem]; exact ⟨_, _, rfl, K (by decide)⟩
  | call h _ _ => rw [k_call]; exact ⟨_, _, rfl, K (by decide)⟩
  | built h _ _ => rw [k_built]; exact ⟨_, _, rfl, K (by decide)⟩
  | group h ih => rw [k_group]; exact ih
  | lst h => cases h
  | within _ _ _ _ => rw [k_in]; exact ⟨_, _, rfl, by decide⟩
  | field _ _ => rw [k_field]; exact ⟨_, _, rfl, by decide⟩
  | unary ho _ _ =>
    rw [k_unary]
    refine ⟨_, _, rfl, ?_⟩
    unfold SignOp at ho
    simp only [List.mem_cons, List.not_mem_nil, or_false] at ho
    rcases ho with rfl | rfl | rfl <;> decide
  | bin _ _ _ _ _ => rw [k_bin]; exact ⟨_, _, rfl, by decide⟩
  | cond _ _ _ _ _ => rw [k_cond]; exact ⟨_, _, rfl, by decide⟩
  | assign _ _ _ _ ih _ => rw [k_assign]; exact A (v := []) (a := opT []) ih
  | pre ho _ _ _ =>
    rw [k_pre]
    refine ⟨_, _, rfl, ?_⟩
    unfold StepOp at ho
    simp only [List.mem_cons, List.not_mem_nil, or_false] at ho
    rcases ho with rfl | rfl <;> decide
  | post _ _ _ ih => rw [k_post]; exact A (v := []) (a := opT []) ih
theorem starts_nl {t : Tok} (h : startsB t = true) : t.1 ≠ kNl := by
  rintro e
  obtain ⟨k, w⟩ := t
  have e : k = kNl := e
  subst e
  unfold startsB beginsB opT at h
  simp only [Bool.or_eq_true, Bool.and_eq_true, decide_eq_true_eq, Prod.mk.injEq] at h
  rcases h with (h | h) | h
  · exact absurd h (by decide)
  · exact absurd h.1 (by decide)
  · rcases h with h | h | h <;> exact absurd h.1 (by decide)
theorem nls_tk {e : NTree} (h : Sh false e) (rest : List Tok) : nlsS (tk e ++ rest) = tk e ++ rest := by
  obtain ⟨t, u, h1, h2⟩ := tk_head h
  rw [h1, List.cons_append, nlsS, if_neg (starts_nl h2)]
/-! ### the readers, one step up -/
theorem recN_fuel : ∀ n : Nat, (recN n).fuel = n
  | 0 => rfl
  | n + 1 => by show (recN n).fuel + 1 = n + 1; rw [recN_fuel n]
/-- What may stand behind a tree. -/
def Cl (ts : List Tok) : Prop := atS 0 ts ∈ [opT [41], opT [93], opT [44], opT [58], (kNl, [])]
theorem Cl.level {ts : List Tok} (h : Cl ts) : levelS false (atS 0 ts) = 0 := by
  unfold Cl at h
  generalize atS 0 ts = t at h
  simp only [List.mem_cons, List.not_mem_nil, or_false] at h
  rcases h with rfl | rfl | rfl | rfl | rfl <;> decide
theorem Cl.step {ts : List Tok} (h : Cl ts) : steppedS ts = none := by
  unfold Cl at h
  unfold steppedS
  generalize atS 0 ts = t at h
  simp only [List.mem_cons, List.not_mem_nil, or_false] at h
  rcases h with rfl | rfl | rfl | rfl | rfl <;> decide
theorem Cl.hat {ts : List Tok} (h : Cl ts) : atS 0 ts ≠ opT [94] := by
  unfold Cl at h
  generalize atS 0 ts = t at h
  simp only [List.mem_cons, List.not_mem_nil, or_false] at h
  rcases h with rfl | rfl | rfl | rfl | rfl <;> decide
theorem Cl.sub {ts : List Tok} (h : Cl ts) : atS 0 ts ≠ opT [91] := by
  unfold Cl at h
  generalize atS 0 ts = t at h
  simp only [List.mem_cons, List.not_mem_nil, or_false] at h
  rcases h with rfl | rfl | rfl | rfl | rfl <;> decide
theorem cl41 (u : List Tok) : Cl (opT [41] :: u) := List.mem_cons_self ..
theorem cl93 (u : List Tok) : Cl (opT [93] :: u) := List.mem_cons_of_mem _ (List.mem_cons_self ..)
theorem cl44 (u : List Tok) : Cl (opT [44] :: u) := List.mem_cons_of_mem _ (List.mem_cons_of_mem _ (List.mem_cons_self ..))
theorem cl58 (u : List Tok) : Cl (opT [58] :: u) := List.mem_cons_of_mem _ (List.mem_cons_of_mem _ (List.mem_cons_of_mem _ (List.mem_cons_self ..)))
theorem cl10 (u : List Tok) : Cl ((kNl, []) :: u) := List.mem_cons_of_mem _ (List.mem_cons_of_mem _ (List.mem_cons_of_mem _ (List.mem_cons_of_mem _ (List.mem_cons_self ..))))
section
variable {r : Rec} {ts rest : List Tok} {v : NTree}
theorem up_step (h0 : steppedS ts = none) (h : r.operand ts = .ok v rest) (h1 : placeB v = true → steppedS rest = none) : stepS r ts = .ok v rest := by
  have e : aheadS r ts = .ok none ts := by unfold aheadS; rw [h0]
  unfold stepS
  rw [e]
  show bnd (r.operand ts) _ = _
  rw [h]
  show (if placeB v = true then _ else R.ok v rest) = _
  split
  · rename_i hp
    rw [h1 hp]
  · rfl
theorem up_power (h : stepS r ts = .ok v rest) (h1 : atS 0 rest ≠ opT [94]) : powerS r ts = .ok v rest := by
  unfold powerS
  rw [h]
  show (if atS 0 rest = opT [94] then _ else R.ok v rest) = _
  rw [if_neg h1]
theorem up_unary (h0 : signS [[33], [43], [45]] ts = none) (h : powerS r ts = .ok v rest) : unaryS r ts = .ok v rest := by
  unfold unaryS
  rw [h0]
  exact h
theorem exprL_end {least f b : Nat} (h : levelS false (atS 0 ts) = 0) (hf : 0 < f) : exprL r least false f v b ts = .ok v ts := by
  obtain ⟨f, rfl⟩ : ∃ m, f = m + 1 := ⟨f - 1, by omega⟩
  rw [exprL, if_pos (.inr (.inr h))]
theorem up_expr {least : Nat} (h : r.unary ts = .ok v rest) (hf : 0 < r.fuel) (hl : levelS false (atS 0 rest) = 0) : exprS r least false ts = .ok v rest := by
  unfold exprS
  rw [h]
  exact exprL_end hl hf
/-- A token with which no sign and no step begins. -/
def Atom (ts : List Tok) : Prop := steppedS ts = none ∧ signS [[33], [43], [45]] ts = none
theorem atom_kind {k t : Bytes} {u : List Tok} (h : k ≠ kOp) : Atom ((k, t) :: u) := by
  have hne : ∀ s, atS 0 ((k, t) :: u) ≠ opT s := fun s e => h (congrArg Prod.fst e)
  refine ⟨?_, ?_⟩
  · unfold steppedS
    rw [if_neg (hne _), if_neg (hne _)]
  · unfold signS
    rw [if_neg (hne _)]
    unfold signS
    rw [if_neg (hne _)]
    unfold signS
    rw [if_neg (hne _)]
    rfl
theorem atom_op {s : Bytes} {u : List Tok} (h : s ∉ ([[43, 43], [45, 45], [33], [43], [45]] : List Bytes)) : Atom (opT s :: u) := by
  simp only [List.mem_cons, List.not_mem_nil, or_false, not_or] at h
  have hne : ∀ {w}, s ≠ w → atS 0 (opT s :: u) ≠ opT w := fun hw e => hw (congrArg Prod.snd e)
  refine ⟨?_, ?_⟩
  · unfold steppedS
    rw [if_neg (hne h.1), if_neg (hne h.2.1)]
  · unfold signS
    rw [if_neg (hne h.2.2.1)]
    unfold signS
    rw [if_neg (hne h.2.2.2.1)]
    unfold signS
    rw [if_neg (hne h.2.2.2.2)]
    rfl
theorem up_atom (ha : Atom ts) (h : r.operand ts = .ok v rest) (h1 : placeB v = true → steppedS rest = none) (h2 : atS 0 rest ≠ opT [94]) : unaryS r ts = .ok v rest := up_unary ha.2 (up_power (up_step ha.1 h h1) h2)
/-- A reader reads what is shown of a tree. -/
def RE (r : Rec) (e : NTree) : Prop := ∀ rest, Cl rest → r.expr 1 false (tk e ++ rest) = .ok (rg e) rest
theorem par_opnd {e : NTree} (h : RE r e) (hf : 0 < r.fuel) : opndS r (parT (tk e) ++ rest) = .ok (grp (rg e)) rest := by
  have e1 : parT (tk e) ++ rest = opT [40] :: (tk e ++ opT [41] :: rest) := by simp [parT]
  rw [e1]
  unfold opndS
  have e2 : atS 0 (opT [40] :: (tk e ++ opT [41] :: rest)) = opT [40] := rfl
  have e3 : (opT [40] :: (tk e ++ opT [41] :: rest)).drop 1 = tk e ++ opT [41] :: rest := rfl
  rw [e2, e3, if_neg (by decide), if_neg (by decide), if_neg (by decide), if_neg (by decide), if_neg (by decide), if_pos rfl]
  have hl : listS r false (tk e ++ opT [41] :: rest) = .ok [rg e] (opT [41] :: rest) := by
    unfold listS
    rw [h _ (cl41 rest)]
    show listL r false r.fuel [rg e] (opT [41] :: rest) = _
    obtain ⟨f, hf⟩ : ∃ m, r.fuel = m + 1 := ⟨r.fuel - 1, by omega⟩
    rw [hf, listL, if_neg (by show ¬ opT [41] = opT [44]; decide)]
  rw [hl]
  rfl
theorem par_atom (e : NTree) (rest : List Tok) : Atom (parT (tk e) ++ rest) := atom_op (by decide)
theorem par_unary {n : Nat} {e : NTree} (h : RE (recN n) e) (hn : 0 < n) (h2 : atS 0 rest ≠ opT [94]) : (recN (n + 2)).unary (parT (tk e) ++ rest) = .ok (grp (rg e)) rest :=
  up_atom (r := recN (n + 1)) (par_atom e rest) (par_opnd h (by rw [recN_fuel]; exact hn)) (fun hp => absurd hp (no_place (eq_false (by decide)))) h2
theorem par_expr {n least : Nat} {e : NTree} (h : RE (recN n) e) (hn : 0 < n) (hc : Cl rest) : (recN (n + 3)).expr least false (parT (tk e) ++ rest) = .ok (grp (rg e)) rest :=
  up_expr (r := recN (n + 2)) (par_unary h hn hc.hat) (by rw [recN_fuel]; omega) hc.level
theorem nls_par (e : NTree) (rest : List Tok) : nlsS (parT (tk e) ++ rest) = parT (tk e) ++ rest := by
  show nlsS (opT [40] :: _) = opT [40] :: _
  rw [nlsS, if_neg (by decide)]
/-! ### lists -/
theorem list_tail : ∀ {l : List NTree}, (∀ x ∈ l, Sh false x) → (∀ x ∈ l, RE r x) → ∀ (f : Nat) (acc : List NTree) (rest : List Tok), l.length < f → Cl rest → atS 0 rest ≠ opT [44] →
    listL r false f acc ((tks l).flatMap (fun y => opT [44] :: y) ++ rest) = .ok (acc ++ rgs l) rest
  | [], _, _, f, acc, rest, hf, hc, hne => by
    obtain ⟨f, rfl⟩ : ∃ m, f = m + 1 := ⟨f - 1, by simp at hf; omega⟩
    rw [tks, rgs, List.append_nil]
    show listL r false (f + 1) acc rest = _
    rw [listL, if_neg hne]
  | a :: l, hs, h, f, acc, rest, hf, hc, hne => by
    rw [List.length_cons] at hf
    obtain ⟨f, rfl⟩ : ∃ m, f = m + 1 := ⟨f - 1, by omega⟩
    have e : (tks (a :: l)).flatMap (fun y => opT [44] :: y) ++ rest = opT [44] :: (tk a ++ ((tks l).flatMap (fun y => opT [44] :: y) ++ rest)) := by
      rw [tks]; simp
    have hcl : Cl ((tks l).flatMap (fun y => opT [44] :: y) ++ rest) := by
      cases l with
      | nil => rw [tks]; exact hc
      | cons b l => rw [tks]; exact cl44 _
    rw [e, listL, if_pos (by rfl)]
    have e2 : (opT [44] :: (tk a ++ ((tks l).flatMap (fun y => opT [44] :: y) ++ rest))).drop 1 = tk a ++ ((tks l).flatMap (fun y => opT [44] :: y) ++ rest) := rfl
    rw [e2, nls_tk (hs a (List.mem_cons_self ..)), h a (List.mem_cons_self ..) _ hcl]
    show listL r false f (acc ++ [rg a]) _ = _
    rw [list_tail (fun x hx => hs x (List.mem_cons_of_mem _ hx)) (fun x hx => h x (List.mem_cons_of_mem _ hx)) f _ rest (by omega) hc hne, rgs]
    simp
theorem list_read {l : List NTree} (hl : l ≠ []) (hs : ∀ x ∈ l, Sh false x) (h : ∀ x ∈ l, RE r x) (hf : l.length < r.fuel) (hc : Cl rest) (hne : atS 0 rest ≠ opT [44]) :
    listS r false (joinT (tks l) ++ rest) = .ok (rgs l) rest := by
  cases l with
  | nil => exact absurd rfl hl
  | cons a l =>
    have e : joinT (tks (a :: l)) ++ rest = tk a ++ ((tks l).flatMap (fun y => opT [44] :: y) ++ rest) := by
      rw [tks, joinT]; simp
    have hcl : Cl ((tks l).flatMap (fun y => opT [44] :: y) ++ rest) := by
      cases l with
      | nil => rw [tks]; exact hc
      | cons b l => rw [tks]; exact cl44 _
    rw [List.length_cons] at hf
    unfold listS
    rw [e, h a (List.mem_cons_self ..) _ hcl]
    show listL r false r.fuel [rg a] _ = _
    rw [list_tail (fun x hx => hs x (List.mem_cons_of_mem _ hx)) (fun x hx => h x (List.mem_cons_of_mem _ hx)) r.fuel _ rest (by omega) hc hne, rgs]
    rfl
theorem at_join {l : List NTree} (hl : l ≠ []) (hs : ∀ x ∈ l, Sh false x) (rest : List Tok) : ∃ t u, joinT (tks l) ++ rest = t :: u ∧ startsB t = true := by
  cases l with
  | nil => exact absurd rfl hl
  | cons a l =>
    obtain ⟨t, u, h1, h2⟩ := tk_head (hs a (List.mem_cons_self ..))
    rw [tks, joinT, h1]
    exact ⟨t, _, rfl, h2⟩
theorem args_read {l : List NTree} (hs : ∀ x ∈ l, Sh false x) (h : ∀ x ∈ l, RE r x) (hf : l.length < r.fuel) : argsS r (joinT (tks l) ++ opT [41] :: rest) = .ok (rgs l) rest := by
  by_cases hl : l = []
  · subst hl
    rw [tks, rgs]
    rfl
  · obtain ⟨t, u, h1, h2⟩ := at_join hl hs (opT [41] :: rest)
    unfold argsS
    rw [if_neg]
    · rw [list_read hl hs h hf (cl41 _) (by show ¬ opT [41] = opT [44]; decide)]
      rfl
    · rw [h1]
      show ¬ t = opT [41]
      rintro rfl
      exact absurd h2 (by decide)
theorem subs_read {l : List NTree} (hl : l ≠ []) (hs : ∀ x ∈ l, Sh false x) (h : ∀ x ∈ l, RE r x) (hf : l.length < r.fuel) : subsS r (joinT (tks l) ++ opT [93] :: rest) = .ok (rgs l) rest := by
  unfold subsS
  rw [list_read hl hs h hf (cl93 _) (by show ¬ opT [93] = opT [44]; decide)]
  rfl
theorem tks_len : ∀ {l : List NTree}, (∀ x ∈ l, Sh false x) → l.length ≤ (joinT (tks l)).length ∧ ∀ x ∈ l, (tk x).length ≤ (joinT (tks l)).length := by
  have T : ∀ {l : List NTree}, l.length ≤ ((tks l).flatMap (fun y => opT [44] :: y)).length ∧ ∀ x ∈ l, (tk x).length ≤ ((tks l).flatMap (fun y => opT [44] :: y)).length := by
    intro l
    induction l with
    | nil => simp [tks]
    | cons a l ih =>
      rw [tks]
      simp only [List.flatMap_cons, List.length_append, List.length_cons]
      refine ⟨by omega, fun x hx => ?_⟩
      rcases List.mem_cons.1 hx with rfl | hx
      · omega
      · have := ih.2 x hx; omega
  intro l hs
  cases l with
  | nil => simp
  | cons a l =>
    obtain ⟨t, u, h1, h2⟩ := tk_head (hs a (List.mem_cons_self ..))
    have ha : 0 < (tk a).length := by rw [h1]; simp
    have := T (l := l)
    rw [tks, joinT]
    simp only [List.length_append, List.length_cons]
    refine ⟨by omega, fun x hx => ?_⟩
    rcases List.mem_cons.1 hx with rfl | hx
    · omega
    · have := this.2 x hx; omega
end
end Go.AD.Lx
namespace Go.AD.Lx
section
variable {r : Rec} {ts rest : List Tok} {v : NTree}
theorem okb {α β : Type} {a : α} {u : List Tok} {k : α → List Tok → R β} : bnd (.ok a u) k = k a u := rfl
/-- With enough calls a tree is read. -/
def EN (e : NTree) : Prop := ∀ n, 5 * (tk e).length + 10 ≤ n → RE (recN n) e
/-- A tree that is an operand. -/
def ON (e : NTree) : Prop := ∀ n, 5 * (tk e).length + 6 ≤ n → ∀ rest, atS 0 rest ≠ opT [91] → (recN n).operand (tk e ++ rest) = .ok (rg e) rest
theorem ON.up {e : NTree} (h : ON e) (ha : ∀ rest, Atom (tk e ++ rest)) : EN e := by
  intro n hn rest hc
  obtain ⟨m, rfl⟩ : ∃ m, n = m + 2 := ⟨n - 2, by omega⟩
  refine up_expr (r := recN (m + 1)) (up_atom (r := recN m) (ha rest) (h m (by omega) rest hc.sub) (fun _ => hc.step) hc.hat) (by rw [recN_fuel]; omega) hc.level
theorem par_len (x : List Tok) : (parT x).length = x.length + 2 := by simp [parT]
theorem exprL_bin {least b f k : Nat} {left : NTree} {o : Bytes} {X : List Tok} (hk : levelS false (opT o) = k) (h0 : ¬ (k < least ∨ b < k ∨ k = 0)) (h1 : k ≠ 1) (h2 : k ≠ 2) (h5 : k ≠ 5) (h8 : k ≠ 8) (hX : nlsS X = X)
    (hr : r.expr (k + 1) false X = .ok v rest) (hc : Cl rest) (hf : 1 < f) : exprL r least false f left b (opT o :: X) = .ok (.mk oBin o [left, v]) rest := by
  obtain ⟨f, rfl⟩ : ∃ m, f = m + 1 := ⟨f - 1, by omega⟩
  have e : atS 0 (opT o :: X) = opT o := rfl
  have e2 : (opT o :: X).drop 1 = X := rfl
  rw [exprL, e, e2, hk, if_neg h0, if_neg h1, if_neg h2, if_neg h5, if_neg h8, hX, ite_self, hr]
  exact exprL_end hc.level (by omega)
theorem bin_level {o : Bytes} (h : BinOp o) (hc : o ≠ oCat) (hh : o ≠ [94]) : ∃ k, levelS false (opT o) = k ∧ ¬ (k < 1 ∨ 10 < k ∨ k = 0) ∧ k ≠ 1 ∧ k ≠ 2 ∧ k ≠ 5 ∧ k ≠ 8 := by
  refine ⟨_, rfl, ?_⟩
  unfold BinOp at h
  simp only [List.mem_cons, List.not_mem_nil, or_false] at h
  rcases h with rfl | rfl | rfl | rfl | rfl | rfl | rfl | rfl | rfl | rfl | rfl | rfl | rfl | rfl | rfl | rfl | rfl
  all_goals first
    | exact absurd rfl hc
    | exact absurd rfl hh
    | decide
theorem ass_level {o : Bytes} (h : AssOp o) : levelS false (opT o) = 1 ∧ steppedS (opT o :: ts) = none ∧ opT o ≠ opT [94] ∧ opT o ≠ opT [91] := by
  unfold AssOp at h
  simp only [List.mem_cons, List.not_mem_nil, or_false] at h
  rcases h with rfl | rfl | rfl | rfl | rfl | rfl | rfl
  all_goals exact ⟨by decide, rfl, by decide, by decide⟩
theorem sign_at {o : Bytes} (h : SignOp o) (u : List Tok) : signS [[33], [43], [45]] (opT o :: u) = some o := by
  unfold SignOp at h
  simp only [List.mem_cons, List.not_mem_nil, or_false] at h
  rcases h with rfl | rfl | rfl <;> rfl
theorem step_at {o : Bytes} (h : StepOp o) (u : List Tok) : steppedS (opT o :: u) = some o ∧ signS [[33], [43], [45]] (opT o :: u) = none ∧ opT o ≠ opT [91] := by
  unfold StepOp at h
  simp only [List.mem_cons, List.not_mem_nil, or_false] at h
  rcases h with rfl | rfl <;> exact ⟨rfl, rfl, by decide⟩
theorem opnd_kind {k t : Bytes} {u : List Tok} (h : k ∈ [kNum, kStr, kEre]) : opndS r ((k, t) :: u) = .ok (.mk k t []) u := by
  unfold opndS
  have e : atS 0 ((k, t) :: u) = (k, t) := rfl
  rw [e, if_neg, if_pos h]
  · rfl
  · intro e
    have : k = [] := congrArg Prod.fst e
    rw [this] at h
    exact absurd h (by decide)
theorem opnd_name {t : Bytes} {u : List Tok} (h : atS 0 u ≠ opT [91]) : opndS r ((kName, t) :: u) = .ok (.mk oVar t []) u := by
  unfold opndS
  have e : atS 0 ((kName, t) :: u) = (kName, t) := rfl
  have e1 : atS 1 ((kName, t) :: u) = atS 0 u := rfl
  rw [e, e1, if_neg (fun e => absurd (congrArg Prod.fst e) (by show ¬ kName = []; decide)), if_neg (by show ¬ kName ∈ _; decide), if_pos (by rfl), if_neg h]
  rfl
theorem opnd_elem {t : Bytes} {u : List Tok} {l : List NTree} (h : subsS r u = .ok l rest) : opndS r ((kName, t) :: opT [91] :: u) = .ok (.mk oElem t l) rest := by
  unfold opndS
  have e : atS 0 ((kName, t) :: opT [91] :: u) = (kName, t) := rfl
  have e1 : atS 1 ((kName, t) :: opT [91] :: u) = opT [91] := rfl
  have e2 : ((kName, t) :: opT [91] :: u).drop 2 = u := rfl
  rw [e, e1, e2, if_neg (fun e => absurd (congrArg Prod.fst e) (by show ¬ kName = []; decide)), if_neg (by show ¬ kName ∈ _; decide), if_pos (by rfl), if_pos (by rfl), h]
  rfl
theorem opnd_func {t : Bytes} {u : List Tok} {l : List NTree} (h : argsS r u = .ok l rest) : opndS r ((kFunc, t) :: opT [40] :: u) = .ok (.mk oCall t l) rest := by
  unfold opndS
  have e : atS 0 ((kFunc, t) :: opT [40] :: u) = (kFunc, t) := rfl
  have e2 : ((kFunc, t) :: opT [40] :: u).drop 2 = u := rfl
  rw [e, e2, if_neg (fun e => absurd (congrArg Prod.fst e) (by show ¬ kFunc = []; decide)), if_neg (by show ¬ kFunc ∈ _; decide), if_neg (by show ¬ kFunc = _; decide), if_pos (by rfl), h]
  rfl
theorem opnd_built {t : Bytes} {u : List Tok} {l : List NTree} (h : argsS r u = .ok l rest) : opndS r ((kBuilt, t) :: opT [40] :: u) = .ok (.mk kBuilt t l) rest := by
  unfold opndS
  have e : atS 0 ((kBuilt, t) :: opT [40] :: u) = (kBuilt, t) := rfl
  have e1 : atS 1 ((kBuilt, t) :: opT [40] :: u) = opT [40] := rfl
  have e2 : ((kBuilt, t) :: opT [40] :: u).drop 2 = u := rfl
  rw [e, e1, e2, if_neg (fun e => absurd (congrArg Prod.fst e) (by show ¬ kBuilt = []; decide)), if_neg (by show ¬ kBuilt ∈ _; decide), if_neg (by show ¬ kBuilt = _; decide), if_neg (by show ¬ kBuilt = _; decide), if_pos (by rfl), if_pos (by rfl), h]
  rfl
theorem opnd_in {t : Bytes} {u : List Tok} {l : List NTree} (h : listS r false u = .ok l (opT [41] :: wordT wIn :: (kName, t) :: rest)) (hl : l.length ≠ 1) : opndS r (opT [40] :: u) = .ok (.mk wIn t l) rest := by
  unfold opndS
  have e : atS 0 (opT [40] :: u) = opT [40] := rfl
  have e2 : (opT [40] :: u).drop 1 = u := rfl
  rw [e, e2, if_neg (by decide), if_neg (by decide), if_neg (by decide), if_neg (by decide), if_neg (by decide), if_pos rfl, h]
  show (if l.length = 1 then _ else _) = _
  rw [if_neg hl]
  rfl
theorem opnd_field {u : List Tok} (h : aheadS r u = .ok none u) (h2 : r.operand u = .ok v rest) : opndS r (opT [36] :: u) = .ok (.mk oField [] [v]) rest := by
  unfold opndS
  have e : atS 0 (opT [36] :: u) = opT [36] := rfl
  have e2 : (opT [36] :: u).drop 1 = u := rfl
  rw [e, e2, if_neg (by decide), if_neg (by decide), if_neg (by decide), if_neg (by decide), if_neg (by decide), if_neg (by decide), if_pos rfl, h]
  show bnd (r.operand u) _ = _
  rw [h2]
  rfl
theorem at_app {t : Tok} {u : List Tok} (h : ∃ y, ts = t :: y) : atS 0 (ts ++ u) = t := by
  obtain ⟨y, rfl⟩ := h
  rfl
/-- A program's reader reads what is shown of a tree. -/
theorem tree_read {e : NTree} (h : Sh false e) : EN e ∧ (placeB e = true → ON e) := by
  have NP : ∀ {op text : Bytes} {kids : List NTree}, (op = oVar ∨ op = oElem ∨ op = oField) = False → (placeB (.mk op text kids) = true → ON (.mk op text kids)) := fun h hp => absurd hp (no_place h)
  induction h with
  | @num t h =>
    have O : ON (.mk kNum t []) := by
      intro n hn rest _
      obtain ⟨m, rfl⟩ : ∃ m, n = m + 1 := ⟨n - 1, by omega⟩
      rw [k_num, g_num]
      exact opnd_kind (r := recN m) (k := kNum) (by decide)
    exact ⟨O.up (fun rest => by rw [k_num]; exact atom_kind (by decide)), fun _ => O⟩
  | @str t =>
    have O : ON (.mk kStr t []) := by
      intro n hn rest _
      obtain ⟨m, rfl⟩ : ∃ m, n = m + 1 := ⟨n - 1, by omega⟩
      rw [k_str, g_str]
      exact opnd_kind (r := recN m) (k := kStr) (by decide)
    exact ⟨O.up (fun rest => by rw [k_str]; exact atom_kind (by decide)), fun _ => O⟩
  | @ere t h =>
    have O : ON (.mk kEre t []) := by
      intro n hn rest _
      obtain ⟨m, rfl⟩ : ∃ m, n = m + 1 := ⟨n - 1, by omega⟩
      rw [k_ere, g_ere]
      exact opnd_kind (r := recN m) (k := kEre) (by decide)
    exact ⟨O.up (fun rest => by rw [k_ere]; exact atom_kind (by decide)), fun _ => O⟩
  | @var t h =>
    have O : ON (.mk oVar t []) := by
      intro n hn rest hr
      obtain ⟨m, rfl⟩ : ∃ m, n = m + 1 := ⟨n - 1, by omega⟩
      rw [k_var, g_var]
      exact opnd_name hr
    exact ⟨O.up (fun rest => by rw [k_var]; exact atom_kind (by decide)), fun _ => O⟩
  | @elem t l h hne hl ih =>
    have O : ON (.mk oElem t l) := by
      intro n hn rest hr
      obtain ⟨m, rfl⟩ : ∃ m, n = m + 1 := ⟨n - 1, by omega⟩
      rw [k_elem] at hn ⊢
      simp only [List.length_cons, List.length_append, List.length_nil] at hn
      obtain ⟨h1, h2⟩ := tks_len hl
      rw [g_elem]
      have e : (kName, t) :: opT [91] :: (joinT (tks l) ++ [opT [93]]) ++ rest = (kName, t) :: opT [91] :: (joinT (tks l) ++ opT [93] :: rest) := by simp
      rw [e]
      refine opnd_elem (subs_read (r := recN m) hne hl (fun x hx => (ih x hx).1 m ?_) (by rw [recN_fuel]; omega))
      have := h2 x hx; omega
    exact ⟨O.up (fun rest => by rw [k_elem]; exact atom_kind (by decide)), fun _ => O⟩
  | @call t l h hl ih =>
    have O : ON (.mk oCall t l) := by
      intro n hn rest hr
      obtain ⟨m, rfl⟩ : ∃ m, n = m + 1 := ⟨n - 1, by omega⟩
      rw [k_call] at hn ⊢
      simp only [List.length_cons, List.length_append, List.length_nil] at hn
      obtain ⟨h1, h2⟩ := tks_len hl
      rw [g_call]
      have e : (kFunc, t) :: opT [40] :: (joinT (tks l) ++ [opT [41]]) ++ rest = (kFunc, t) :: opT [40] :: (joinT (tks l) ++ opT [41] :: rest) := by simp
      rw [e]
      refine opnd_func (args_read (r := recN m) hl (fun x hx => (ih x hx).1 m ?_) (by rw [recN_fuel]; omega))
      have := h2 x hx; omega
    exact ⟨O.up (fun rest => by rw [k_call]; exact atom_kind (by decide)), fun _ => O⟩
  | @built t l h hl ih =>
    have O : ON (.mk kBuilt t l) := by
      intro n hn rest hr
      obtain ⟨m, rfl⟩ : ∃ m, n = m + 1 := ⟨n - 1, by omega⟩
      rw [k_built] at hn ⊢
      simp only [List.length_cons, List.length_append, List.length_nil] at hn
      obtain ⟨h1, h2⟩ := tks_len hl
      rw [g_built]
      have e : (kBuilt, t) :: opT [40] :: (joinT (tks l) ++ [opT [41]]) ++ rest = (kBuilt, t) :: opT [40] :: (joinT (tks l) ++ opT [41] :: rest) := by simp
      rw [e]
      refine opnd_built (args_read (r := recN m) hl (fun x hx => (ih x hx).1 m ?_) (by rw [recN_fuel]; omega))
      have := h2 x hx; omega
    exact ⟨O.up (fun rest => by rw [k_built]; exact atom_kind (by decide)), fun _ => O⟩
  | group h ih =>
    refine ⟨?_, NP (eq_false (by decide))⟩
    intro n hn rest hc
    rw [k_group] at hn ⊢
    rw [g_group]
    exact ih.1 n hn rest hc
  | lst h => cases h
  | @within t l h hne hl ih =>
    refine ⟨?_, NP (eq_false (by decide))⟩
    by_cases h1 : l.length = 1
    · obtain ⟨x, rfl⟩ : ∃ x, l = [x] := by
        match l, h1 with
        | [x], _ => exact ⟨x, rfl⟩
      have hx := (ih x (by simp)).1
      intro n hn rest hc
      have e : tk (.mk wIn t [x]) = parT (tk x) ++ [wordT wIn, (kName, t)] := by
        rw [k_in, tks, tks, joinT, parT]
        simp
      rw [e] at hn ⊢
      rw [List.length_append, par_len] at hn
      simp only [List.length_cons, List.length_nil] at hn
      obtain ⟨m, rfl⟩ : ∃ m, n = m + 3 := ⟨n - 3, by omega⟩
      rw [g_in1]
      have e2 : parT (tk x) ++ [wordT wIn, (kName, t)] ++ rest = parT (tk x) ++ (wordT wIn :: (kName, t) :: rest) := by simp
      rw [e2]
      show exprS (recN (m + 2)) 1 false _ = _
      unfold exprS
      rw [par_unary (hx m (by omega)) (by omega) (by show ¬ wordT wIn = opT [94]; decide)]
      show exprL (recN (m + 2)) 1 false (recN (m + 2)).fuel _ 10 (wordT wIn :: (kName, t) :: rest) = _
      rw [recN_fuel, exprL]
      have e3 : levelS false (atS 0 (wordT wIn :: (kName, t) :: rest)) = 5 := rfl
      rw [e3, if_neg (by decide), if_neg (by decide), if_neg (by decide), if_pos rfl]
      show exprL (recN (m + 2)) 1 false (m + 1) (.mk wIn t [grp (rg x)]) 5 rest = _
      exact exprL_end hc.level (by omega)
    · have O : ON (.mk wIn t l) := by
        intro n hn rest hr
        obtain ⟨m, rfl⟩ : ∃ m, n = m + 1 := ⟨n - 1, by omega⟩
        rw [k_in] at hn ⊢
        simp only [List.length_cons, List.length_append, List.length_nil] at hn
        obtain ⟨g1, g2⟩ := tks_len hl
        rw [g_in2 h1]
        have e : opT [40] :: (joinT (tks l) ++ [opT [41], wordT wIn, (kName, t)]) ++ rest = opT [40] :: (joinT (tks l) ++ opT [41] :: wordT wIn :: (kName, t) :: rest) := by simp
        rw [e]
        refine opnd_in (list_read (r := recN m) hne hl (fun x hx => (ih x hx).1 m ?_) (by rw [recN_fuel]; omega) (cl41 _) (by show ¬ opT [41] = opT [44]; decide)) (by rw [rgs_len]; exact h1)
        have := g2 x hx; omega
      exact O.up (fun rest => by rw [k_in]; exact atom_op (by decide))
  | @field x h ih =>
    have O : ON (.mk oField [] [x]) := by
      intro n hn rest hr
      obtain ⟨m, rfl⟩ : ∃ m, n = m + 2 := ⟨n - 2, by omega⟩
      rw [k_field] at hn ⊢
      rw [List.length_cons, par_len] at hn
      rw [g_field, List.cons_append]
      have h2 : (recN (m + 1)).operand (parT (tk x) ++ rest) = .ok (grp (rg x)) rest := par_opnd (r := recN m) (ih.1 m (by omega)) (by rw [recN_fuel]; omega)
      refine opnd_field (r := recN (m + 1)) ?_ h2
      unfold aheadS
      rw [(par_atom x rest).1]
    exact ⟨O.up (fun rest => by rw [k_field]; exact atom_op (by decide)), fun _ => O⟩
  | @unary o x ho h ih =>
    refine ⟨?_, NP (eq_false (by decide))⟩
    intro n hn rest hc
    rw [k_unary] at hn ⊢
    rw [List.length_cons, par_len] at hn
    rw [g_unary, List.cons_append]
    obtain ⟨m, rfl⟩ : ∃ m, n = m + 4 := ⟨n - 4, by omega⟩
    refine up_expr (r := recN (m + 3)) ?_ (by rw [recN_fuel]; omega) hc.level
    show unaryS (recN (m + 2)) _ = _
    unfold unaryS
    rw [sign_at ho]
    show bnd ((recN (m + 2)).unary (parT (tk x) ++ rest)) _ = _
    rw [par_unary (ih.1 m (by omega)) (by omega) hc.hat]
    rfl
  | @bin o x y ho hx hy ihx ihy =>
    refine ⟨?_, NP (eq_false (by decide))⟩
    intro n hn rest hc
    rw [k_bin] at hn ⊢
    rw [List.length_append, List.length_append, par_len, par_len] at hn
    rw [g_bin]
    obtain ⟨m, rfl⟩ : ∃ m, n = m + 5 := ⟨n - 5, by omega⟩
    have rx : ∀ k, m ≤ k → RE (recN k) x := fun k hk => ihx.1 k (by omega)
    have ry : ∀ k, m ≤ k → RE (recN k) y := fun k hk => ihy.1 k (by omega)
    by_cases hcat : o = oCat
    · rw [if_pos hcat, List.nil_append, List.append_assoc]
      show exprS (recN (m + 4)) 1 false _ = _
      unfold exprS
      rw [par_unary (rx (m + 2) (by omega)) (by omega) (by show ¬ opT [40] = opT [94]; decide)]
      show exprL (recN (m + 4)) 1 false (recN (m + 4)).fuel _ 10 (parT (tk y) ++ rest) = _
      rw [recN_fuel, exprL]
      have e3 : levelS false (atS 0 (parT (tk y) ++ rest)) = 8 := rfl
      rw [e3, if_neg (by decide), if_neg (by decide), if_neg (by decide), if_neg (by decide), if_pos rfl, par_expr (n := m + 1) (ry (m + 1) (by omega)) (by omega) hc, hcat]
      show exprL (recN (m + 4)) 1 false (m + 3) _ 8 rest = _
      exact exprL_end hc.level (by omega)
    · rw [if_neg hcat]
      have e : parT (tk x) ++ ([opT o] ++ parT (tk y)) ++ rest = parT (tk x) ++ (opT o :: (parT (tk y) ++ rest)) := by simp
      rw [e]
      by_cases hh : o = [94]
      · subst hh
        refine up_expr (r := recN (m + 4)) ?_ (by rw [recN_fuel]; omega) hc.level
        refine up_unary (r := recN (m + 3)) (par_atom _ _).2 ?_
        unfold powerS
        have hs : stepS (recN (m + 3)) (parT (tk x) ++ (opT [94] :: (parT (tk y) ++ rest))) = .ok (grp (rg x)) (opT [94] :: (parT (tk y) ++ rest)) :=
          up_step (r := recN (m + 3)) (par_atom _ _).1 (par_opnd (r := recN (m + 2)) (rx _ (by omega)) (by rw [recN_fuel]; omega)) (fun _ => rfl)
        rw [hs]
        show bnd ((recN (m + 3)).exponent (parT (tk y) ++ rest)) _ = _
        have he : (recN (m + 3)).exponent (parT (tk y) ++ rest) = .ok (grp (rg y)) rest := by
          show exponentS (recN (m + 2)) (parT (tk y) ++ rest) = _
          unfold exponentS
          have hsg : signS [[43], [45]] (parT (tk y) ++ rest) = none := rfl
          rw [hsg]
          exact up_power (up_step (r := recN (m + 2)) (par_atom _ _).1 (par_opnd (r := recN (m + 1)) (ry _ (by omega)) (by rw [recN_fuel]; omega)) (fun _ => hc.step)) hc.hat
        rw [he]
        rfl
      · obtain ⟨k, hk, h0, h1, h2, h5, h8⟩ := bin_level ho hcat hh
        show exprS (recN (m + 4)) 1 false _ = _
        unfold exprS
        rw [par_unary (rx (m + 2) (by omega)) (by omega) (by show ¬ opT o = opT [94]; exact fun e => hh (congrArg Prod.snd e))]
        show exprL (recN (m + 4)) 1 false (recN (m + 4)).fuel _ 10 (opT o :: (parT (tk y) ++ rest)) = _
        rw [recN_fuel]
        exact exprL_bin hk h0 h1 h2 h5 h8 (nls_par _ _) (par_expr (n := m + 1) (ry (m + 1) (by omega)) (by omega) hc) hc (by omega)
  | @cond x y z hx hy hz ihx ihy ihz =>
    refine ⟨?_, NP (eq_false (by decide))⟩
    intro n hn rest hc
    rw [k_cond] at hn ⊢
    simp only [List.length_append, List.length_cons, par_len] at hn
    rw [g_cond]
    obtain ⟨m, rfl⟩ : ∃ m, n = m + 5 := ⟨n - 5, by omega⟩
    have e : parT (tk x) ++ (opT [63] :: (parT (tk y) ++ (opT [58] :: parT (tk z)))) ++ rest = parT (tk x) ++ (opT [63] :: (parT (tk y) ++ (opT [58] :: (parT (tk z) ++ rest)))) := by simp
    rw [e]
    show exprS (recN (m + 4)) 1 false _ = _
    unfold exprS
    rw [par_unary (ihx.1 (m + 2) (by omega)) (by omega) (by show ¬ opT [63] = opT [94]; decide)]
    show exprL (recN (m + 4)) 1 false (recN (m + 4)).fuel _ 10 (opT [63] :: (parT (tk y) ++ (opT [58] :: (parT (tk z) ++ rest)))) = _
    rw [recN_fuel, exprL]
    have e3 : levelS false (atS 0 (opT [63] :: (parT (tk y) ++ (opT [58] :: (parT (tk z) ++ rest))))) = 2 := rfl
    have e4 : (opT [63] :: (parT (tk y) ++ (opT [58] :: (parT (tk z) ++ rest)))).drop 1 = parT (tk y) ++ (opT [58] :: (parT (tk z) ++ rest)) := rfl
    rw [e3, e4, if_neg (by decide), if_neg (by decide), if_pos rfl, nls_par, par_expr (n := m + 1) (ihy.1 (m + 1) (by omega)) (by omega) (cl58 _)]
    have e5 : needS (opT [58]) (opT [58] :: (parT (tk z) ++ rest)) = .ok () (parT (tk z) ++ rest) := rfl
    rw [okb, e5, okb]
    rw [nls_par, par_expr (n := m + 1) (ihz.1 (m + 1) (by omega)) (by omega) hc]
    rfl
  | @assign o x y ho hp hx hy ihx ihy =>
    refine ⟨?_, NP (eq_false (by decide))⟩
    intro n hn rest hc
    rw [k_assign] at hn ⊢
    simp only [List.length_append, List.length_cons, par_len] at hn
    rw [g_assign]
    obtain ⟨m, rfl⟩ : ∃ m, n = m + 4 := ⟨n - 4, by omega⟩
    have e : tk x ++ (opT o :: parT (tk y)) ++ rest = tk x ++ (opT o :: (parT (tk y) ++ rest)) := by simp
    obtain ⟨a1, a2, a3, a4⟩ := ass_level (ts := parT (tk y) ++ rest) ho
    have hat : Atom (tk x ++ (opT o :: (parT (tk y) ++ rest))) := by
      cases hx with
      | var _ => rw [k_var]; exact atom_kind (by decide)
      | elem _ _ _ => rw [k_elem]; exact atom_kind (by decide)
      | field _ => rw [k_field]; exact atom_op (by decide)
      | num _ => exact absurd hp (no_place (eq_false (by decide)))
      | str => exact absurd hp (no_place (eq_false (by decide)))
      | ere _ => exact absurd hp (no_place (eq_false (by decide)))
      | call _ _ => exact absurd hp (no_place (eq_false (by decide)))
      | built _ _ => exact absurd hp (no_place (eq_false (by decide)))
      | group _ => exact absurd hp (no_place (eq_false (by decide)))
      | lst h _ => cases h
      | within _ _ _ => exact absurd hp (no_place (eq_false (by decide)))
      | unary _ _ => exact absurd hp (no_place (eq_false (by decide)))
      | bin _ _ _ => exact absurd hp (no_place (eq_false (by decide)))
      | cond _ _ _ => exact absurd hp (no_place (eq_false (by decide)))
      | assign _ _ _ _ => exact absurd hp (no_place (eq_false (by decide)))
      | pre _ _ _ => exact absurd hp (no_place (eq_false (by decide)))
      | post _ _ _ => exact absurd hp (no_place (eq_false (by decide)))
    rw [e]
    show exprS (recN (m + 3)) 1 false _ = _
    unfold exprS
    have hu : (recN (m + 3)).unary (tk x ++ (opT o :: (parT (tk y) ++ rest))) = .ok (rg x) (opT o :: (parT (tk y) ++ rest)) :=
      up_atom (r := recN (m + 2)) hat (ihx.2 hp (m + 2) (by omega) _ a4) (fun _ => a2) a3
    rw [hu]
    show exprL (recN (m + 3)) 1 false (recN (m + 3)).fuel _ 10 (opT o :: (parT (tk y) ++ rest)) = _
    rw [recN_fuel, exprL]
    have e3 : levelS false (atS 0 (opT o :: (parT (tk y) ++ rest))) = 1 := a1
    have e4 : (opT o :: (parT (tk y) ++ rest)).drop 1 = parT (tk y) ++ rest := rfl
    have e5 : atS 0 (opT o :: (parT (tk y) ++ rest)) = opT o := rfl
    rw [e3, e4, e5, if_neg (by decide), if_pos rfl, if_pos (g_placeB hp hx), par_expr (n := m) (ihy.1 m (by omega)) (by omega) hc]
    rfl
  | @pre o x ho hp hx ih =>
    refine ⟨?_, NP (eq_false (by decide))⟩
    intro n hn rest hc
    rw [k_pre] at hn ⊢
    rw [List.length_cons] at hn
    rw [g_pre, List.cons_append]
    obtain ⟨m, rfl⟩ : ∃ m, n = m + 3 := ⟨n - 3, by omega⟩
    obtain ⟨s1, s2, s3⟩ := step_at ho (tk x ++ rest)
    refine up_expr (r := recN (m + 2)) ?_ (by rw [recN_fuel]; omega) hc.level
    refine up_unary (r := recN (m + 1)) s2 (up_power ?_ hc.hat)
    have ha : aheadS (recN (m + 1)) (opT o :: (tk x ++ rest)) = .ok (some (.mk oPre o [rg x])) rest := by
      unfold aheadS
      rw [s1]
      show bnd ((recN (m + 1)).operand (tk x ++ rest)) _ = _
      rw [ih.2 hp (m + 1) (by omega) rest hc.sub]
      show (if placeB (rg x) = true then _ else _) = _
      rw [if_pos (g_placeB hp hx)]
    unfold stepS
    rw [ha]
    rfl
  | @post o x ho hp hx ih =>
    refine ⟨?_, NP (eq_false (by decide))⟩
    intro n hn rest hc
    rw [k_post] at hn ⊢
    rw [List.length_append, List.length_singleton] at hn
    rw [g_post]
    obtain ⟨m, rfl⟩ : ∃ m, n = m + 3 := ⟨n - 3, by omega⟩
    obtain ⟨s1, s2, s3⟩ := step_at ho rest
    have e : tk x ++ [opT o] ++ rest = tk x ++ opT o :: rest := by simp
    have hat : Atom (tk x ++ (opT o :: rest)) := by
      cases hx with
      | var _ => rw [k_var]; exact atom_kind (by decide)
      | elem _ _ _ => rw [k_elem]; exact atom_kind (by decide)
      | field _ => rw [k_field]; exact atom_op (by decide)
      | num _ => exact absurd hp (no_place (eq_false (by decide)))
      | str => exact absurd hp (no_place (eq_false (by decide)))
      | ere _ => exact absurd hp (no_place (eq_false (by decide)))
      | call _ _ => exact absurd hp (no_place (eq_false (by decide)))
      | built _ _ => exact absurd hp (no_place (eq_false (by decide)))
      | group _ => exact absurd hp (no_place (eq_false (by decide)))
      | lst h _ => cases h
      | within _ _ _ => exact absurd hp (no_place (eq_false (by decide)))
      | unary _ _ => exact absurd hp (no_place (eq_false (by decide)))
      | bin _ _ _ => exact absurd hp (no_place (eq_false (by decide)))
      | cond _ _ _ => exact absurd hp (no_place (eq_false (by decide)))
      | assign _ _ _ _ => exact absurd hp (no_place (eq_false (by decide)))
      | pre _ _ _ => exact absurd hp (no_place (eq_false (by decide)))
      | post _ _ _ => exact absurd hp (no_place (eq_false (by decide)))
    rw [e]
    refine up_expr (r := recN (m + 2)) ?_ (by rw [recN_fuel]; omega) hc.level
    refine up_unary (r := recN (m + 1)) hat.2 (up_power ?_ hc.hat)
    have ha : aheadS (recN (m + 1)) (tk x ++ (opT o :: rest)) = .ok none (tk x ++ (opT o :: rest)) := by
      unfold aheadS
      rw [hat.1]
    unfold stepS
    rw [ha]
    show bnd ((recN (m + 1)).operand (tk x ++ (opT o :: rest))) _ = _
    rw [ih.2 hp (m + 1) (by omega) _ (show atS 0 (opT o :: rest) ≠ opT [91] from s3)]
    show (if placeB (rg x) = true then _ else _) = _
    rw [if_pos (g_placeB hp hx), s1]
    rfl
end
end Go.AD.Lx
namespace Go.AD.Lx
/-! ### what is parsed of what is shown: the same tree but for groups; right where it stands -/
theorem bares_get : ∀ (l : List NTree), baresS l = l.map bareS
  | [] => rfl
  | k :: ks => by rw [baresS, bares_get ks]; rfl
theorem rgs_map : ∀ (l : List NTree), rgs l = l.map rg
  | [] => rfl
  | k :: ks => by rw [rgs, rgs_map ks]; rfl
theorem bare_op {op t : Bytes} {l : List NTree} (h : (op = oGroup) = False) : bareS (.mk op t l) = .mk op t (l.map bareS) := by
  rw [bareS, if_neg (fun hh => by have := hh.1; rw [h] at this; exact this), bares_get]
theorem bare_grp (x : NTree) : bareS (grp x) = bareS x := by
  unfold grp
  rw [bareS, baresS, baresS, if_pos ⟨rfl, rfl⟩]
  rfl
theorem rg_bare {e : NTree} (h : Sh false e) : bareS (rg e) = bareS e := by
  have L : ∀ {l : List NTree}, (∀ x ∈ l, bareS (rg x) = bareS x) → (rgs l).map bareS = l.map bareS := by
    intro l h
    rw [rgs_map, List.map_map]
    exact List.map_congr_left h
  induction h with
  | num h => rw [g_num]
  | str => rw [g_str]
  | ere h => rw [g_ere]
  | var h => rw [g_var]
  | elem h _ _ ih => rw [g_elem, bare_op (eq_false (by decide)), bare_op (eq_false (by decide)), L ih]
  | call h _ ih => rw [g_call, bare_op (eq_false (by decide)), bare_op (eq_false (by decide)), L ih]
  | built h _ ih => rw [g_built, bare_op (eq_false (by decide)), bare_op (eq_false (by decide)), L ih]
  | @group x h ih => rw [g_group, ih]; exact (bare_grp x).symm
  | lst h => cases h
  | @within t l _ _ _ ih =>
    by_cases h1 : l.length = 1
    · obtain ⟨x, rfl⟩ : ∃ x, l = [x] := by
        match l, h1 with
        | [x], _ => exact ⟨x, rfl⟩
      rw [g_in1, bare_op (eq_false (by decide)), bare_op (eq_false (by decide)), List.map_cons, List.map_cons, bare_grp, ih x (by simp)]
    · rw [g_in2 h1, bare_op (eq_false (by decide)), bare_op (eq_false (by decide)), L ih]
  | field _ ih => rw [g_field, bare_op (eq_false (by decide)), bare_op (eq_false (by decide)), List.map_cons, List.map_cons, bare_grp, ih]
  | unary _ _ ih => rw [g_unary, bare_op (eq_false (by decide)), bare_op (eq_false (by decide)), List.map_cons, List.map_cons, bare_grp, ih]
  | bin _ _ _ ihx ihy => rw [g_bin, bare_op (eq_false (by decide)), bare_op (eq_false (by decide))]; simp only [List.map_cons, List.map_nil, bare_grp, ihx, ihy]
  | cond _ _ _ ihx ihy ihz => rw [g_cond, bare_op (eq_false (by decide)), bare_op (eq_false (by decide))]; simp only [List.map_cons, List.map_nil, bare_grp, ihx, ihy, ihz]
  | assign _ _ _ _ ihx ihy => rw [g_assign, bare_op (eq_false (by decide)), bare_op (eq_false (by decide))]; simp only [List.map_cons, List.map_nil, bare_grp, ihx, ihy]
  | pre _ _ _ ih => rw [g_pre, bare_op (eq_false (by decide)), bare_op (eq_false (by decide))]; simp only [List.map_cons, List.map_nil, ih]
  | post _ _ _ ih => rw [g_post, bare_op (eq_false (by decide)), bare_op (eq_false (by decide))]; simp only [List.map_cons, List.map_nil, ih]
/-! depth -/
theorem depth_grp (x : NTree) : depthN (grp x) = depthN x + 1 := by
  unfold grp
  rw [depthN, depthNs, depthNs]; omega
theorem depth_le : ∀ {l : List NTree} {n : Nat}, (∀ x ∈ l, depthN x ≤ n) → depthNs l ≤ n
  | [], n, _ => by rw [depthNs]; exact Nat.zero_le _
  | a :: l, n, h => by
    have h1 := h a (List.mem_cons_self ..)
    have h2 := depth_le (fun x hx => h x (List.mem_cons_of_mem _ hx))
    rw [depthNs]; omega
theorem depth_mem : ∀ {l : List NTree} {x : NTree}, x ∈ l → depthN x ≤ depthNs l
  | a :: l, x, h => by
    rw [depthNs]
    rcases List.mem_cons.1 h with rfl | h
    · omega
    · have := depth_mem h; omega
theorem rg_depth {e : NTree} (h : Sh false e) : depthN (rg e) ≤ 2 * depthN e := by
  have L : ∀ {l : List NTree}, (∀ x ∈ l, depthN (rg x) ≤ 2 * depthN x) → depthNs (rgs l) ≤ 2 * depthNs l := by
    intro l h
    refine depth_le (fun y hy => ?_)
    rw [rgs_map, List.mem_map] at hy
    obtain ⟨x, hx, rfl⟩ := hy
    have := h x hx
    have := depth_mem hx
    omega
  induction h with
  | num h => rw [g_num]; omega
  | str => rw [g_str]; omega
  | ere h => rw [g_ere]; omega
  | var h => rw [g_var]; omega
  | elem h _ _ ih => rw [g_elem, depthN, depthN]; have := L ih; omega
  | call h _ ih => rw [g_call, depthN, depthN]; have := L ih; omega
  | built h _ ih => rw [g_built, depthN, depthN]; have := L ih; omega
  | group h ih => rw [g_group, depthN, depthNs, depthNs]; omega
  | lst h => cases h
  | @within t l _ _ _ ih =>
    by_cases h1 : l.length = 1
    · obtain ⟨x, rfl⟩ : ∃ x, l = [x] := by
        match l, h1 with
        | [x], _ => exact ⟨x, rfl⟩
      have := ih x (by simp)
      rw [g_in1, depthN, depthN]
      simp only [depthNs, depth_grp]; omega
    · rw [g_in2 h1, depthN, depthN]; have := L ih; omega
  | field _ ih => rw [g_field, depthN, depthN]; simp only [depthNs, depth_grp]; omega
  | unary _ _ ih => rw [g_unary, depthN, depthN]; simp only [depthNs, depth_grp]; omega
  | bin _ _ _ ihx ihy => rw [g_bin, depthN, depthN]; simp only [depthNs, depth_grp]; omega
  | cond _ _ _ ihx ihy ihz => rw [g_cond, depthN, depthN]; simp only [depthNs, depth_grp]; omega
  | assign _ _ _ _ ihx ihy => rw [g_assign, depthN, depthN]; simp only [depthNs, depth_grp]; omega
  | pre _ _ _ ih => rw [g_pre, depthN, depthN]; simp only [depthNs]; omega
  | post _ _ _ ih => rw [g_post, depthN, depthN]; simp only [depthNs]; omega
/-! what may stand where -/
theorem fines_all : ∀ {l : List NTree} {i : Nat} {lp : Int} {d : Nat} {w : WhereS}, finesS l i lp d w = true → ∀ x ∈ l, ∃ w', fineS x (d + 1) w' = true
  | [], _, _, _, _, _, x, hx => by cases hx
  | a :: l, i, lp, d, w, h, x, hx => by
    rw [finesS] at h
    split at h
    · rename_i h1
      rcases List.mem_cons.1 hx with rfl | hx
      · exact ⟨_, h1⟩
      · exact fines_all h x hx
    · cases h
theorem fines_mk : ∀ {l : List NTree} {i : Nat} {lp : Int} {d : Nat} {w : WhereS}, (∀ x ∈ l, ∀ w', fineS x (d + 1) w' = true) → finesS l i lp d w = true
  | [], _, _, _, _, _ => by rw [finesS]
  | a :: l, i, lp, d, w, h => by
    rw [finesS, if_pos (h a (List.mem_cons_self ..) _)]
    exact fines_mk (fun x hx => h x (List.mem_cons_of_mem _ hx))
theorem fine_kids {op t : Bytes} {l : List NTree} {d : Nat} {w : WhereS} (h : fineS (.mk op t l) d w = true) : headBad (.mk op t l) w ≠ true ∧ ∀ x ∈ l, ∃ w', fineS x (d + 1) w' = true := by
  rw [fineS] at h
  split at h
  · cases h
  · rename_i hc
    exact ⟨fun hh => hc (.inr hh), fines_all h⟩
/-- A node that no test looks at but for its depth. -/
theorem fine_mk {op t : Bytes} {l : List NTree} {d : Nat} (ho : (op = oList ∨ op = oNext ∨ op = oReturn ∨ op = oBreak ∨ op = oContinue ∨ op = kBuilt) = False) (hd : d ≤ 200) (h : ∀ x ∈ l, ∀ w, fineS x (d + 1) w = true) (w : WhereS) : fineS (.mk op t l) d w = true := by
  have ho' : ¬ (op = oList ∨ op = oNext ∨ op = oReturn ∨ op = oBreak ∨ op = oContinue ∨ op = kBuilt) := by rw [ho]; exact id
  simp only [not_or] at ho'
  obtain ⟨h1, h2, h3, h4, h5, h6⟩ := ho'
  rw [fineS, if_neg]
  · exact fines_mk h
  · rintro (hh | hh)
    · omega
    · unfold headBad NTree.op at hh
      simp only [h1, h2, h3, h4, h5, h6, decide_false, Bool.false_and, Bool.or_self, or_self, Bool.false_eq_true] at hh
theorem fine_built {t : Bytes} {l : List NTree} {d : Nat} (hb : builtS (.mk kBuilt t l) = true) (hd : d ≤ 200) (h : ∀ x ∈ l, ∀ w, fineS x (d + 1) w = true) (w : WhereS) : fineS (.mk kBuilt t l) d w = true := by
  rw [fineS, if_neg]
  · exact fines_mk h
  · rintro (hh | hh)
    · omega
    · unfold headBad at hh
      rw [hb] at hh
      have e : NTree.op (.mk kBuilt t l) = kBuilt := rfl
      rw [e] at hh
      revert hh
      have e1 : decide (kBuilt = oList) = false := by decide
      have e2 : decide (kBuilt = oNext) = false := by decide
      have e3 : decide (kBuilt = oReturn) = false := by decide
      have e4 : decide (kBuilt = oBreak ∨ kBuilt = oContinue) = false := by decide
      rw [e1, e2, e3, e4]
      simp
theorem bad_built {t : Bytes} {l : List NTree} {w : WhereS} (h : headBad (.mk kBuilt t l) w ≠ true) : builtS (.mk kBuilt t l) = true := by
  unfold headBad at h
  have e : NTree.op (.mk kBuilt t l) = kBuilt := rfl
  rw [e] at h
  cases hb : builtS (.mk kBuilt t l) with
  | true => rfl
  | false =>
    rw [hb] at h
    simp at h
theorem bad_list {t : Bytes} {l : List NTree} {w : WhereS} (h : headBad (.mk oList t l) w ≠ true) : False := by
  unfold headBad at h
  have e : NTree.op (.mk oList t l) = oList := rfl
  rw [e] at h
  simp at h
theorem rgs_getD (l : List NTree) (i : Nat) (h : i < l.length) : (rgs l).getD i noneN = rg (l.getD i noneN) := by
  rw [rgs_map]
  simp [List.getD_eq_getElem?_getD, h]
theorem built_rg {t : Bytes} {l : List NTree} (hl : ∀ x ∈ l, Sh false x) (hb : builtS (.mk kBuilt t l) = true) : builtS (.mk kBuilt t (rgs l)) = true := by
  unfold builtS at hb ⊢
  have e1 : (NTree.mk kBuilt t l).kids = l := rfl
  have e2 : (NTree.mk kBuilt t l).text = t := rfl
  have e3 : (NTree.mk kBuilt t (rgs l)).kids = rgs l := rfl
  have e4 : (NTree.mk kBuilt t (rgs l)).text = t := rfl
  rw [e1, e2] at hb
  rw [e3, e4, rgs_len]
  have hm : ∀ {i : Nat}, i < l.length → Sh false (l.getD i noneN) := by
    intro i hi
    have : l.getD i noneN = l[i] := by simp [List.getD_eq_getElem?_getD, hi]
    rw [this]
    exact hl _ (List.getElem_mem hi)
  by_cases hc : l.length < (countsS t).1 ∨ (countsS t).2 < l.length
  · rw [if_pos hc] at hb; cases hb
  rw [if_neg hc] at hb ⊢
  by_cases hs : t = [115, 112, 108, 105, 116]
  · rw [if_pos hs] at hb ⊢
    have h1 : 1 < l.length := by
      have : (countsS t).1 = 2 := by rw [hs]; rfl
      omega
    rw [rgs_getD l 1 h1]
    have hv := of_decide_eq_true hb
    have hp : placeB (l.getD 1 noneN) = true := by unfold placeB; rw [hv]; rfl
    rw [g_place hp (hm h1), hv]; rfl
  · rw [if_neg hs] at hb ⊢
    rw [Bool.or_eq_true] at hb ⊢
    rcases hb with hb | hb
    · exact .inl hb
    · by_cases h3 : l.length < 3
      · exact .inl (decide_eq_true h3)
      · refine .inr ?_
        rw [Bool.or_eq_true] at hb ⊢
        rcases hb with hb | hb
        · exact .inl hb
        · refine .inr ?_
          rw [rgs_getD l 2 (by omega)]
          exact g_placeB hb (hm (by omega))
theorem fine_grp {x : NTree} {d : Nat} (hd : d + depthN (grp x) ≤ 201) (h : ∀ d, d + depthN x ≤ 201 → ∀ w, fineS x d w = true) (w : WhereS) : fineS (grp x) d w = true := by
  rw [depth_grp] at hd
  refine fine_mk (eq_false (by decide)) (by omega) (fun y hy w' => ?_) w
  rw [List.mem_singleton.1 hy]
  exact h (d + 1) (by omega) w'
/-- Without lists; and what is parsed of what is shown is right where it stands. -/
theorem rg_fine {e : NTree} (h : Sh true e) : ∀ (d : Nat) (w : WhereS), fineS e d w = true → Sh false e ∧ ∀ d, d + depthN (rg e) ≤ 201 → ∀ w, fineS (rg e) d w = true := by
  have D0 : ∀ {op t : Bytes} {l : List NTree} {d : Nat}, d + depthN (.mk op t l) ≤ 201 → d ≤ 200 ∧ ∀ x ∈ l, d + 1 + depthN x ≤ 201 := by
    intro op t l d h
    rw [depthN] at h
    exact ⟨by omega, fun x hx => by have := depth_mem hx; omega⟩
  have L : ∀ {l : List NTree} {d : Nat}, (∀ x ∈ l, ∀ d, d + depthN (rg x) ≤ 201 → ∀ w, fineS (rg x) d w = true) → (∀ x ∈ rgs l, d + 1 + depthN x ≤ 201) → ∀ x ∈ rgs l, ∀ w, fineS x (d + 1) w = true := by
    intro l d h hd x hx w
    have hdx := hd x hx
    rw [rgs_map, List.mem_map] at hx
    obtain ⟨y, hy, rfl⟩ := hx
    exact h y hy (d + 1) hdx w
  induction h with
  | num h =>
    intro d w hf
    refine ⟨.num h, fun d hd w => ?_⟩
    rw [g_num] at hd ⊢
    exact fine_mk (eq_false (by decide)) (D0 hd).1 (by simp) w
  | str =>
    intro d w hf
    refine ⟨.str, fun d hd w => ?_⟩
    rw [g_str] at hd ⊢
    exact fine_mk (eq_false (by decide)) (D0 hd).1 (by simp) w
  | ere h =>
    intro d w hf
    refine ⟨.ere h, fun d hd w => ?_⟩
    rw [g_ere] at hd ⊢
    exact fine_mk (eq_false (by decide)) (D0 hd).1 (by simp) w
  | var h =>
    intro d w hf
    refine ⟨.var h, fun d hd w => ?_⟩
    rw [g_var] at hd ⊢
    exact fine_mk (eq_false (by decide)) (D0 hd).1 (by simp) w
  | @elem t l h hne hl ih =>
    intro d w hf
    obtain ⟨_, hk⟩ := fine_kids hf
    have hi : ∀ x ∈ l, Sh false x ∧ ∀ d, d + depthN (rg x) ≤ 201 → ∀ w, fineS (rg x) d w = true := fun x hx => by
      obtain ⟨w', h1⟩ := hk x hx
      exact ih x hx _ w' h1
    refine ⟨.elem h hne (fun x hx => (hi x hx).1), fun d hd w => ?_⟩
    rw [g_elem] at hd ⊢
    exact fine_mk (eq_false (by decide)) (D0 hd).1 (L (fun x hx => (hi x hx).2) (D0 hd).2) w
  | @call t l h hl ih =>
    intro d w hf
    obtain ⟨_, hk⟩ := fine_kids hf
    have hi : ∀ x ∈ l, Sh false x ∧ ∀ d, d + depthN (rg x) ≤ 201 → ∀ w, fineS (rg x) d w = true := fun x hx => by
      obtain ⟨w', h1⟩ := hk x hx
      exact ih x hx _ w' h1
    refine ⟨.call h (fun x hx => (hi x hx).1), fun d hd w => ?_⟩
    rw [g_call] at hd ⊢
    exact fine_mk (eq_false (by decide)) (D0 hd).1 (L (fun x hx => (hi x hx).2) (D0 hd).2) w
  | @built t l h hl ih =>
    intro d w hf
    obtain ⟨hb, hk⟩ := fine_kids hf
    have hi : ∀ x ∈ l, Sh false x ∧ ∀ d, d + depthN (rg x) ≤ 201 → ∀ w, fineS (rg x) d w = true := fun x hx => by
      obtain ⟨w', h1⟩ := hk x hx
      exact ih x hx _ w' h1
    refine ⟨.built h (fun x hx => (hi x hx).1), fun d hd w => ?_⟩
    rw [g_built] at hd ⊢
    exact fine_built (built_rg (fun x hx => (hi x hx).1) (bad_built hb)) (D0 hd).1 (L (fun x hx => (hi x hx).2) (D0 hd).2) w
  | @group x h ih =>
    intro d w hf
    obtain ⟨_, hk⟩ := fine_kids hf
    obtain ⟨w', h1⟩ := hk x (by simp)
    obtain ⟨i1, i2⟩ := ih _ w' h1
    refine ⟨.group i1, fun d hd w => ?_⟩
    rw [g_group] at hd ⊢
    exact i2 d hd w
  | lst _ _ =>
    intro d w hf
    exact (bad_list (fine_kids hf).1).elim
  | @within t l h hne hl ih =>
    intro d w hf
    obtain ⟨_, hk⟩ := fine_kids hf
    have hi : ∀ x ∈ l, Sh false x ∧ ∀ d, d + depthN (rg x) ≤ 201 → ∀ w, fineS (rg x) d w = true := fun x hx => by
      obtain ⟨w', h1⟩ := hk x hx
      exact ih x hx _ w' h1
    refine ⟨.within h hne (fun x hx => (hi x hx).1), fun d hd w => ?_⟩
    by_cases h1 : l.length = 1
    · obtain ⟨x, rfl⟩ : ∃ x, l = [x] := by
        match l, h1 with
        | [x], _ => exact ⟨x, rfl⟩
      rw [g_in1] at hd ⊢
      refine fine_mk (eq_false (by decide)) (D0 hd).1 (fun y hy w' => ?_) w
      have hdy := (D0 hd).2 y hy
      rw [List.mem_singleton.1 hy] at hdy ⊢
      exact fine_grp hdy (hi x (by simp)).2 w'
    · rw [g_in2 h1] at hd ⊢
      exact fine_mk (eq_false (by decide)) (D0 hd).1 (L (fun x hx => (hi x hx).2) (D0 hd).2) w
  | @field x h ih =>
    intro d w hf
    obtain ⟨_, hk⟩ := fine_kids hf
    obtain ⟨w', h1⟩ := hk x (by simp)
    obtain ⟨i1, i2⟩ := ih _ w' h1
    refine ⟨.field i1, fun d hd w => ?_⟩
    rw [g_field] at hd ⊢
    refine fine_mk (eq_false (by decide)) (D0 hd).1 (fun y hy w' => ?_) w
    have hdy := (D0 hd).2 y hy
    rw [List.mem_singleton.1 hy] at hdy ⊢
    exact fine_grp hdy i2 w'
  | @unary o x ho h ih =>
    intro d w hf
    obtain ⟨_, hk⟩ := fine_kids hf
    obtain ⟨w', h1⟩ := hk x (by simp)
    obtain ⟨i1, i2⟩ := ih _ w' h1
    refine ⟨.unary ho i1, fun d hd w => ?_⟩
    rw [g_unary] at hd ⊢
    refine fine_mk (eq_false (by decide)) (D0 hd).1 (fun y hy w' => ?_) w
    have hdy := (D0 hd).2 y hy
    rw [List.mem_singleton.1 hy] at hdy ⊢
    exact fine_grp hdy i2 w'
  | @bin o x y ho hx hy ihx ihy =>
    intro d w hf
    obtain ⟨_, hk⟩ := fine_kids hf
    obtain ⟨w1, h1⟩ := hk x (by simp)
    obtain ⟨w2, h2⟩ := hk y (by simp)
    obtain ⟨i1, i2⟩ := ihx _ w1 h1
    obtain ⟨j1, j2⟩ := ihy _ w2 h2
    refine ⟨.bin ho i1 j1, fun d hd w => ?_⟩
    rw [g_bin] at hd ⊢
    refine fine_mk (eq_false (by decide)) (D0 hd).1 (fun z hz w' => ?_) w
    have hdz := (D0 hd).2 z hz
    simp only [List.mem_cons, List.not_mem_nil, or_false] at hz
    rcases hz with rfl | rfl
    · exact fine_grp hdz i2 w'
    · exact fine_grp hdz j2 w'
  | @cond x y z hx hy hz ihx ihy ihz =>
    intro d w hf
    obtain ⟨_, hk⟩ := fine_kids hf
    obtain ⟨w1, h1⟩ := hk x (by simp)
    obtain ⟨w2, h2⟩ := hk y (by simp)
    obtain ⟨w3, h3⟩ := hk z (by simp)
    obtain ⟨i1, i2⟩ := ihx _ w1 h1
    obtain ⟨j1, j2⟩ := ihy _ w2 h2
    obtain ⟨k1, k2⟩ := ihz _ w3 h3
    refine ⟨.cond i1 j1 k1, fun d hd w => ?_⟩
    rw [g_cond] at hd ⊢
    refine fine_mk (eq_false (by decide)) (D0 hd).1 (fun q hq w' => ?_) w
    have hdz := (D0 hd).2 q hq
    simp only [List.mem_cons, List.not_mem_nil, or_false] at hq
    rcases hq with rfl | rfl | rfl
    · exact fine_grp hdz i2 w'
    · exact fine_grp hdz j2 w'
    · exact fine_grp hdz k2 w'
  | @assign o x y ho hp hx hy ihx ihy =>
    intro d w hf
    obtain ⟨_, hk⟩ := fine_kids hf
    obtain ⟨w1, h1⟩ := hk x (by simp)
    obtain ⟨w2, h2⟩ := hk y (by simp)
    obtain ⟨i1, i2⟩ := ihx _ w1 h1
    obtain ⟨j1, j2⟩ := ihy _ w2 h2
    refine ⟨.assign ho hp i1 j1, fun d hd w => ?_⟩
    rw [g_assign] at hd ⊢
    refine fine_mk (eq_false (by decide)) (D0 hd).1 (fun z hz w' => ?_) w
    have hdz := (D0 hd).2 z hz
    simp only [List.mem_cons, List.not_mem_nil, or_false] at hz
    rcases hz with rfl | rfl
    · exact i2 (d + 1) hdz w'
    · exact fine_grp hdz j2 w'
  | @pre o x ho hp hx ih =>
    intro d w hf
    obtain ⟨_, hk⟩ := fine_kids hf
    obtain ⟨w', h1⟩ := hk x (by simp)
    obtain ⟨i1, i2⟩ := ih _ w' h1
    refine ⟨.pre ho hp i1, fun d hd w => ?_⟩
    rw [g_pre] at hd ⊢
    refine fine_mk (eq_false (by decide)) (D0 hd).1 (fun y hy w' => ?_) w
    have hdy := (D0 hd).2 y hy
    rw [List.mem_singleton.1 hy] at hdy ⊢
    exact i2 (d + 1) hdy w'
  | @post o x ho hp hx ih =>
    intro d w hf
    obtain ⟨_, hk⟩ := fine_kids hf
    obtain ⟨w', h1⟩ := hk x (by simp)
    obtain ⟨i1, i2⟩ := ih _ w' h1
    refine ⟨.post ho hp i1, fun d hd w => ?_⟩
    rw [g_post] at hd ⊢
    refine fine_mk (eq_false (by decide)) (D0 hd).1 (fun y hy w' => ?_) w
    have hdy := (D0 hd).2 y hy
    rw [List.mem_singleton.1 hy] at hdy ⊢
    exact i2 (d + 1) hdy w'
end Go.AD.Lx
namespace Go.AD.Lx
/-! ### what may be shown -/
theorem join_mem : ∀ {l : List NTree} {x : NTree}, x ∈ l → sl x ≤ jl l := by
  have T : ∀ {l : List NTree} {x : NTree}, x ∈ l → sl x ≤ ((showsS l).flatMap fun y => [44, 32] ++ y).length := by
    intro l x hx
    induction l with
    | nil => cases hx
    | cons a l ih =>
      rw [showsS]
      simp only [List.flatMap_cons, List.length_append, List.length_cons, List.length_nil]
      rcases List.mem_cons.1 hx with rfl | hx
      · unfold sl; omega
      · have := ih hx; omega
  intro l x hx
  cases l with
  | nil => cases hx
  | cons a l =>
    unfold jl
    rw [showsS, joinS]
    simp only [List.length_append]
    rcases List.mem_cons.1 hx with rfl | hx
    · unfold sl; omega
    · have := T hx; omega
theorem join_kids (l : List NTree) : l.length ≤ jl l + 1 := by
  have T : ∀ {l : List NTree}, l.length ≤ ((showsS l).flatMap fun y => [44, 32] ++ y).length := by
    intro l
    induction l with
    | nil => simp [showsS]
    | cons a l ih =>
      rw [showsS]
      simp only [List.flatMap_cons, List.length_append, List.length_cons, List.length_nil]
      omega
  cases l with
  | nil => simp
  | cons a l =>
    have := T (l := l)
    unfold jl
    rw [showsS, joinS]
    simp only [List.length_append, List.length_cons]
    omega
theorem oks_mem : ∀ {l : List NTree}, (∀ x ∈ l, ShowOk x) → ShowOks l
  | [], _ => by rw [ShowOks]; trivial
  | a :: l, h => by
    rw [ShowOks]
    exact ⟨h a (List.mem_cons_self ..), oks_mem (fun x hx => h x (List.mem_cons_of_mem _ hx))⟩
theorem slash_ge : ∀ t : Bytes, t.length ≤ (slashesS t).length
  | [] => Nat.le_refl _
  | [c] => by rw [slashesS]; split <;> simp
  | c :: d :: s => by
    have h1 := slash_ge s
    have h2 := slash_ge (d :: s)
    rw [slashesS]
    simp only [List.length_cons] at h2 ⊢
    split
    · simp only [List.length_cons]; omega
    split
    · simp only [List.length_cons]; omega
    · simp only [List.length_cons]; omega
theorem show_ok {e : NTree} (h : Sh false e) (hl : sl e ≤ 12000) : ShowOk e := by
  have M : ∀ {op t : Bytes} {l : List NTree}, wantK op ≤ l.length → l.length ≤ 12001 → t.length ≤ 12000 → sl (.mk op t l) ≤ 12000 → (∀ x ∈ l, ShowOk x) → ShowOk (.mk op t l) := by
    intro op t l h1 h2 h3 h4 h5
    rw [ShowOk]
    exact ⟨h1, by omega, by omega, by unfold sl at h4; omega, oks_mem h5⟩
  have one : ∀ {x : NTree}, ShowOk x → ∀ y ∈ [x], ShowOk y := fun h y hy => by rw [List.mem_singleton.1 hy]; exact h
  induction h with
  | @num t h =>
    refine M (by decide) (by simp) ?_ hl (by simp)
    unfold sl at hl; rw [s_num] at hl; exact hl
  | @str t =>
    refine M (by decide) (by simp) ?_ hl (by simp)
    unfold sl at hl; rw [s_str, enc_len] at hl; omega
  | @ere t h =>
    refine M (by decide) (by simp) ?_ hl (by simp)
    unfold sl at hl; rw [s_ere] at hl
    have := slash_ge t
    simp only [List.length_append] at hl; omega
  | @var t h =>
    refine M (by decide) (by simp) ?_ hl (by simp)
    unfold sl at hl; rw [s_var] at hl; exact hl
  | @elem t l h hne hl' ih =>
    have hb := hl
    unfold sl at hb; rw [s_elem] at hb
    simp only [List.length_append] at hb
    have hk := join_kids l
    unfold jl at hk
    refine M (Nat.zero_le _) (by omega) (by omega) hl (fun x hx => ih x hx ?_)
    have := join_mem hx
    unfold jl at this; omega
  | @call t l h hl' ih =>
    have hb := hl
    unfold sl at hb; rw [s_call] at hb
    simp only [List.length_append] at hb
    have hk := join_kids l
    unfold jl at hk
    refine M (Nat.zero_le _) (by omega) (by omega) hl (fun x hx => ih x hx ?_)
    have := join_mem hx
    unfold jl at this; omega
  | @built t l h hl' ih =>
    have hb := hl
    unfold sl at hb; rw [s_built] at hb
    simp only [List.length_append] at hb
    have hk := join_kids l
    unfold jl at hk
    refine M (Nat.zero_le _) (by omega) (by omega) hl (fun x hx => ih x hx ?_)
    have := join_mem hx
    unfold jl at this; omega
  | @group x h ih =>
    have hb := hl
    unfold sl at hb; rw [s_group] at hb
    exact M (show wantK oGroup ≤ 1 by decide) (by simp) (by simp) hl (one (ih hb))
  | lst h => cases h
  | @within t l h hne hl' ih =>
    have hb := hl
    rw [in_len] at hb
    have hk := join_kids l
    refine M (Nat.zero_le _) (by omega) (by omega) hl (fun x hx => ih x hx ?_)
    have := join_mem hx
    omega
  | @field x h ih =>
    have hb := hl
    unfold sl at hb; rw [s_field] at hb
    simp only [List.length_append] at hb
    exact M (show wantK oField ≤ 1 by decide) (by simp) (by simp) hl (one (ih (by unfold sl; omega)))
  | @unary o x ho h ih =>
    have hb := hl
    rw [un_len] at hb
    exact M (show wantK oUnary ≤ 1 by decide) (by simp) (by omega) hl (one (ih (by omega)))
  | @bin o x y ho hx hy ihx ihy =>
    have hb : sl x + sl y ≤ 12000 ∧ o.length ≤ 12000 := by
      by_cases hc : o = oCat
      · rw [hc, cat_len] at hl
        rw [hc]
        exact ⟨by omega, by decide⟩
      · rw [bin_len hc] at hl; omega
    refine M (show wantK oBin ≤ 2 by decide) (by simp) hb.2 hl (fun z hz => ?_)
    simp only [List.mem_cons, List.not_mem_nil, or_false] at hz
    rcases hz with rfl | rfl
    · exact ihx (by omega)
    · exact ihy (by omega)
  | @cond x y z hx hy hz ihx ihy ihz =>
    have hb := hl
    rw [co_len] at hb
    refine M (show wantK oCond ≤ 3 by decide) (by simp) (by simp) hl (fun q hq => ?_)
    simp only [List.mem_cons, List.not_mem_nil, or_false] at hq
    rcases hq with rfl | rfl | rfl
    · exact ihx (by omega)
    · exact ihy (by omega)
    · exact ihz (by omega)
  | @assign o x y ho hp hx hy ihx ihy =>
    have hb := hl
    rw [as_len] at hb
    refine M (show wantK oAssign ≤ 2 by decide) (by simp) (by omega) hl (fun z hz => ?_)
    simp only [List.mem_cons, List.not_mem_nil, or_false] at hz
    rcases hz with rfl | rfl
    · exact ihx (by omega)
    · exact ihy (by omega)
  | @pre o x ho hp hx ih =>
    have hb := hl
    unfold sl at hb; rw [s_pre] at hb
    simp only [List.length_append] at hb
    exact M (show wantK oPre ≤ 1 by decide) (by simp) (by omega) hl (one (ih (by unfold sl; omega)))
  | @post o x ho hp hx ih =>
    have hb := hl
    unfold sl at hb; rw [s_post] at hb
    simp only [List.length_append] at hb
    exact M (show wantK oPost ≤ 1 by decide) (by simp) (by omega) hl (one (ih (by unfold sl; omega)))
mutual
theorem okN_bare : ∀ n : NTree, okN n → okN (bareS n)
  | .mk op text kids, h => by
    rw [okN] at h
    rw [bareS]
    have hk := okNs_bares kids h.2
    split
    · cases kids with
      | nil => rw [baresS]; show okN noneN; rw [noneN, okN]; exact ⟨by simp, by rw [okNs]; trivial⟩
      | cons k ks =>
        rw [baresS] at hk ⊢
        rw [okNs] at hk
        exact hk.1
    · rw [okN, bares_len]
      exact ⟨h.1, hk⟩
theorem okNs_bares : ∀ l : List NTree, okNs l → okNs (baresS l)
  | [], h => by rw [baresS, okNs]; trivial
  | k :: ks, h => by
    rw [okNs] at h
    rw [baresS, okNs]
    exact ⟨okN_bare k h.1, okNs_bares ks h.2⟩
end
/-! ### a program of one rule -/
theorem tail_ends {ts : List Tok} (h : TokS ts) : TokS (endsS ts) ∧ wts (endsS ts) ≤ wts ts := by
  induction ts with
  | nil => exact ⟨h, Nat.le_refl _⟩
  | cons t ts ih =>
    rw [endsS]
    split
    · have := ih (fun x hx => h x (List.mem_cons_of_mem _ hx))
      refine ⟨this.1, ?_⟩
      rw [wts]; omega
    · exact ⟨h, Nat.le_refl _⟩
theorem items_le {n : Nat} : ∀ (f : Nat) (l : List NTree) (ts : List Tok) (A : List NTree) (t : List Tok), itemsL (recN n) f l ts = .ok A t → l.length ≤ A.length ∧ (l.length = A.length → A = l)
  | 0, l, ts, A, t, h => by rw [itemsL] at h; cases h
  | f + 1, l, ts, A, t, h => by
    by_cases hne : ts = []
    · rw [itemsL, if_pos hne] at h
      cases h
      exact ⟨Nat.le_refl _, fun _ => rfl⟩
    · obtain ⟨x, us, hi, hf, h⟩ := items_step hne h
      have := (items_le f _ _ A t h).1
      rw [List.length_append, List.length_singleton] at this
      exact ⟨by omega, fun e => by omega⟩
theorem item_expr {r : Rec} {ts t : List Tok} {text : Bytes} {e b : NTree} {o : Bool} (h : itemS r ts = .ok (.mk oRule text [e, b], o) t) (he : e.op ≠ oNone) : ∃ u, r.expr 1 false ts = .ok e u := by
  unfold itemS at h
  split at h
  · obtain ⟨a, r1, _, h⟩ := bnd_ok h
    simp only [R.ok.injEq, Prod.mk.injEq, NTree.mk.injEq] at h
    exact absurd h.1.1.1 (by decide)
  split at h
  · obtain ⟨a, r1, _, h⟩ := bnd_ok h
    simp only [R.ok.injEq, Prod.mk.injEq, NTree.mk.injEq] at h
    exact absurd h.1.1.1 (by decide)
  split at h
  · obtain ⟨a, r1, h1, h⟩ := bnd_ok h
    unfold functionS at h1
    obtain ⟨_, _, _, h1⟩ := bnd_ok h1
    obtain ⟨_, _, _, h1⟩ := bnd_ok h1
    obtain ⟨_, _, _, h1⟩ := bnd_ok h1
    obtain ⟨_, _, _, h1⟩ := bnd_ok h1
    simp only [R.ok.injEq] at h1
    rw [← h1.1] at h
    simp only [R.ok.injEq, Prod.mk.injEq, NTree.mk.injEq] at h
    exact absurd h.1.1.1 (by decide)
  split at h
  · obtain ⟨a, r1, _, h⟩ := bnd_ok h
    simp only [R.ok.injEq, Prod.mk.injEq, NTree.mk.injEq, List.cons.injEq] at h
    rw [← h.1.1.2.2.1] at he
    exact absurd rfl he
  obtain ⟨a, r1, h1, h⟩ := bnd_ok h
  split at h
  · obtain ⟨_, _, _, h⟩ := bnd_ok h
    obtain ⟨_, _, _, h⟩ := bnd_ok h
    simp only [R.ok.injEq, Prod.mk.injEq, NTree.mk.injEq] at h
    exact absurd h.1.1.1 (by decide)
  · obtain ⟨_, _, _, h⟩ := bnd_ok h
    simp only [R.ok.injEq, Prod.mk.injEq, NTree.mk.injEq, List.cons.injEq] at h
    rw [← h.1.1.2.2.1]
    exact ⟨_, h1⟩
theorem starts_item {t : Tok} (h : startsB t = true) : endB t = false ∧ t ≠ wordT oBegin ∧ t ≠ wordT oEnd ∧ t ≠ wordT oFunction ∧ t ≠ opT [123] := by
  have N : ∀ {u : Tok}, startsB u = false → t ≠ u := fun hu e => by rw [e, hu] at h; cases h
  refine ⟨?_, N (by decide), N (by decide), N (by decide), N (by decide)⟩
  unfold endB
  rw [Bool.or_eq_false_iff]
  exact ⟨decide_eq_false (starts_nl h), decide_eq_false (N (by decide))⟩
theorem show_parse {e : NTree} (h : Sh false e) (hl : sl e ≤ 15000) (hf : fineS (.mk oRule [] [rg e, noneN]) 1 (whereOf (.mk oRule [] [rg e, noneN])) = true) : parseS (showS e ++ [10]) = some [.mk oRule [] [rg e, noneN]] := by
  obtain ⟨t, u, h1, h2⟩ := tk_head h
  obtain ⟨s1, s2, s3, s4, s5⟩ := starts_item h2
  have hlen : (tk e ++ [(kNl, [])]).length = (tk e).length + 1 := by simp
  have hends : endsS (tk e ++ [(kNl, [])]) = tk e ++ [(kNl, [])] := by
    rw [h1, List.cons_append, endsS, s1]; rfl
  unfold parseS
  rw [show_lex h (by unfold sl at hl; omega)]
  simp only
  unfold tokensS
  rw [hends]
  generalize hn : 10 * (tk e ++ [(kNl, [])]).length + 20 = n
  obtain ⟨m, rfl⟩ : ∃ m, n = m + 2 := ⟨n - 2, by omega⟩
  have hi : itemS (recN (m + 2)) (tk e ++ [(kNl, [])]) = .ok (.mk oRule [] [rg e, noneN], true) [(kNl, [])] := by
    have ha : atS 0 (tk e ++ [(kNl, [])]) = t := by rw [h1]; rfl
    unfold itemS
    rw [ha, if_neg s2, if_neg s3, if_neg s4, if_neg s5, (tree_read h).1 (m + 2) (by omega) _ (cl10 [])]
    rfl
  rw [itemsL, if_neg (by rw [h1]; simp), hi, okb, if_pos hf]
  have hc : endB (atS 0 [(kNl, [])]) = true ∨ (NTree.mk oRule [] [rg e, noneN], true).2 = false ∨ endsS [(kNl, [])] = [] := .inl (by decide)
  rw [if_pos hc]
  rfl
/-- What Show tells of an expression reads as that expression. -/
theorem shown_law (s text : Bytes) (e b : NTree) (hs : s.length ≤ 1000) (hp : parseS s = some [.mk oRule text [e, b]]) (hb : b.op = oNone) (he : e.op ≠ oNone) (hd : depthN (.mk oRule text [e, b]) ≤ 60) :
    ShowOk e ∧ okN (bareS e) ∧ ∃ (text' : Bytes) (e' b' : NTree), parseS (showS e ++ [10]) = some [.mk oRule text' [e', b']] ∧ bareS e' = bareS e := by
  obtain ⟨ts, t, hlex, hn, hp'⟩ := parse_some hp
  obtain ⟨hT, hW⟩ := lexS_ok hlex
  obtain ⟨hT2, hW2⟩ := tail_ends hT
  obtain ⟨hok, hfine, _⟩ := (parse_items hp).1 _ (List.mem_singleton.2 rfl)
  have hsh : Sh true e ∧ sl e ≤ wts ts := by
    unfold tokensS at hp'
    generalize 10 * ts.length + 20 = n at hp'
    cases n with
    | zero => rw [itemsL] at hp'; cases hp'
    | succ n =>
      by_cases hne : endsS ts = []
      · rw [itemsL, if_pos hne] at hp'; cases hp'
      · obtain ⟨x, us, hi, hf, h⟩ := items_step hne hp'
        have hA := (items_le n _ _ _ t h).2 rfl
        have hx : x.1 = .mk oRule text [e, b] := by
          simp only [List.nil_append, List.cons.injEq] at hA
          exact hA.1.symm
        obtain ⟨x1, x2⟩ := x
        simp only at hx
        subst hx
        obtain ⟨u, hu⟩ := item_expr hi he
        obtain ⟨g1, g2, g3⟩ := (SO_all (n + 1)).expr 1 false _ hT2 e u hu
        exact ⟨g1, by omega⟩
  have hdep : depthN e ≤ 59 := by
    rw [depthN, depthNs] at hd; omega
  obtain ⟨_, hk⟩ := fine_kids hfine
  obtain ⟨w', hfe⟩ := hk e (by simp)
  obtain ⟨hsf, hrf⟩ := rg_fine hsh.1 _ w' hfe
  have hrd := rg_depth hsf
  have hoe : okN e := by
    have := (okN_kids hok).2
    have : okNs [e, b] := this
    rw [okNs] at this
    exact this.1
  refine ⟨show_ok hsf (by omega), okN_bare e hoe, [], rg e, noneN, show_parse hsf (by omega) ?_, rg_bare hsf⟩
  refine fine_mk (eq_false (by decide)) (by decide) (fun x hx w => ?_) _
  simp only [List.mem_cons, List.not_mem_nil, or_false] at hx
  rcases hx with rfl | rfl
  · exact hrf 2 (by omega) w
  · exact fine_mk (eq_false (by decide)) (by decide) (by simp) w
end Go.AD.Lx
namespace Go.AD.Lx
open Go.Proofs RowKit
theorem shownLaw : ShownLaw := fun s text e b hs hp hb he hd => shown_law s text e b hs hp hb he hd
def envR6 : Env := (envQ.add 20 (T_zShow 300)).add 22 (T_zBare 300)
theorem envR6_ok (hm : HM) : EnvOk PS envR6 := EnvOk.add (EnvOk.add (envQ_ok hm) (F_zShow hm 300)) (F_zBare hm 300)
theorem F_SyntaxShown (hm : HM) : SoundF PS 6 T_lawY1 := body_sound hm (envR6_ok hm) an6 Tryd.func6 Tryd.call6 S6_ok (fun args σ K X h => T_SyntaxShown_ok shownLaw rfl rfl rfl rfl rfl rfl h)
end Go.AD.Lx
