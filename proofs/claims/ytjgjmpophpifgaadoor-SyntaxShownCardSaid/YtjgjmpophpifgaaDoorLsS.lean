import Derived.Test.YtjgjmpophpifgaaDoorLsR
import Derived.Test.YtjgjmpophpifgaaDoorLj
import Derived.Test.YtjgjmpophpifgaaDoorG12
import Derived.Test.YtjgjmpophpifgaaDoorRows
/- syntax: what items are; what the laws call; the variable that the rows list. -/
set_option linter.unusedVariables false
set_option linter.unusedSimpArgs false
set_option maxRecDepth 100000
namespace Go.AD.Lx
theorem okL_some {α : Type} {m : R α} {a : α} (h : okL m = some a) : ∃ t, m = .ok a t := by
  cases m with
  | out => cases h
  | wrong => cases h
  | ok b t => cases h; exact ⟨t, rfl⟩
theorem parse_some {s : Bytes} {A : List NTree} (h : parseS s = some A) : ∃ ts t, lexS s = some ts ∧ ts.length ≤ 20000 ∧ tokensS (10 * ts.length + 20) ts = .ok A t := by
  unfold parseS at h
  split at h
  · cases h
  · rename_i ts hl
    obtain ⟨t, ht⟩ := okL_some h
    exact ⟨ts, t, hl, lexLen hl, ht⟩
/-! ### what items are -/
theorem bnd_ok {α β : Type} {m : R α} {k : α → List Tok → R β} {b : β} {t : List Tok} (h : bnd m k = .ok b t) : ∃ a r, m = .ok a r ∧ k a r = .ok b t := by
  cases m with
  | out => cases h
  | wrong => cases h
  | ok a r => exact ⟨a, r, rfl, h⟩
theorem item_rule {r : Rec} {ts t : List Tok} {x : NTree × Bool} (h : itemS r ts = .ok x t) : x.1.op = oRule → x.1.kids.length = 2 := by
  unfold itemS at h
  split at h
  · obtain ⟨a, r1, _, h⟩ := bnd_ok h; cases h; exact fun e => absurd e (by show ¬ oBegin = oRule; decide)
  split at h
  · obtain ⟨a, r1, _, h⟩ := bnd_ok h; cases h; exact fun e => absurd e (by show ¬ oEnd = oRule; decide)
  split at h
  · obtain ⟨a, r1, h1, h⟩ := bnd_ok h
    cases h
    unfold functionS at h1
    obtain ⟨_, _, _, h1⟩ := bnd_ok h1
    obtain ⟨_, _, _, h1⟩ := bnd_ok h1
    obtain ⟨_, _, _, h1⟩ := bnd_ok h1
    obtain ⟨_, _, _, h1⟩ := bnd_ok h1
    cases h1
    exact fun e => absurd e (by show ¬ kFunc = oRule; decide)
  split at h
  · obtain ⟨a, r1, _, h⟩ := bnd_ok h; cases h; exact fun _ => rfl
  obtain ⟨a, r1, _, h⟩ := bnd_ok h
  split at h
  · obtain ⟨_, _, _, h⟩ := bnd_ok h
    obtain ⟨_, _, _, h⟩ := bnd_ok h
    cases h
    exact fun e => absurd e (by show ¬ oRange = oRule; decide)
  · obtain ⟨_, _, _, h⟩ := bnd_ok h
    cases h
    exact fun _ => rfl
def ItemOk (x : NTree) : Prop := okN x ∧ fineS x 1 (whereOf x) = true ∧ (x.op = oRule → x.kids.length = 2)
theorem items_step {n f : Nat} {l : List NTree} {ts : List Tok} {A : List NTree} {t : List Tok} (hne : ts ≠ []) (h : itemsL (recN n) (f + 1) l ts = .ok A t) : ∃ x us, itemS (recN n) ts = .ok x us ∧ fineS x.1 1 (whereOf x.1) = true ∧ itemsL (recN n) f (l ++ [x.1]) (endsS us) = .ok A t := by
  rw [itemsL, if_neg hne] at h
  obtain ⟨x, us, hi, h⟩ := bnd_ok h
  split at h
  · rename_i hf
    split at h
    · exact ⟨x, us, hi, hf, h⟩
    · cases h
  · cases h
theorem items_all {n : Nat} : ∀ (f : Nat) (l : List NTree) (ts : List Tok) (A : List NTree) (t : List Tok), ts.length ≤ 70000 → itemsL (recN n) f l ts = .ok A t → (∀ x ∈ l, ItemOk x) → (∀ x ∈ A, ItemOk x) ∧ l.length ≤ A.length ∧ (ts ≠ [] → l.length < A.length) ∧ (ts = [] → A = l)
  | 0, l, ts, A, t, _, h, _ => by rw [itemsL] at h; cases h
  | f + 1, l, ts, A, t, hl, h, hx => by
    by_cases hne : ts = []
    · rw [itemsL, if_pos hne] at h
      cases h
      exact ⟨hx, Nat.le_refl _, fun h => absurd hne h, fun _ => rfl⟩
    · obtain ⟨x, us, hi, hf, h⟩ := items_step hne h
      have hQ := Q_item (FR_all n) ts hl
      rw [hi] at hQ
      obtain ⟨hok, hlt⟩ : okN x.1 ∧ us.length < ts.length := hQ
      have hel := ends_len us
      obtain ⟨h1, h2, _, _⟩ := items_all f _ (endsS us) A t (by omega) h (by
        intro y hy
        rcases List.mem_append.1 hy with hy | hy
        · exact hx y hy
        · rw [List.mem_singleton.1 hy]; exact ⟨hok, hf, item_rule hi⟩)
      rw [List.length_append, List.length_singleton] at h2
      exact ⟨h1, by omega, fun _ => by omega, fun e => absurd e hne⟩
theorem parse_items {s : Bytes} {A : List NTree} (h : parseS s = some A) : (∀ x ∈ A, ItemOk x) ∧ A.length ≤ 70000 := by
  obtain ⟨ts, t, _, hn, hp⟩ := parse_some h
  have hel := ends_len ts
  refine ⟨(items_all _ _ _ _ _ (by omega) hp (by simp)).1, ?_⟩
  have := Q_itemsL (FR_all (10 * ts.length + 20)) (10 * ts.length + 20) [] (endsS ts) (by simp; omega)
  unfold tokensS at hp
  rw [hp] at this
  exact this
/-! ### depth -/
mutual
def depthN : NTree → Nat
  | .mk _ _ kids => depthNs kids + 1
def depthNs : List NTree → Nat
  | [] => 0
  | n :: l => max (depthN n) (depthNs l)
end
mutual
theorem fine_depth : ∀ (n : NTree) (d : Nat) (w : WhereS), fineS n d w = true → d + depthN n ≤ 201
  | .mk op text kids, d, w, h => by
    rw [fineS] at h
    split at h
    · cases h
    · rename_i hc
      rw [depthN]
      have hd : d ≤ 200 := by rcases Nat.lt_or_ge 200 d with h | h
                              · exact absurd (.inl h) hc
                              · exact h
      have := fines_depth kids _ _ d w hd h
      omega
theorem fines_depth : ∀ (l : List NTree) (i : Nat) (lp : Int) (d : Nat) (w : WhereS), d ≤ 200 → finesS l i lp d w = true → d + 1 + depthNs l ≤ 201
  | [], i, lp, d, w, hd, h => by rw [depthNs]; omega
  | n :: l, i, lp, d, w, hd, h => by
    rw [finesS] at h
    split at h
    · rename_i h1
      have := fine_depth n _ _ h1
      have := fines_depth l _ _ d w hd h
      rw [depthNs]; omega
    · cases h
end
mutual
theorem fine_deeper : ∀ (n : NTree) (d : Nat) (w : WhereS), fineS n d w = true → d + depthN n ≤ 200 → fineS n (d + 1) w = true
  | .mk op text kids, d, w, h, hd => by
    rw [fineS] at h ⊢
    rw [depthN] at hd
    split at h
    · cases h
    · rename_i hc
      rw [if_neg (fun hh => hh.elim (fun hh => by omega) (fun hh => hc (.inr hh)))]
      exact fines_deeper kids _ _ d w h (by omega)
theorem fines_deeper : ∀ (l : List NTree) (i : Nat) (lp : Int) (d : Nat) (w : WhereS), finesS l i lp d w = true → d + 1 + depthNs l ≤ 200 → finesS l i lp (d + 1) w = true
  | [], i, lp, d, w, h, hd => by rw [finesS]
  | n :: l, i, lp, d, w, h, hd => by
    rw [finesS] at h ⊢
    rw [depthNs] at hd
    split at h
    · rename_i h1
      rw [if_pos (fine_deeper n _ _ h1 (by omega))]
      exact fines_deeper l _ _ d w h (by omega)
    · cases h
end
end Go.AD.Lx

/- syntax: what the laws call: awake. -/
set_option linter.unusedVariables false
set_option linter.unusedSimpArgs false
set_option maxRecDepth 100000
namespace Go.AD.Lx
open Go.Proofs RowKit
def awText : Bytes := [36, 49, 32, 62, 32, 50, 32, 123, 32, 112, 114, 105, 110, 116, 32, 45, 50, 94, 50, 32, 125]
def awTree : NTree := .mk oRule [] [.mk oBin [62] [.mk oField [] [.mk kNum [49] []], .mk kNum [50] []], .mk oBlock [] [.mk oPrint [] [.mk oUnary [45] [.mk oBin [94] [.mk kNum [50] [], .mk kNum [50] []]]]]]
theorem aw_lex : lexS awText = some [opT [36], (kNum, [49]), opT [62], (kNum, [50]), opT [123], wordT oPrint, opT [45], (kNum, [50]), opT [94], (kNum, [50]), opT [125]] := by decide +kernel
theorem aw_lex2 : lexS [123, 32, 110, 101, 120, 116, 59, 32, 125, 32, 125] = some [opT [123], wordT oNext, opT [59], opT [125], opT [125]] := by decide +kernel
theorem aw_parse : parseS awText = some [awTree] := by
  unfold parseS
  rw [aw_lex]
  kernel_rfl
theorem aw_parse2 : parseS [123, 32, 110, 101, 120, 116, 59, 32, 125, 32, 125] = none := by
  unfold parseS
  rw [aw_lex2]
  kernel_rfl
section
variable {env : Env} {args : List AV} {σ0 σ τ : AS} {K : AV → AS → Prop} {X : PV → AS → Prop} {l : Nat} {ts : List Tok} {L Y M : Objs}
theorem nc (a : List NTree) {i : Nat} (h : i < a.length) (k : Nat) (hk : k < 3) : (flatN a)[i * 3 + k]? = (nodeCells a[i])[k]? := by
  have e := flatN_get a i h
  rw [← e, List.getElem?_take, if_pos hk, List.getElem?_drop]
theorem nc0 {a : List NTree} {i : Nat} (h : i < a.length) : (flatN a)[i * 3]? = some (.str a[i].op) := by
  have := nc a h 0 (by decide)
  rw [nodeCells_eq] at this
  exact this
theorem nc1 {a : List NTree} {i : Nat} (h : i < a.length) : (flatN a)[i * 3 + 1]? = some (.str a[i].text) := by
  have := nc a h 1 (by decide)
  rw [nodeCells_eq] at this
  exact this
theorem nc2 {a : List NTree} {i : Nat} (h : i < a.length) : (flatN a)[i * 3 + 2]? = some (.lst a[i].kids.length (flatN a[i].kids)) := by
  have := nc a h 2 (by decide)
  rw [nodeCells_eq] at this
  exact this
theorem parse_call (h : env 18 = T_yParse) {s : Bytes} (hK : ∀ σ', σ.sub σ' → K (parseNV (parseS s)) σ') : env 18 [.pv (.str s)] σ K X := by
  rw [h]; exact ⟨s, rfl, hK⟩
def T_awake6 : Tr := fun args σ K _ => args = [] ∧ ∀ σ', σ.sub σ' → K (.pv (.bool true)) σ'
theorem T_awake6_ok (h1 : env 18 = T_yParse) (h : T_awake6 args σ K X) : bodyD PS env an17 Tryd.f17 args σ K X := by
  obtain ⟨rfl, hK⟩ := h
  rw [← S17_eq env, S17]
  simp only [lock_eq]
  refine parse_call h1 fun σ1 hs1 => ?_
  have e1 : parseS [36, 49, 32, 62, 32, 50, 32, 123, 32, 112, 114, 105, 110, 116, 32, 45, 50, 94, 50, 32, 125] = some [awTree] := aw_parse
  rw [e1]
  simp only [parseNV, ext_tuple, List.getElem?_cons_zero, List.getElem?_cons_succ, someEx]
  refine parse_call h1 fun σ2 hs2 => ?_
  rw [aw_parse2]
  simp only [parseNV, ext_tuple, List.getElem?_cons_zero, List.getElem?_cons_succ, someEx, guard_true, un_not, Bool.not_false, if_true, T.lnl35, bin_eql]
  have x0 : ∀ K : AV → Prop, indexAddrD PS 35 (.pv (.lst [awTree].length (flatN [awTree]))) (.pv (.int .i64 0)) K = K (.elemP (flatN [awTree]) 0) := fun K => node_ix (a := [awTree]) (i := 0) (by decide)
  have y0 : ∀ K : AV → Prop, indexAddrD PS 35 (.pv (.lst awTree.kids.length (flatN awTree.kids))) (.pv (.int .i64 0)) K = K (.elemP (flatN awTree.kids) 0) := fun K => node_ix (a := awTree.kids) (i := 0) (by decide)
  have c0 : (flatN [awTree])[0]? = some (.str oRule) := nc0 (a := [awTree]) (i := 0) (by decide)
  have c2 : (flatN [awTree])[0 + 2]? = some (.lst awTree.kids.length (flatN awTree.kids)) := nc2 (a := [awTree]) (i := 0) (by decide)
  have d1 : (flatN awTree.kids)[0 + 1]? = some (.str [62]) := nc1 (a := awTree.kids) (i := 0) (by decide)
  have hl : awTree.kids.length = 2 := rfl
  simp only [x0, y0, T.fe39_0, T.fe39_1, T.fe39_2, T.le9, T.le35, Nat.add_zero, c0, c2, d1, someEx, T.lnl35, bin_eql, bin_seql, guard_true]
  rw [if_pos (by decide), if_pos (by decide), if_pos (by rw [hl]; decide)]
  exact retV_self (hK _ (AS.sub_trans hs1 hs2))
/-! ### equal rows -/
def T_zSame (m : Nat) : Tr := fun args σ K _ => ∃ a : List NTree, args = [.pv (.lst a.length (flatN a)), .pv (.lst a.length (flatN a))] ∧ depthNs a < m ∧ a.length ≤ 1000000 ∧ okNs a ∧ ∀ σ', σ.sub σ' → K (.pv (.bool true)) σ'
theorem depthNs_mem : ∀ {l : List NTree} {i : Nat} (h : i < l.length), depthN l[i] ≤ depthNs l
  | n :: l, 0, _ => by rw [depthNs]; exact Nat.le_max_left ..
  | n :: l, i + 1, h => by rw [depthNs]; exact Nat.le_trans (depthNs_mem (l := l) (i := i) (by simpa using h)) (Nat.le_max_right ..)
theorem depthN_kids (n : NTree) : depthN n = depthNs n.kids + 1 := by cases n; rw [depthN]; rfl
theorem T_zSame_ok {m : Nat} (h1 : env 21 = T_zSame m) (h : T_zSame (m + 1) args σ K X) : bodyD PS env an21 Tryd.f21 args σ K X := by
  obtain ⟨a, rfl, hd, hl, hok, hK⟩ := h
  rw [← S21_eq env, S21]
  simp (disch := omega) only [lock_eq, T.lnl35, bin_neq, bne_self_eq_false, cond_bool, Bool.false_eq_true, if_false]
  refine lp21_4 (fun (i : Nat) _ => a.length - i) (fun i τ => σ.sub τ ∧ i ≤ a.length) (fun i => .pv (.int .i64 (i : Nat))) 0 ⟨sub_refl _, Nat.zero_le _⟩ ?_
  rintro i τ ⟨hs, hi⟩
  unfold L21_4
  simp (disch := omega) only [lock_eq, T.lnl35, go_sem]
  refine iteI (fun g => ?_) (fun g => ?_)
  · have hkk := okN_kids (okNs_mem hok i g)
    have hdd : depthNs a[i].kids < m := by
      have := depthNs_mem g
      rw [depthN_kids] at this
      omega
    simp only [node_ix g, T.fe39_0, T.fe39_1, T.fe39_2, T.le9, T.le35, Nat.add_zero, nc0 g, nc1 g, nc2 g, someEx, bin_sneq, bne_self_eq_false, beq_self_eq_true, Bool.not_true, guard_false, Bool.false_eq_true, if_false]
    rw [h1]
    refine ⟨a[i].kids, rfl, hdd, hkk.1, hkk.2, fun σ2 hs2 => ?_⟩
    simp (disch := omega) only [un_not, Bool.not_true, cond_bool, Bool.false_eq_true, if_false, bin_add, nAdd1, wrap64]
    exact back (i + 1) rfl (by omega) ⟨AS.sub_trans hs hs2, g⟩
  · exact retV_self (hK _ hs)
theorem F_zSame (hm : HM) : ∀ m : Nat, SoundF PS 21 (T_zSame m)
  | 0 => by
    rintro w0 hS ρ σ w args us K X H hr ⟨a, _, h, _⟩
    exact absurd h (Nat.not_lt_zero _)
  | m + 1 => body_sound hm (EnvOk.add (env0_ok PS) (F_zSame hm m)) an21 Tryd.func21 Tryd.call21 S21_ok (fun args σ K X h => T_zSame_ok rfl h)
def T_zSameA : Tr := fun args σ K X => ∃ m, T_zSame m args σ K X
theorem F_zSameA (hm : HM) : SoundF PS 21 T_zSameA := fun w0 hS ρ σ w args us K X H hr ⟨m, h⟩ => F_zSame hm m w0 hS ρ σ w args us K X H hr h
/-! ### depth -/
def T_depth6 (m : Nat) : Tr := fun args σ K _ => ∃ n : NTree, args = [nodeAV n] ∧ depthN n < m ∧ depthN n ≤ 1000 ∧ okN n ∧ ∀ σ', σ.sub σ' → K (.pv (.int .i64 (depthN n : Nat))) σ'
theorem T_depth6_ok {m : Nat} (h1 : env 19 = T_depth6 m) (h : T_depth6 (m + 1) args σ K X) : bodyD PS env an19 Tryd.f19 args σ K X := by
  obtain ⟨n, rfl, hd, hd2, hok, hK⟩ := h
  rw [← S19_eq env, S19]
  simp only [lock_eq]
  refine box_N ?_
  intro t σ1 hS
  have hg := hS.get (i := t) (List.mem_singleton.2 rfl)
  have hkk := okN_kids hok
  have hlen := hkk.1
  rw [depthN_kids] at hd hd2 hK
  simp (disch := omega) only [T.fa39_2, T.ld35, hg, ldM_cells, Nat.zero_add, List.getElem?_cons_zero, List.getElem?_cons_succ, someEx, T.lnl35]
  refine lp19_3 (fun (a : Nat × Nat) _ => n.kids.length - a.1) (fun a τ => σ.sub τ ∧ a.1 ≤ n.kids.length ∧ max a.2 (depthNs (n.kids.drop a.1)) = depthNs n.kids) (fun a => .pv (.int .i64 (a.2 : Nat))) (fun a => .pv (.int .i64 (a.1 : Nat))) (0, 0) ⟨hS.sub, Nat.zero_le _, by simp⟩ ?_
  rintro ⟨i, d⟩ τ ⟨hs, hi, hm⟩
  unfold L19_3
  simp (disch := omega) only [lock_eq, go_sem]
  simp only at hi hm
  refine iteI (fun g => ?_) (fun g => ?_)
  · have hld : ∀ σ K, loadD PS σ 39 (.elemP (flatN n.kids) (i * 3)) K = K (nodeAV n.kids[i]) := by
      intro σ K
      rw [load_elemA T.hT39 T.ag39, T.sz39, flatN_get n.kids i g]
      exact propext ⟨fun h => h.2, fun h => ⟨by rw [flatN_len]; omega, h⟩⟩
    have hdd := depthNs_mem g
    rw [List.drop_eq_getElem_cons g, depthNs] at hm
    simp only [node_ix g, hld]
    refine var_N (Sep.start τ) (fun t8 σ3 hS3 => ?_)
    have hg8 := hS3.get (i := t8) (List.mem_cons.2 (.inl rfl))
    rw [ldN' hg8, h1]
    refine ⟨n.kids[i], rfl, by omega, by omega, okNs_mem hkk.2 i g, fun σ4 hs4 => ?_⟩
    have ef : ∀ K : AV → Prop, (foldD max2D) (.pv (.int .i64 (d : Nat))) [.pv (.int .i64 (depthN n.kids[i] : Nat))] K = K (.pv (.int .i64 (max d (depthN n.kids[i]) : Nat))) := by
      intro K
      have : (if ((depthN n.kids[i] : Nat) : Int) > (d : Nat) then ((depthN n.kids[i] : Nat) : Int) else ((d : Nat) : Int)) = ((max d (depthN n.kids[i]) : Nat) : Int) := by split <;> omega
      simp only [foldD, max2D, this]
    simp (disch := omega) only [ef, bin_add, nAdd1, wrap64]
    exact back (i + 1, max d (depthN n.kids[i])) rfl (by simp only; omega) ⟨AS.sub_trans hs (AS.sub_trans hS3.sub hs4), g, by simp only; omega⟩
  · have e : i = n.kids.length := by omega
    subst e
    rw [List.drop_length, depthNs] at hm
    have hd3 : d = depthNs n.kids := by omega
    subst hd3
    exact retV_self (hK _ hs)
theorem F_depth6 (hm : HM) : ∀ m : Nat, SoundF PS 19 (T_depth6 m)
  | 0 => by
    rintro w0 hS ρ σ w args us K X H hr ⟨a, _, h, _⟩
    exact absurd h (Nat.not_lt_zero _)
  | m + 1 => body_sound hm (EnvOk.add (env0_ok PS) (F_depth6 hm m)) an19 Tryd.func19 Tryd.call19 S19_ok (fun args σ K X h => T_depth6_ok rfl h)
/-! ### the laws' -/
def envP : Env := env0.add 18 T_yParse
theorem envP_ok (hm : HM) : EnvOk PS envP := EnvOk.add (env0_ok PS) (F_yParse hm)
theorem F_awake6 (hm : HM) : SoundF PS 17 T_awake6 := body_sound hm (envP_ok hm) an17 Tryd.func17 Tryd.call17 S17_ok (fun args σ K X h => T_awake6_ok rfl h)
def envQ : Env := ((envP.add 17 T_awake6).add 21 (Tr.wk T_zSameA)).add 19 (T_depth6 300)
theorem envQ_ok (hm : HM) : EnvOk PS envQ := EnvOk.add (EnvOk.add (EnvOk.add (envP_ok hm) (F_awake6 hm)) (F_zSameA hm).wk) (F_depth6 hm 300)
theorem awake_call (h : env 17 = T_awake6) (hK : ∀ σ', σ.sub σ' → K (.pv (.bool true)) σ') : env 17 [] σ K X := by
  rw [h]; exact ⟨rfl, hK⟩
theorem same6_call (h : env 21 = Tr.wk T_zSameA) {v v' : AV} {a : List NTree} (hv : toPV v = some (.lst a.length (flatN a))) (hv' : toPV v' = some (.lst a.length (flatN a))) (hl : a.length ≤ 1000000) (hok : okNs a) (hK : ∀ σ', σ.sub σ' → K (.pv (.bool true)) σ') : env 21 [v, v'] σ K X := by
  rw [h]
  exact ⟨[.pv (.lst a.length (flatN a)), .pv (.lst a.length (flatN a))], ⟨.inr ⟨_, hv, rfl⟩, .inr ⟨_, hv', rfl⟩, trivial⟩, depthNs a + 1, a, rfl, Nat.lt_succ_self _, hl, hok, hK⟩
/-- A row that may grow, with others put behind it. -/
theorem appF {v x : AV} {a r : List NTree} (G : RowFN v M a) (h : Sep σ0 σ (Y ++ M)) (hx : x = .pv (.lst r.length (flatN r))) (hb : a.length + r.length ≤ 1000000)
    (hK : ∀ v' M' σ', RowFN v' M' (a ++ r) → Sep σ0 σ' (Y ++ M') → K v' σ') : appendD PS false σ 35 v x K := by
  subst hx
  obtain ⟨q1, q2, z, q3, q4⟩ := rowTN
  have hs : shown PS σ 39 (.pv (.lst r.length (flatN r))) = some (r.length, flatN r) := rfl
  have hlr : (flatN r).length = r.length * szOf PS 39 := by rw [flatN_len, T.sz39]
  rcases Nat.eq_zero_or_pos r.length with h0 | h0
  · have e : r = [] := List.eq_nil_of_length_eq_zero h0
    subst e
    rw [List.append_nil] at hK
    have hc : appendCore PS false σ 39 0 (flatN []) v K := by
      rcases G with G | ⟨rfl, rfl⟩
      · rcases G.2 with ⟨rfl, rfl, g3, g4⟩ | ⟨id, mk, rfl, rfl⟩
        · simp only [appendCore, if_true]; exact hK _ _ _ (.inl G) h
        · simp only [appendCore, if_true]; exact hK _ _ _ (.inl G) h
      · simp only [appendCore, if_true]; exact hK _ _ _ (.inr ⟨rfl, rfl⟩) h
    simp only [appendD, q1, q2, q3, q4, hs, true_and]
    exact ⟨hlr, hc⟩
  · have e1 : flatN (a ++ r) = flatN a ++ flatN r := flatN_app a r
    have hl : (a ++ r).length = a.length + r.length := List.length_append
    rcases G with G | ⟨rfl, rfl⟩
    · refine G.append h rowTN hs hlr h0 (by rw [T.by39]; omega) (by omega) ?_
      intro v' L' σ' g1 g2
      exact hK v' L' σ' (.inl (by rw [hl, e1]; exact g1)) g2
    · have hne : r.length ≠ 0 := by omega
      simp only [appendD, appendCore, q1, q2, q3, q4, hs, true_and, hne, if_false]
      refine ⟨hlr, by rw [flatN_len, T.sz39], by rw [T.by39]; omega, by omega, ?_⟩
      simp only [newRowD, Bool.false_eq_true, if_false, toPVs_pv]
      intro id hid
      have h5 := h.alloc hid (.front (a.length + r.length) (szOf PS 39) (some 39))
      refine hK _ [(id, .front (a.length + r.length) (szOf PS 39) (some 39))] _ (.inl ⟨?_, .inr ⟨id, some 39, ?_, ?_⟩⟩) ?_
      · rw [flatN_len, T.sz39]
      · rw [e1, hl]
      · rw [hl]
      · refine h5.perm ?_
        simpa using List.perm_append_comm (l₁ := [(id, AObj.front (a.length + r.length) (szOf PS 39) (some 39))]) (l₂ := Y)
theorem row0 {K : AV → AS → Prop} (hK : K (.full 0 (flatN [])) σ) : buildSliceD PS false σ 35 0 0 [] K := by
  have h : buildSliceD PS false σ 35 0 0 [] K = K (.full 0 (flatN [])) σ := by
    simp [buildSliceD, T.el35, T.sz39, T.zo39, T.hT39, elemsFill, toPVs, flatN]
  rw [h]; exact hK
end
end Go.AD.Lx

/- syntax: the laws walked. -/
set_option linter.unusedVariables false
set_option linter.unusedSimpArgs false
set_option maxRecDepth 100000
namespace Go.AD.Lx
open Go.Proofs RowKit
theorem noTailOf {s : Bytes} (h : s = [] ∨ ¬ (s.getD (s.length - 1) 0).toNat = 92) : NoTail s := by
  unfold NoTail
  rcases h with rfl | h
  · decide
  · intro e
    apply h
    have e2 : s.getLast? = s[s.length - 1]? := List.getLast?_eq_getElem?
    rw [e2] at e
    rw [List.getD_eq_getElem?_getD, e]
    rfl
section
variable {env : Env} {args : List AV} {σ0 σ τ : AS} {K : AV → AS → Prop} {X : PV → AS → Prop}
def T_lawY2 : Tr := fun args σ K _ => ∃ s t : Bytes, args = [.pv (.str s), .pv (.str t)] ∧ ∀ σ', K (.pv (.bool true)) σ'
def T_lawY1 : Tr := fun args σ K _ => ∃ s : Bytes, args = [.pv (.str s)] ∧ ∀ σ', K (.pv (.bool true)) σ'
end
end Go.AD.Lx

/- syntax: the variable that the rows list. -/
set_option linter.unusedVariables false
set_option linter.unusedSimpArgs false
set_option maxRecDepth 100000
namespace Go.AD.Lx
open Go.Proofs RowKit
theorem known_end {g : Nat} {cs : List PV} (h : Go.AD.known PS g = some cs) : g = 0 ∧ cs = [.str [], .str []] := by
  have hall : (List.range PS.globals.size).all (fun i => i == 0 || !((PS.globals[i]?.map (·.name)) == some "tedder/syntax.end")) = true := by kernel_rfl
  unfold Go.AD.known at h
  split at h
  case h_2 => cases h
  case h_1 x hx =>
    split at h
    · rename_i hn
      cases h
      refine ⟨?_, rfl⟩
      obtain ⟨hg, _⟩ := Array.getElem?_eq_some_iff.1 hx
      have := List.all_eq_true.1 hall g (List.mem_range.2 hg)
      rw [hx, Option.map_some, hn] at this
      simpa using this
    · cases h
theorem trod_str {W : World} {f t : Nat} {cs : List Value} {p : List MemPlace} (ht : PS.underlying t = some .string) (h : DataW.trod (fun _ => ()) PS W 0 (fun _ => true) false f t cs = some (.lit (.string []), p)) : cs = [.string ⟨#[]⟩] := by
  cases f with
  | zero => rw [DataW.trod] at h; cases h
  | succ f =>
    unfold DataW.trod at h
    rw [ht] at h
    dsimp only at h
    split at h <;> simp_all
    obtain ⟨_, h1, _⟩ := h
    rename_i b _ _
    obtain ⟨d⟩ := b
    exact congrArg ByteArray.mk h1
theorem two_of {α : Type} {l : List α} (h : l.length = 2) : ∃ a b, l = [a, b] := by
  match l, h with
  | [a, b], _ => exact ⟨a, b, rfl⟩
theorem ready_end {W : World} (hS : W.ShapedOpen PS) (hl : laidMet PS [("tedder/syntax.end", .agg [.lit (.string []), .lit (.string [])])] W) : Ready PS W := by
  obtain ⟨ps, ⟨g, t, cs, fuel, p, q, h1, h2, h3, h4, _⟩, _⟩ := hl
  have hg : PS.globalNamed "tedder/syntax.end" = some 0 := by kernel_rfl
  have ht : (PS.globals[0]?).map (·.type) = some 52 := by kernel_rfl
  have hg' : g = 0 := by rw [hg] at h1; exact (Option.some.inj h1).symm
  subst hg'
  rw [ht] at h2
  have ht' : t = 52 := (Option.some.inj h2).symm
  subst ht'
  have hheap : ∃ ty fz, W.heap[0]? = some (.cells cs ty fz) := by
    unfold World.var? at h3
    rw [hg, Option.bind_some] at h3
    split at h3
    · rename_i c ty fz hc
      cases h3
      exact ⟨ty, fz, hc⟩
    · cases h3
  obtain ⟨ty, fz, hheap⟩ := hheap
  have hcs : cs.toList = [.string ⟨#[]⟩, .string ⟨#[]⟩] := by
    cases fuel with
    | zero => rw [DataW.trod] at h4; cases h4
    | succ f =>
      have hu : ∃ fa fb, PS.underlying 52 = some (.struct #[fa, fb]) ∧ fa.type = 9 ∧ fb.type = 9 ∧ fa.offset = 0 ∧ fb.offset = 1 := ⟨_, _, Tryd.underlying52, rfl, rfl, by kernel_rfl, by kernel_rfl⟩
      obtain ⟨fa, fb, hu, t1, t2, o1, o2⟩ := hu
      have hc : PS.cellsOf 52 = 2 := by kernel_rfl
      have hc1 : PS.cellsOf 9 = 1 := by kernel_rfl
      unfold DataW.trod at h4
      rw [hu] at h4
      dsimp only at h4
      rw [hc] at h4
      by_cases hlen : cs.toList.length = 2
      · obtain ⟨a, b, hab⟩ := two_of hlen
        rw [if_pos hlen, hab] at h4
        simp only [List.mapM_cons, List.mapM_nil, t1, t2, o1, o2, hc1, List.drop_zero, List.drop_succ_cons, List.take_succ_cons, List.take_zero] at h4
        cases ha : DataW.trod (fun _ => ()) PS W 0 (fun _ => true) false f 9 [a] with
        | none => rw [ha] at h4; simp at h4
        | some x =>
          cases hb : DataW.trod (fun _ => ()) PS W 0 (fun _ => true) false f 9 [b] with
          | none => rw [ha, hb] at h4; simp at h4
          | some y =>
            rw [ha, hb] at h4
            simp at h4
            obtain ⟨x1, x2⟩ := x
            obtain ⟨y1, y2⟩ := y
            obtain ⟨⟨e1, e2⟩, _⟩ := h4
            simp only at e1 e2
            subst e1 e2
            have ka := trod_str Tryd.underlying9 ha
            have kb := trod_str Tryd.underlying9 hb
            simp only [List.cons.injEq, and_true] at ka kb
            rw [hab, ka, kb]
      · rw [if_neg hlen] at h4; cases h4
  refine ⟨hS, fun g' cs' hk => ?_⟩
  obtain ⟨rfl, rfl⟩ := known_end hk
  refine ⟨[.string ⟨#[]⟩, .string ⟨#[]⟩], rfl, fun i v hv => ?_, fun i hi => ?_⟩
  · unfold World.cell?
    simp only [hheap]
    rw [← hcs] at hv
    simpa using hv
  · match i, hi with
    | 0, _ => exact .str []
    | 1, _ => exact .str []
end Go.AD.Lx
