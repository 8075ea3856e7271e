/- The document's Cut: what it computes. -/
import Derived.Test.YtcaidbmopehjhaaA5
import Derived.Test.YtcaidbmopehjhaaA8
import Derived.Test.YtcaidbmopehjhaaG2
set_option linter.unusedVariables false
namespace Go.AD
/-- The document's rows, under way: each its own memory. -/
structure S2 (k oid : Nat) (σ τ : AS) (R : Nat → List (Nat × Nat × Nat)) (rows : List AV) : Prop where
  sub : σ.sub τ
  new : σ oid = none
  here : τ oid = some (.cells rows)
  len : rows.length = k
  row : ∀ j, j < k → ∃ v, rows[j]? = some v ∧ ((v = .nilS ∧ R j = []) ∨ ∃ g, v = .msl g 0 (R j).length 3 ∧ τ g = some (.cells ((flat3 (R j)).map .pv)) ∧ σ g = none ∧ g ≠ oid)
  apart : ∀ (j j' g n n' : Nat), j ≠ j' → rows[j]? = some (.msl g 0 n 3) → rows[j']? = some (.msl g 0 n' 3) → False
theorem S2.upd {k oid s g : Nat} {σ τ τ' : AS} {R R' : Nat → List (Nat × Nat × Nat)} {rows : List AV} {r' : List (Nat × Nat × Nat)} (h : S2 k oid σ τ R rows) (hs : s < k) (hg : τ' g = some (.cells ((flat3 r').map .pv))) (hgo : g ≠ oid) (hgs : σ g = none)
    (hoth : ∀ x, x ≠ g → (∀ n, rows[s]? ≠ some (.msl x 0 n 3)) → τ' x = τ x) (hgr : ∀ j n, j ≠ s → rows[j]? ≠ some (.msl g 0 n 3)) (hs' : R' s = r') (hR : ∀ j, j ≠ s → R' j = R j) :
    S2 k oid σ (τ'.set oid (.cells (rows.set s (.msl g 0 r'.length 3)))) R' (rows.set s (.msl g 0 r'.length 3)) := by
  have old : ∀ x n, rows[s]? = some (.msl x 0 n 3) → σ x = none := by
    intro x n hx
    obtain ⟨v, h1, h2⟩ := h.row s hs
    rw [hx] at h1
    cases h1
    rcases h2 with ⟨h2, _⟩ | ⟨g', h2, _, h3, _⟩
    · cases h2
    · cases h2; exact h3
  refine ⟨?_, h.new, set_same _ _ _, by rw [List.length_set]; exact h.len, ?_, ?_⟩
  · intro x o hx
    have h1 : x ≠ oid := by intro e; rw [e, h.new] at hx; cases hx
    have h2 : x ≠ g := by intro e; rw [e, hgs] at hx; cases hx
    rw [set_ne _ _ h1, hoth x h2 (fun n e => by rw [old x n e] at hx; cases hx)]
    exact h.sub x o hx
  · intro j hj
    by_cases e : j = s
    · subst e
      exact ⟨_, List.getElem?_set_self (by rw [h.len]; exact hs), .inr ⟨g, by rw [hs'], by rw [set_ne _ _ hgo, hs']; exact hg, hgs, hgo⟩⟩
    · obtain ⟨v, h1, h2⟩ := h.row j hj
      refine ⟨v, by rw [List.getElem?_set_ne (Ne.symm e)]; exact h1, ?_⟩
      rw [hR j e]
      rcases h2 with h2 | ⟨g', rfl, h3, h4, h5⟩
      · exact .inl h2
      · refine .inr ⟨g', rfl, ?_, h4, h5⟩
        rw [set_ne _ _ h5, hoth g' (fun e' => hgr j _ e (by rw [h1, e'])) (fun n e' => h.apart j s g' _ n e h1 e')]
        exact h3
  · intro j j' x n n' hne h1 h2
    by_cases e : j = s
    · subst e
      rw [List.getElem?_set_self (by rw [h.len]; exact hs)] at h1
      rw [List.getElem?_set_ne hne] at h2
      cases h1
      exact hgr j' _ (Ne.symm hne) h2
    · rw [List.getElem?_set_ne (Ne.symm e)] at h1
      by_cases e' : j' = s
      · subst e'
        rw [List.getElem?_set_self (by rw [h.len]; exact hs)] at h2
        cases h2
        exact hgr j _ e h1
      · rw [List.getElem?_set_ne (Ne.symm e')] at h2
        exact h.apart j j' x n n' hne h1 h2
theorem S2.start {k oid : Nat} {σ : AS} {R : Nat → List (Nat × Nat × Nat)} (h : σ oid = none) (hR : ∀ j, R j = []) : S2 k oid σ (σ.set oid (.cells (List.replicate k .nilS))) R (List.replicate k .nilS) where
  sub := sub_set _ h
  new := h
  here := set_same _ _ _
  len := List.length_replicate
  row := fun j hj => ⟨.nilS, by simp [hj], .inl ⟨rfl, hR j⟩⟩
  apart := by
    intro j j' g n n' _ h1 _
    have := List.mem_of_getElem? h1
    simp at this
theorem flat3_last (init : List (Nat × Nat × Nat)) (f a b b' : Nat) : ((flat3 (init ++ [(f, a, b)])).map AV.pv).set (init.length * 3 + 2) (.pv (.int .i64 b')) = (flat3 (init ++ [(f, a, b')])).map AV.pv := by
  rw [flat3_append, flat3_append, List.map_append, List.map_append, List.set_append_right _ _ (by rw [List.length_map, flat3_length]; omega)]
  rw [List.length_map, flat3_length, Nat.add_sub_cancel_left]
  rfl
theorem flat3_last_get (init : List (Nat × Nat × Nat)) (p : Nat × Nat × Nat) : ((flat3 (init ++ [p])).map AV.pv)[init.length * 3]? = some (.pv (.int .i64 p.1)) := by
  rw [flat3_append, List.map_append, List.getElem?_append_right (by rw [List.length_map, flat3_length]; omega), List.length_map, flat3_length, Nat.sub_self]
  rfl
/-- The store of a shard's row, and on. -/
theorem j1623 {l : List Int} {k oid s f r at_ : Nat} {τ : AS} {K : AV → AS → Prop} {X : PV → AS → Prop} {I12 I15 : Nat → List AV → AS → Prop} {m12 m15 : Nat} {vn w : AV} {rows : List AV} (hs : s < k) (hlen : rows.length = k) (hat : at_ ≤ 1000000) (hr : r ≤ 1000000) (ho : τ oid = some (.cells rows)) (hw : w.cells = [w]) (hw2 : w.cellOk = true)
    (hQ : ∃ m', m' < m15 ∧ I15 m' [.pv (.lst l.length (i64s l)), .pv (.int .i64 k), vn, .msl oid 0 k 1, .pv (.int .i64 (at_ + 1 : Nat)), .pv (.int .i64 s), .pv (.int .i64 f), .pv (.int .i64 (r + 1 : Nat))] (τ.set oid (.cells (rows.set s w)))) :
    J16_23 envB I12 m12 I15 m15 (.pv (.lst l.length (i64s l))) (.pv (.int .i64 k)) vn (.msl oid 0 k 1) (.pv (.int .i64 at_)) (.pv (.int .i64 s)) (.pv (.int .i64 f)) (.pv (.int .i64 r)) w τ K X := by
  unfold J16_23
  simp only [go_sem]
  refine ⟨by omega, ?_⟩
  refine store_one T.hT26 T.sz26 hw hw2 ho (by omega) ?_
  rw [wrap64 (by omega) (by omega), wrap64 (by omega) (by omega)]
  exact hQ
/-- One record. -/
theorem rec16 {l : List Int} {k oid s f r : Nat} {σ τ : AS} {K : AV → AS → Prop} {X : PV → AS → Prop} {I12 I15 : Nat → List AV → AS → Prop} {m12 m15 : Nat} {rows : List AV} (hl : ∀ c ∈ l, in64 c) (hn : sumN l ≤ 1000000) (hk : k ≤ 4096) (hk0 : 0 < k)
    (hS : S2 k oid σ τ (rAt l k (sumN (l.take f) + r)) rows) (hs : s < k) (hlo : lowS l k s ≤ sumN (l.take f) + r) (hhi : sumN (l.take f) + r < lowS l k (s + 1)) (hf : f < l.length) (hr : r < l[f].toNat)
    (hQ : ∀ τ' rows', S2 k oid σ τ' (rAt l k (sumN (l.take f) + r + 1)) rows' → ∃ m', m' < m15 ∧ I15 m' [.pv (.lst l.length (i64s l)), .pv (.int .i64 k), .pv (.int .i64 (sumN l)), .msl oid 0 k 1, .pv (.int .i64 (sumN (l.take f) + r + 1 : Nat)), .pv (.int .i64 s), .pv (.int .i64 f), .pv (.int .i64 (r + 1 : Nat))] τ') (hll : l.length ≤ 1000000)
    {v : AV} (hv : rows[s]? = some v) :
    (lenD PA 26 v fun t63 => binD PA .gtr 3 t63 (.pv (.int .i64 0)) fun t64 => guardD t64 true
      (lenD PA 26 v fun t68 => binD PA .sub 3 t68 (.pv (.int .i64 1)) fun t69 => indexAddrD PA 26 v t69 fun t70 => fieldAddrD PA 28 t70 0 fun t71 => loadD PA τ 3 t71 fun t72 => binD PA .eql 3 t72 (.pv (.int .i64 f)) fun t74 =>
        J16_21 envB I12 m12 I15 m15 (.pv (.lst l.length (i64s l))) (.pv (.int .i64 k)) (.pv (.int .i64 (sumN l))) (.msl oid 0 k 1) (.pv (.int .i64 (sumN (l.take f) + r : Nat))) (.pv (.int .i64 s)) (.pv (.int .i64 f)) (.pv (.int .i64 r)) v t74 τ K X)
      (J16_21 envB I12 m12 I15 m15 (.pv (.lst l.length (i64s l))) (.pv (.int .i64 k)) (.pv (.int .i64 (sumN l))) (.msl oid 0 k 1) (.pv (.int .i64 (sumN (l.take f) + r : Nat))) (.pv (.int .i64 s)) (.pv (.int .i64 f)) (.pv (.int .i64 r)) v (.pv (.bool false)) τ K X)) := by
  have hts := sumN_take_drop l f
  have hds := sumN_drop l f hf
  have hstep := rAt_step l k _ s f r hlo hhi hf hr rfl
  have hoth : ∀ j, j ≠ s → rAt l k (sumN (l.take f) + r + 1) j = rAt l k (sumN (l.take f) + r) j := fun j hj => rAt_other l k _ s j hlo hhi hj
  have hlen : (rAt l k (sumN (l.take f) + r) s).length ≤ sumN (l.take f) + r := by
    have := pieces_length l 0 (min (lowS l k s) (sumN (l.take f) + r)) (min (lowS l k (s + 1)) (sumN (l.take f) + r))
    unfold rAt
    omega
  obtain ⟨v', hv', hrow⟩ := hS.row s hs
  rw [hv] at hv'
  cases hv'
  have hone : ∀ (τ : AS) (a b c : Int), shown PA τ 28 (.full 1 [.int .i64 a, .int .i64 b, .int .i64 c]) = some (1, [.int .i64 a, .int .i64 b, .int .i64 c]) := fun _ _ _ _ => rfl
  have app : (∀ p ∈ rAt l k (sumN (l.take f) + r) s, p.1 < f) → rAt l k (sumN (l.take f) + r + 1) s = rAt l k (sumN (l.take f) + r) s ++ [(f, r, r + 1)] →
      J16_21 envB I12 m12 I15 m15 (.pv (.lst l.length (i64s l))) (.pv (.int .i64 k)) (.pv (.int .i64 (sumN l))) (.msl oid 0 k 1) (.pv (.int .i64 (sumN (l.take f) + r : Nat))) (.pv (.int .i64 s)) (.pv (.int .i64 f)) (.pv (.int .i64 r)) v (.pv (.bool false)) τ K X := by
    intro _ hnew
    unfold J16_21
    rw [cond_bool, if_neg (by simp), bin_add, wrap64 (by omega) (by omega)]
    simp only [build28, one28, sameT_self, true_and]
    rcases hrow with ⟨rfl, h1⟩ | ⟨g, rfl, h1, h2, h3⟩
    · refine app_nilM rowT26 (hone _ _ _ _) (by rw [T.sz28]; rfl) (by omega) (by rw [T.by28]; omega) (by omega) ?_
      intro g hg
      have hgo : g ≠ oid := by intro e; rw [e, hS.here] at hg; cases hg
      have hgs : σ g = none := by
        cases e : σ g with
        | none => rfl
        | some o => rw [hS.sub _ _ e] at hg; cases hg
      rw [h1] at hnew
      refine j1623 hs hS.len (by omega) (by omega) (by rw [set_ne _ _ (Ne.symm hgo)]; exact hS.here) rfl rfl ?_
      rw [T.sz28]
      refine hQ _ _ (hS.upd (r' := [(f, r, r + 1)]) hs (by rw [set_same]; rfl) hgo hgs (fun x hx _ => set_ne _ _ hx) ?_ hnew hoth)
      intro j n hj e
      by_cases hjk : j < k
      · obtain ⟨v, q1, q2⟩ := hS.row j hjk
        rw [e] at q1
        cases q1
        rcases q2 with ⟨q2, _⟩ | ⟨g', q2, q3, _⟩
        · cases q2
        · cases q2; rw [hg] at q3; cases q3
      · rw [List.getElem?_eq_none (by rw [hS.len]; omega)] at e; cases e
    · have hfl := flat3_length (rAt l k (sumN (l.take f) + r) s)
      refine app_msl rowT26 (hone _ _ _ _) (by rw [T.sz28]; rfl) h1 (by rw [T.sz28]) (by rw [T.sz28, List.length_map, flat3_length]; omega) (by rw [T.by28]; omega) (by omega) (by omega) ?_
      intro g2 hg2
      have hgo : g2 ≠ oid := by intro e; rw [e, hS.here] at hg2; cases hg2
      have hgs : σ g2 = none := by
        cases e : σ g2 with
        | none => rfl
        | some o => rw [hS.sub _ _ e] at hg2; cases hg2
      refine j1623 hs hS.len (by omega) (by omega) (by rw [set_ne _ _ (Ne.symm hgo), del_ne _ (Ne.symm h3)]; exact hS.here) rfl rfl ?_
      have hl2 : (rAt l k (sumN (l.take f) + r) s).length + 1 = (rAt l k (sumN (l.take f) + r) s ++ [(f, r, r + 1)]).length := by simp
      rw [hl2]
      refine hQ _ _ (hS.upd (r' := rAt l k (sumN (l.take f) + r) s ++ [(f, r, r + 1)]) hs ?_ hgo hgs ?_ ?_ hnew hoth)
      · rw [set_same, flat3_append, List.map_append, List.drop_zero]
        rfl
      · intro x hx hxs
        rw [set_ne _ _ hx, del_ne _ (fun e => hxs _ (by rw [hv, e]))]
      · intro j n hj e
        by_cases hjk : j < k
        · obtain ⟨v, q1, q2⟩ := hS.row j hjk
          rw [e] at q1
          cases q1
          rcases q2 with ⟨q2, _⟩ | ⟨g', q2, q3, _⟩
          · cases q2
          · cases q2; rw [hg2] at q3; cases q3
        · rw [List.getElem?_eq_none (by rw [hS.len]; omega)] at e; cases e
  rcases hrow with ⟨rfl, h1⟩ | ⟨g, rfl, h1, h2, h3⟩
  · rw [len_nil (by rw [T.el26]; rfl), bin_gtr, guard_true, if_neg (by simp)]
    rcases hstep with ⟨a, init, e1, _⟩ | ⟨e1, e2⟩
    · rw [h1] at e1; simp at e1
    · exact app e2 e1
  · rw [len_msl (by rw [T.el26]; rfl), bin_gtr, guard_true]
    split
    · rename_i hpos
      have hpos : 0 < (rAt l k (sumN (l.take f) + r) s).length := by simpa using hpos
      obtain ⟨init, p, hip⟩ : ∃ init p, rAt l k (sumN (l.take f) + r) s = init ++ [p] := ⟨_, _, (List.dropLast_concat_getLast (by intro e; rw [e] at hpos; simp at hpos)).symm⟩
      have hil : (rAt l k (sumN (l.take f) + r) s).length = init.length + 1 := by rw [hip]; simp
      rw [len_msl (by rw [T.el26]; rfl), bin_sub, wrap64 (by omega) (by omega)]
      have e3 : ((rAt l k (sumN (l.take f) + r) s).length : Int) - 1 = (init.length : Int) := by omega
      rw [e3]
      simp only [ix_msl, fa_addr, go_sem]
      refine ⟨by omega, ?_⟩
      rw [load_addr T.hT3 T.ag3 h1]
      refine ⟨.pv (.int .i64 p.1), by rw [hip]; exact flat3_last_get init p, ?_⟩
      rw [bin_eql]
      rcases hstep with ⟨a, init', e1, e2⟩ | ⟨e1, e2⟩
      · have hi : init = init' ∧ p = (f, a, r) := by
          rw [hip] at e1
          exact ⟨(List.append_inj' e1 rfl).1, by simpa using (List.append_inj' e1 rfl).2⟩
        obtain ⟨rfl, rfl⟩ := hi
        unfold J16_21
        rw [cond_bool, if_pos (by simp), len_msl (by rw [T.el26]; rfl), bin_sub, wrap64 (by omega) (by omega), e3, bin_add, wrap64 (by omega) (by omega)]
        simp only [ix_msl, fa_addr, go_sem]
        refine ⟨by omega, ?_⟩
        have hcl : ((flat3 (rAt l k (sumN (l.take f) + r) s)).map AV.pv).length = (init.length + 1) * 3 := by rw [List.length_map, flat3_length, hil]
        refine store_one T.hT3 T.sz3 rfl rfl h1 (by omega) ?_
        refine j1623 hs hS.len (by omega) (by omega) (by rw [set_ne _ _ (Ne.symm h3)]; exact hS.here) rfl rfl ?_
        have hl2 : (rAt l k (sumN (l.take f) + r) s).length = (init ++ [(f, a, r + 1)]).length := by rw [hil]; simp
        rw [hl2]
        refine hQ _ _ (hS.upd (r' := init ++ [(f, a, r + 1)]) hs ?_ h3 h2 (fun x hx _ => set_ne _ _ hx) ?_ e2 hoth)
        · rw [set_same, hip, show (r : Int) + 1 = ((r + 1 : Nat) : Int) by omega, flat3_last]
        · intro j n hj e
          exact hS.apart j s g _ _ hj e hv
      · have hpf : p.1 < f := e2 p (by rw [hip]; simp)
        have : ((p.1 : Int) == (f : Int)) = false := by simp; omega
        rw [this]
        exact app e2 e1
    · rename_i hpos
      have hpos : (rAt l k (sumN (l.take f) + r) s).length = 0 := by
        have : ¬ 0 < (rAt l k (sumN (l.take f) + r) s).length := by simpa using hpos
        omega
      have hnil := List.length_eq_zero_iff.1 hpos
      rcases hstep with ⟨a, init, e1, _⟩ | ⟨e1, e2⟩
      · rw [hnil] at e1; simp at e1
      · exact app e2 e1
def T16 : Tr := fun args σ K _ => ∃ (l : List Int) (k : Int), args = [.pv (.lst l.length (i64s l)), .pv (.int .i64 k)] ∧ (∀ c ∈ l, in64 c ∧ c ≤ 100) ∧ in64 k ∧ l.length ≤ 20 ∧
  if k < 1 ∨ k > 4096 then K .nilS σ else ∀ oid τ rows, S2 k.toNat oid σ τ (rowS l k.toNat) rows → K (.msl oid 0 k.toNat 1) τ
theorem sumN_small : ∀ (l : List Int), (∀ c ∈ l, c ≤ 100) → sumN l ≤ 100 * l.length
  | [], _ => by simp [sumN]
  | c :: l, h => by
    have h1 := sumN_small l (fun c hc => h c (by simp [hc]))
    have h2 := h c (by simp)
    simp only [sumN, List.length_cons]
    omega
theorem S2.congr {k oid : Nat} {σ τ : AS} {R R' : Nat → List (Nat × Nat × Nat)} {rows : List AV} (h : S2 k oid σ τ R rows) (e : ∀ j, j < k → R j = R' j) : S2 k oid σ τ R' rows :=
  ⟨h.sub, h.new, h.here, h.len, fun j hj => by rw [← e j hj]; exact h.row j hj, h.apart⟩
theorem in16 {l : List Int} {k oid : Nat} {σ τ : AS} {K : AV → AS → Prop} {X : PV → AS → Prop} {rows : List AV} (hl : ∀ c ∈ l, in64 c) (hll : l.length ≤ 20) (hn : sumN l ≤ 1000000) (hk : k ≤ 4096) (hk0 : 0 < k) (hS : S2 k oid σ τ (rAt l k 0) rows)
    (hK : ∀ oid τ rows, S2 k oid σ τ (rowS l k) rows → K (.msl oid 0 k 1) τ) :
    ∃ I12 : Nat → List AV → AS → Prop, (∃ m, I12 m [.pv (.lst l.length (i64s l)), .pv (.int .i64 k), .pv (.int .i64 (sumN l)), .msl oid 0 k 1, .pv (.int .i64 0), .pv (.int .i64 0), .pv (.int .i64 0)] τ) ∧
      ∀ (m12 : Nat) (a b c d e f g : AV), ∀ σ3, I12 m12 [a, b, c, d, e, f, g] σ3 → L16_12 envB I12 m12 a b c d e f g σ3 K X := by
  refine ⟨fun m vs τ => ∃ (f s : Nat) (rows : List AV), m + f = l.length ∧ S2 k oid σ τ (rAt l k (sumN (l.take f))) rows ∧ s < k ∧ lowS l k s ≤ sumN (l.take f) ∧
      vs = [.pv (.lst l.length (i64s l)), .pv (.int .i64 k), .pv (.int .i64 (sumN l)), .msl oid 0 k 1, .pv (.int .i64 (sumN (l.take f) : Nat)), .pv (.int .i64 s), .pv (.int .i64 f)],
    ⟨l.length, 0, 0, rows, by omega, by simpa [sumN] using hS, hk0, by simp [lowS], by simp [sumN]⟩, ?_⟩
  rintro m a b c d e f g τ1 ⟨f, s, rows, hm, hS, hs, hlo, hv⟩
  simp only [List.cons.injEq, and_true] at hv
  obtain ⟨rfl, rfl, rfl, rfl, rfl, rfl, rfl⟩ := hv
  unfold L16_12
  simp only [go_sem]
  split
  · rename_i hf
    have hf : f < l.length := by omega
    have hc : in64 l[f] := hl _ (List.getElem_mem hf)
    unfold in64 at hc
    have hts := sumN_take_drop l f
    have hds := sumN_drop l f hf
    have hst := sumN_take l f hf
    refine ⟨fun m2 vs τ => ∃ (r s : Nat) (rows : List AV), m2 + r = l[f].toNat ∧ S2 k oid σ τ (rAt l k (sumN (l.take f) + r)) rows ∧ s < k ∧ lowS l k s ≤ sumN (l.take f) + r ∧
        vs = [.pv (.lst l.length (i64s l)), .pv (.int .i64 k), .pv (.int .i64 (sumN l)), .msl oid 0 k 1, .pv (.int .i64 (sumN (l.take f) + r : Nat)), .pv (.int .i64 s), .pv (.int .i64 f), .pv (.int .i64 r)],
      ⟨l[f].toNat, 0, s, rows, by omega, hS, hs, by omega, by simp⟩, ?_⟩
    rintro m2 a b c d e f' g h τ2 ⟨r, s, rows, hm2, hS, hs, hlo, hv⟩
    simp only [List.cons.injEq, and_true] at hv
    obtain ⟨rfl, rfl, rfl, rfl, rfl, rfl, rfl, rfl⟩ := hv
    unfold L16_15
    simp only [go_sem]
    refine ⟨by omega, _, i64s_get l f hf, ?_⟩
    simp only [go_sem]
    split
    · rename_i hr
      have hr : r < l[f].toNat := by omega
      refine ⟨fun m3 vs τ => τ = τ2 ∧ ∃ (s : Nat), m3 + s = k ∧ s < k ∧ lowS l k s ≤ sumN (l.take f) + r ∧
          vs = [.pv (.lst l.length (i64s l)), .pv (.int .i64 k), .pv (.int .i64 (sumN l)), .msl oid 0 k 1, .pv (.int .i64 (sumN (l.take f) + r : Nat)), .pv (.int .i64 s), .pv (.int .i64 f), .pv (.int .i64 r)],
        ⟨k - s, rfl, s, by omega, hs, hlo, rfl⟩, ?_⟩
      rintro m3 a b c d e f' g h τ3 ⟨rfl, s, hm3, hs, hlo, hv⟩
      simp only [List.cons.injEq, and_true] at hv
      obtain ⟨rfl, rfl, rfl, rfl, rfl, rfl, rfl, rfl⟩ := hv
      unfold L16_17
      have hb : (s + 1) * sumN l ≤ 4096 * 1000000 := Nat.mul_le_mul (by omega) hn
      have htop := lowS_top l k (s + 1) (by omega)
      rw [bin_add, wrap64 (by omega) (by omega), show (s : Int) + 1 = ((s + 1 : Nat) : Int) by omega, bin_mul, show ((s + 1 : Nat) : Int) * (sumN l : Int) = (((s + 1) * sumN l : Nat) : Int) by simp, wrap64 (by omega) (by omega), bin_quo]
      refine ⟨by omega, ?_⟩
      rw [show (((s + 1) * sumN l : Nat) : Int).tdiv (k : Int) = (lowS l k (s + 1) : Int) by rfl, wrap64 (by omega) (by omega), bin_geq, cond_bool]
      split
      · rename_i h1
        have h1 : lowS l k (s + 1) ≤ sumN (l.take f) + r := by simp at h1; omega
        have hne : s + 1 < k := by
          rcases Nat.lt_or_ge (s + 1) k with h | h
          · exact h
          · have : s + 1 = k := by omega
            rw [this, lowS_full l k hk0] at h1
            omega
        rw [bin_add, wrap64 (by omega) (by omega)]
        exact ⟨m3 - 1, by omega, rfl, s + 1, by omega, hne, h1, by simp⟩
      · rename_i h1
        have h1 : sumN (l.take f) + r < lowS l k (s + 1) := by simp at h1; omega
        obtain ⟨v, hv, _⟩ := hS.row s hs
        refine row_at hS.here (by omega) (by omega) (by simpa using hv) ?_
        refine rec16 hl hn hk hk0 hS hs hlo h1 hf hr ?_ (by omega) hv
        intro τ' rows' hS'
        exact ⟨m2 - 1, by omega, r + 1, s, rows', by omega, hS', hs, by omega, by rw [Nat.add_assoc]⟩
    · rename_i hr
      have hr : r = l[f].toNat := by omega
      rw [wrap64 (by omega) (by omega)]
      rw [hr, ← hst] at hS hlo
      refine ⟨m - 1, by omega, f + 1, s, rows, by omega, hS, hs, hlo, ?_⟩
      rw [hr, ← hst]
      simp
  · rename_i hf
    have hf : f = l.length := by omega
    subst hf
    rw [List.take_length] at hS
    exact retV_self (hK _ _ _ (hS.congr fun j hj => rAt_full l k j hj))
theorem T16_ok (args : List AV) (σ : AS) (K : AV → AS → Prop) (X : PV → AS → Prop) (h : T16 args σ K X) : bodyD Go.Proofs.Try.prog envB an16 Go.Proofs.Try.f16 args σ K X := by
  obtain ⟨l, k, rfl, hl, hk, hll, h⟩ := h
  have hsum := sumN_small l (fun c hc => (hl c hc).2)
  rw [← S16_eq envB]
  unfold S16
  refine ⟨fun m vs τ => τ = σ ∧ ∃ (i : Nat), m + i = l.length ∧ vs = [.pv (.lst l.length (i64s l)), .pv (.int .i64 k), .pv (.int .i64 (sumN (l.take i))), .pv (.int .i64 i)], ⟨l.length, rfl, 0, by omega, by simp [sumN]⟩, ?_⟩
  rintro m a b c d τ ⟨rfl, i, hm, hv⟩
  simp only [List.cons.injEq, and_true] at hv
  obtain ⟨rfl, rfl, rfl, rfl⟩ := hv
  unfold L16_3
  rw [len_lst (by rw [T.el22]; rfl), bin_lss, cond_bool]
  split
  · rename_i hi
    have hi : i < l.length := by simp at hi; omega
    have hc := hl _ (List.getElem_mem hi)
    unfold in64 at hc
    have ht := sumN_take l i hi
    have htd := sumN_take_drop l i
    simp only [ix_lst, go_sem]
    refine ⟨by omega, _, i64s_get l i hi, ?_⟩
    simp only [go_sem]
    rw [wrap64 (by omega) (by omega), wrap64 (by omega) (by omega)]
    exact ⟨m - 1, by omega, i + 1, by omega, by simp; omega⟩
  · rename_i hi
    have hi : i = l.length := by simp at hi; omega
    subst hi
    rw [List.take_length, bin_lss, guard_false]
    split
    · rename_i h1
      rw [if_pos (.inl (by simpa using h1))] at h
      exact retV_self h
    · rename_i h1
      rw [bin_gtr, cond_bool]
      split
      · rename_i h2
        rw [if_pos (.inr (by simpa using h2))] at h
        exact retV_self h
      · rename_i h2
        have h1 : ¬ k < 1 := by simpa using h1
        have h2 : ¬ k > 4096 := by simpa using h2
        rw [if_neg (by omega)] at h
        obtain ⟨k, rfl⟩ : ∃ j : Nat, k = j := ⟨k.toNat, by omega⟩
        unfold J16_8
        refine make_mu T.el24 T.hT26 (by rw [T.sz26]; omega) T.zo26 (by rw [T.sz26]; rfl) rfl (by omega) (by omega) (by rw [T.by26]; omega) (by omega) ?_
        intro oid ho
        simp only [Int.toNat_natCast] at h ⊢
        rw [flatten_one]
        exact in16 (fun c hc => (hl c hc).1) hll (by omega) (by omega) (by omega) (S2.start ho (fun j => rAt_zero l k j)) h
theorem F16 (hm : Go.Proofs.Try.prog.follows .mixedOrders = true) : SoundF Go.Proofs.Try.prog 16 T16 := body_sound hm (envB_ok hm) an16 Go.Proofs.Try.func16 Go.Proofs.Try.call16 S16_ok T16_ok
def envC : Env := envB.add 16 (Tr.wk T16)
@[go_sem] theorem envC15 : envC 15 = Tr.wk T15 := rfl
@[go_sem] theorem envC14 : envC 14 = Tr.wk T14 := rfl
@[go_sem] theorem envC16 : envC 16 = Tr.wk T16 := rfl
theorem envC_ok (hm : Go.Proofs.Try.prog.follows .mixedOrders = true) : EnvOk Go.Proofs.Try.prog envC := (envB_ok hm).add (F16 hm).wk
end Go.AD
