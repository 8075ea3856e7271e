/- lex: the document's texts and expressions. -/
import Derived.Test.YtjgjmpophpifgaaLw1
set_option linter.unusedVariables false
set_option linter.unusedSimpArgs false
set_option maxRecDepth 100000
namespace Go.AD.Lx
open Go.Proofs
section
variable {env : Env} {args : List AV} {σ0 σ : AS} {K : AV → AS → Prop} {X : PV → AS → Prop}
def quV (s : Bytes) : Option (Bytes × Bytes) → AV
  | none => .tuple [.pv (.str []), .pv (.int .i64 0)]
  | some (t, r) => .tuple [.pv (.str t), .pv (.int .i64 (s.length - r.length : Nat))]
def T_rquote (q : UInt8) (e : Bytes → Bytes × Bytes) : Tr := fun args σ K _ => ∃ s : Bytes, args = [.pv (.str s)] ∧ s.length ≤ 90000 ∧ ∀ σ', σ.sub σ' → K (quV s (quotedS q e (s.length + 1) s [])) σ'
theorem bb1 {τ : AS} (c : UInt8) {z : Int} (hz : z = c.toNat) {K : AV → AS → Prop} : buildSliceD PS false τ 50 1 1 [(0, .pv (.int .u8 z))] K = K (.full 1 (pvBytes [c])) τ := by
  subst hz
  simp [buildSliceD, go_sem, elemsFill, AV.cells, AV.cellOk, toPVs, toPV, pvBytes]
theorem bb2 {τ : AS} (c d : UInt8) {y z : Int} (hy : y = c.toNat) (hz : z = d.toNat) {K : AV → AS → Prop} : buildSliceD PS false τ 50 2 2 [(0, .pv (.int .u8 y)), (1, .pv (.int .u8 z))] K = K (.full 2 (pvBytes [c, d])) τ := by
  subst hy hz
  simp [buildSliceD, go_sem, elemsFill, AV.cells, AV.cellOk, toPVs, toPV, pvBytes]
/-- Bytes behind a row of one's own. -/
theorem add1 {v : AV} {L : Objs} {l : Bytes} (G : RowF v L l) (hS : Sep σ0 σ ([] ++ L)) (c : UInt8) {z : Int} (hz : z = c.toNat) (hb : l.length ≤ 10000000) {K : AV → AS → Prop} (hK : ∀ v' L' σ', RowF v' L' (l ++ [c]) → Sep σ0 σ' ([] ++ L') → K v' σ') :
    buildSliceD PS false σ 50 1 1 [(0, .pv (.int .u8 z))] fun t τ => appendD PS false τ 50 v t K := by
  rw [bb1 c hz]
  exact G.append hS (r := [c]) (fun σ => rfl) (by simp) (by simp; omega) hK
theorem add2 {v : AV} {L : Objs} {l : Bytes} (G : RowF v L l) (hS : Sep σ0 σ ([] ++ L)) (c d : UInt8) {y z : Int} (hy : y = c.toNat) (hz : z = d.toNat) (hb : l.length ≤ 10000000) {K : AV → AS → Prop} (hK : ∀ v' L' σ', RowF v' L' (l ++ [c, d]) → Sep σ0 σ' ([] ++ L') → K v' σ') :
    buildSliceD PS false σ 50 2 2 [(0, .pv (.int .u8 y)), (1, .pv (.int .u8 z))] fun t τ => appendD PS false τ 50 v t K := by
  rw [bb2 c d hy hz]
  exact G.append hS (r := [c, d]) (fun σ => rfl) (by simp) (by simp; omega) hK
theorem drop_drop1 {s : Bytes} {i : Nat} : (s.drop i).drop 1 = s.drop (i + 1) := by rw [List.drop_drop]
theorem drop_ne {s : Bytes} {i : Nat} (h : i < s.length) : s.drop i ≠ [] := by
  intro e
  have := congrArg List.length e
  rw [List.length_drop] at this
  simp at this; omega
theorem getD_drop0 {s : Bytes} {i : Nat} : (s.drop i).getD 0 0 = s.getD i 0 := by rw [getD_drop]; rfl
/-- A round of 'quoted' at a place. -/
theorem quoted_at {q : UInt8} {e : Bytes → Bytes × Bytes} {n : Nat} {s acc : Bytes} {i : Nat} (h : i < s.length) : quotedS q e (n + 1) (s.drop i) acc = if (s.getD i 0).toNat = 10 then none else if s.getD i 0 = q then some (acc, s.drop (i + 1)) else if (s.getD i 0).toNat ≠ 92 then quotedS q e n (s.drop (i + 1)) (acc ++ [s.getD i 0]) else if s.length ≤ i + 1 then none else quotedS q e n (e (s.drop (i + 1))).2 (acc ++ (e (s.drop (i + 1))).1) := by
  rw [quotedS, if_neg (drop_ne h), getD_drop0, drop_drop1]
  by_cases h2 : s.length ≤ i + 1
  · have : s.drop (i + 1) = [] := List.drop_eq_nil_of_le h2
    rw [if_pos h2, if_pos this]
  · rw [if_neg h2, if_neg (drop_ne (by omega))]
theorem quoted_end {q : UInt8} {e : Bytes → Bytes × Bytes} {n : Nat} {s acc : Bytes} {i : Nat} (h : ¬ i < s.length) : quotedS q e (n + 1) (s.drop i) acc = none := by
  rw [quotedS, if_pos (List.drop_eq_nil_of_le (by omega))]
theorem T_rslashes_ok (h : T_rquote 47 inEreS args σ K X) : bodyD PS env an22 Try.f22 args σ K X := by
  obtain ⟨s, rfl, hl, hK⟩ := h
  rw [← S22_eq env, S22]
  generalize hQ : quotedS 47 inEreS (s.length + 1) s [] = Q at hK
  refine lp22_3 (fun (a : Nat × Bytes × AV) _ => s.length - a.1) (fun a τ => a.1 ≤ s.length ∧ a.2.1.length ≤ a.1 ∧ (∃ L, RowF a.2.2 L a.2.1 ∧ Sep σ τ ([] ++ L)) ∧ ∃ n, s.length - a.1 < n ∧ Q = quotedS 47 inEreS n (s.drop a.1) a.2.1) (fun a => a.2.2) (fun a => .pv (.int .i64 a.1)) (0, [], .nilS) ⟨Nat.zero_le _, Nat.le_refl _, ⟨[], RowF.nil, Sep.start σ⟩, s.length + 1, by simp only; omega, hQ.symm⟩ ?_
  rintro ⟨i, acc, v⟩ τ ⟨hi, ha, ⟨L, hR, hS⟩, n, hn, hq⟩
  simp only at hi ha hR hn hq
  obtain ⟨n, rfl⟩ : ∃ m, n = m + 1 := ⟨n - 1, by omega⟩
  have bad : Q = none → retV (.tuple [.pv (.str []), .pv (.int .i64 0)]) τ K := by
    intro h
    have := hK τ hS.sub
    rw [h] at this
    exact retV_self this
  unfold L22_3
  simp (disch := omega) only [go_sem]
  refine iteI (fun h1 => ?_) (fun h1 => ?_)
  · rw [quoted_at h1] at hq
    have hq47 : (s.getD i 0 = 47) ↔ (s.getD i 0).toNat = 47 := ⟨fun h => by rw [h]; rfl, fun h => UInt8.toNat_inj.1 h⟩
    simp (disch := omega) only [T.is9, go_sem, beq_iff_eq]
    refine iteI (fun h2 => ?_) (fun h2 => ?_)
    · rw [if_neg (by omega), if_pos (hq47.2 h2)] at hq
      rw [conv_bytes (l := acc) (isSlice T.el50) Try.underlying9 Try.underlying5 T.sz5 hR.toPV]
      have := hK τ hS.sub
      rw [hq] at this
      have e : s.length - (s.drop (i + 1)).length = i + 1 := by rw [List.length_drop]; omega
      unfold quV at this
      simp only at this
      rw [e] at this
      exact retV_self this
    rw [if_neg (fun h => h2 (hq47.1 h))] at hq
    refine iteI (fun h3 => ?_) (fun h3 => ?_)
    · rw [if_pos h3] at hq
      exact bad hq
    rw [if_neg h3] at hq
    simp only [bne, Bool.not_eq_true', beq_eq_false_iff_ne, ne_eq, nEqL]
    refine iteI (fun h4 => ?_) (fun h4 => ?_)
    · rw [if_pos h4] at hq
      refine add1 hR hS (s.getD i 0) rfl (by omega) ?_
      intro v' L' σ' hR' hS'
      exact back (i + 1, acc ++ [s.getD i 0], v') rfl (by simp only; omega) ⟨h1, by simp only [List.length_append, List.length_singleton]; omega, ⟨L', hR', hS'⟩, n, by simp only; omega, hq⟩
    rw [if_neg h4] at hq
    have j15 : ∀ b : Bool, (b = true ↔ (s.length ≤ i + 1 ∨ (s.getD (i + 1) 0).toNat = 10)) → J22_15 env (Inv (fun a => [AV.pv (.str s), a.2.2, .pv (.int .i64 ((a.1 : Nat) : Int))]) (fun (a : Nat × Bytes × AV) _ => s.length - a.1) (fun a τ => a.1 ≤ s.length ∧ a.2.1.length ≤ a.1 ∧ (∃ L, RowF a.2.2 L a.2.1 ∧ Sep σ τ ([] ++ L)) ∧ ∃ n, s.length - a.1 < n ∧ Q = quotedS 47 inEreS n (s.drop a.1) a.2.1)) (s.length - i) (.pv (.str s)) v (.pv (.int .i64 i)) (.pv (.bool b)) τ K X := by
      intro b hb
      unfold J22_15
      simp only [go_sem]
      refine iteI (fun h5 => ?_) (fun h5 => ?_)
      · refine bad ?_
        rcases hb.1 h5 with h6 | h6
        · rw [if_pos h6] at hq; exact hq
        · by_cases h7 : s.length ≤ i + 1
          · rw [if_pos h7] at hq; exact hq
          · rw [if_neg h7] at hq
            have e1 : inEreS (s.drop (i + 1)) = ([], s.drop (i + 1)) := by
              unfold inEreS
              rw [getD_drop0, if_pos h6]
            rw [e1] at hq
            simp only at hq
            cases n with
            | zero => rw [hq]; rfl
            | succ n =>
              rw [quoted_at (by omega), if_pos h6] at hq
              exact hq
      · have h6 : ¬ s.length ≤ i + 1 := fun h => h5 (hb.2 (.inl h))
        have h7 : ¬ (s.getD (i + 1) 0).toNat = 10 := fun h => h5 (hb.2 (.inr h))
        rw [if_neg h6] at hq
        simp (disch := omega) only [T.is9, go_sem, beq_iff_eq]
        refine iteI (fun h8 => ?_) (fun h8 => ?_)
        · have e1 : inEreS (s.drop (i + 1)) = ([s.getD (i + 1) 0], s.drop (i + 2)) := by
            unfold inEreS
            rw [getD_drop0, if_neg h7, if_pos h8, drop_drop1]
          rw [e1] at hq
          refine add1 hR hS (s.getD (i + 1) 0) (by rw [h8]; rfl) (by omega) ?_
          intro v' L' σ' hR' hS'
          exact back (i + 2, acc ++ [s.getD (i + 1) 0], v') rfl (by simp only; omega) ⟨by simp only; omega, by simp only [List.length_append, List.length_singleton]; omega, ⟨L', hR', hS'⟩, n, by simp only; omega, hq⟩
        · have e1 : inEreS (s.drop (i + 1)) = ([92, s.getD (i + 1) 0], s.drop (i + 2)) := by
            unfold inEreS
            rw [getD_drop0, if_neg h7, if_neg h8, drop_drop1]
          rw [e1] at hq
          refine add2 hR hS 92 (s.getD (i + 1) 0) rfl rfl (by omega) ?_
          intro v' L' σ' hR' hS'
          exact back (i + 2, acc ++ [92, s.getD (i + 1) 0], v') rfl (by simp only; omega) ⟨by simp only; omega, by simp only [List.length_append, List.length_cons, List.length_nil]; omega, ⟨L', hR', hS'⟩, n, by simp only; omega, hq⟩
    refine iteI (fun h5 => j15 _ (tIff (.inl (by omega)))) (fun h5 => ?_)
    refine j15 _ ?_
    rw [beq_iff_eq]
    exact ⟨.inr, fun h => h.elim (fun h => absurd h (by omega)) id⟩
  · rw [quoted_end h1] at hq
    exact bad hq
/-! ### a text -/
theorem span_split {p : UInt8 → Bool} : ∀ {s : Bytes} {k : Nat}, k ≤ spanL p s → spanL p s = k + spanL p (s.drop k)
  | _, 0, _ => by simp
  | [], k + 1, h => by simp [spanL] at h
  | c :: s, k + 1, h => by
    rw [spanL] at h ⊢
    by_cases hc : p c = true
    · rw [if_pos hc] at h ⊢
      have := span_split (p := p) (s := s) (k := k) (by omega)
      rw [List.drop_succ_cons]; omega
    · rw [if_neg hc] at h; omega
theorem ofNat_mod (n : Nat) : UInt8.ofNat (n % 256) = UInt8.ofNat n := by
  apply UInt8.toNat_inj.1
  rw [UInt8.toNat_ofNat', UInt8.toNat_ofNat']
  omega
/-- Some bytes, or none, behind a row. -/
def AppK (τ : AS) (v : AV) (bs : Bytes) (K : AV → AS → Prop) : Prop := if bs = [] then K v τ else appendD PS false τ 50 v (.full bs.length (pvBytes bs)) K
theorem rtext11 {I3 : Nat → List AV → AS → Prop} {m3 : Nat} {x0 v : AV} {i : Nat} {d : UInt8} {b : Bool} {τ : AS} (hi : i ≤ 1000000000) (hb : b = true ↔ (d.toNat = 34 ∨ d.toNat = 92 ∨ d.toNat = 47))
    (h : AppK τ v (escB d) (fun v' τ' => ∃ m', m' < m3 ∧ I3 m' [x0, v', .pv (.int .i64 ((i + 2 : Nat) : Int))] τ')) : J20_11 env I3 m3 x0 v (.pv (.int .i64 i)) (.pv (.int .u8 d.toNat)) (.pv (.int .u8 d.toNat)) (.pv (.bool b)) τ K X := by
  have e2 : ∀ K : AV → Prop, binD PS .add 3 (.pv (.int .i64 (i : Nat))) (.pv (.int .i64 2)) K = K (.pv (.int .i64 ((i + 2 : Nat) : Int))) := by
    intro K
    rw [bin_add, nAddL, wrap64 (by omega) (by omega)]
  have nb : ∀ k : Nat, [NeZero k] → ((((d.toNat : Nat) : Int) == (OfNat.ofNat k : Int)) = true) → d.toNat = k := by
    intro k _ h
    have := (beq_iff_eq.1 h : ((d.toNat : Nat) : Int) = ((k : Nat) : Int))
    omega
  have nn : ∀ k : Nat, [NeZero k] → ¬ ((((d.toNat : Nat) : Int) == (OfNat.ofNat k : Int)) = true) → ¬ d.toNat = k := by
    intro k _ h e
    exact h (beq_iff_eq.2 (by show ((d.toNat : Nat) : Int) = ((k : Nat) : Int); omega))
  rw [esc_table] at h
  unfold J20_11
  simp only [lock_eq, e2]
  rw [cond_bool]
  refine iteI (fun g => ?_) (fun g => ?_)
  · rw [if_pos (hb.1 g)] at h
    rw [bb1 d rfl]
    exact h
  rw [if_neg (fun h => g (hb.2 h))] at h
  rw [bin_eql, cond_bool]
  refine iteI (fun g => ?_) (fun g => ?_)
  · rw [if_pos (nb 97 g)] at h
    rw [bb1 (z := 7) 7 rfl]; exact h
  rw [if_neg (nn 97 g)] at h
  rw [bin_eql, cond_bool]
  refine iteI (fun g => ?_) (fun g => ?_)
  · rw [if_pos (nb 98 g)] at h
    rw [bb1 (z := 8) 8 rfl]; exact h
  rw [if_neg (nn 98 g)] at h
  rw [bin_eql, cond_bool]
  refine iteI (fun g => ?_) (fun g => ?_)
  · rw [if_pos (nb 102 g)] at h
    rw [bb1 (z := 12) 12 rfl]; exact h
  rw [if_neg (nn 102 g)] at h
  rw [bin_eql, cond_bool]
  refine iteI (fun g => ?_) (fun g => ?_)
  · rw [if_pos (nb 110 g)] at h
    rw [bb1 (z := 10) 10 rfl]; exact h
  rw [if_neg (nn 110 g)] at h
  rw [bin_eql, cond_bool]
  refine iteI (fun g => ?_) (fun g => ?_)
  · rw [if_pos (nb 114 g)] at h
    rw [bb1 (z := 13) 13 rfl]; exact h
  rw [if_neg (nn 114 g)] at h
  rw [bin_eql, cond_bool]
  refine iteI (fun g => ?_) (fun g => ?_)
  · rw [if_pos (nb 116 g)] at h
    rw [bb1 (z := 9) 9 rfl]; exact h
  rw [if_neg (nn 116 g)] at h
  rw [bin_eql, cond_bool]
  refine iteI (fun g => ?_) (fun g => ?_)
  · rw [if_pos (nb 118 g)] at h
    rw [bb1 (z := 11) 11 rfl]; exact h
  rw [if_neg (nn 118 g)] at h
  rw [bin_eql, cond_bool]
  refine iteI (fun g => ?_) (fun g => ?_)
  · rw [if_pos (nb 10 g)] at h
    exact h
  · rw [if_neg (nn 10 g)] at h
    rw [bb2 (y := 92) 92 d rfl rfl]
    exact h
theorem T_rtext_ok (h : T_rquote 34 inTextS args σ K X) : bodyD PS env an20 Try.f20 args σ K X := by
  obtain ⟨s, rfl, hl, hK⟩ := h
  rw [← S20_eq env, S20]
  generalize hQ : quotedS 34 inTextS (s.length + 1) s [] = Q at hK
  refine lp20_3 (fun (a : Nat × Bytes × AV) _ => s.length - a.1) (fun a τ => a.1 ≤ s.length ∧ a.2.1.length ≤ a.1 ∧ (∃ L, RowF a.2.2 L a.2.1 ∧ Sep σ τ ([] ++ L)) ∧ ∃ n, s.length - a.1 < n ∧ Q = quotedS 34 inTextS n (s.drop a.1) a.2.1) (fun a => a.2.2) (fun a => .pv (.int .i64 a.1)) (0, [], .nilS) ⟨Nat.zero_le _, Nat.le_refl _, ⟨[], RowF.nil, Sep.start σ⟩, s.length + 1, by simp only; omega, hQ.symm⟩ ?_
  rintro ⟨i, acc, v⟩ τ ⟨hi, ha, ⟨L, hR, hS⟩, n, hn, hq⟩
  simp only at hi ha hR hn hq
  obtain ⟨n, rfl⟩ : ∃ m, n = m + 1 := ⟨n - 1, by omega⟩
  have bad : Q = none → retV (.tuple [.pv (.str []), .pv (.int .i64 0)]) τ K := by
    intro h
    have := hK τ hS.sub
    rw [h] at this
    exact retV_self this
  unfold L20_3
  simp (disch := omega) only [go_sem]
  refine iteI (fun h1 => ?_) (fun h1 => ?_)
  · rw [quoted_at h1] at hq
    have hq34 : (s.getD i 0 = 34) ↔ (s.getD i 0).toNat = 34 := ⟨fun h => by rw [h]; rfl, fun h => UInt8.toNat_inj.1 h⟩
    simp (disch := omega) only [T.is9, go_sem, beq_iff_eq]
    refine iteI (fun h2 => ?_) (fun h2 => ?_)
    · rw [if_neg (by omega), if_pos (hq34.2 h2)] at hq
      rw [conv_bytes (l := acc) (isSlice T.el50) Try.underlying9 Try.underlying5 T.sz5 hR.toPV]
      have := hK τ hS.sub
      rw [hq] at this
      have e : s.length - (s.drop (i + 1)).length = i + 1 := by rw [List.length_drop]; omega
      unfold quV at this
      simp only at this
      rw [e] at this
      exact retV_self this
    rw [if_neg (fun h => h2 (hq34.1 h))] at hq
    refine iteI (fun h3 => ?_) (fun h3 => ?_)
    · rw [if_pos h3] at hq
      exact bad hq
    rw [if_neg h3] at hq
    simp only [bne, Bool.not_eq_true', beq_eq_false_iff_ne, ne_eq, nEqL]
    refine iteI (fun h4 => ?_) (fun h4 => ?_)
    · rw [if_pos h4] at hq
      refine add1 hR hS (s.getD i 0) rfl (by omega) ?_
      intro v' L' σ' hR' hS'
      exact back (i + 1, acc ++ [s.getD i 0], v') rfl (by simp only; omega) ⟨h1, by simp only [List.length_append, List.length_singleton]; omega, ⟨L', hR', hS'⟩, n, by simp only; omega, hq⟩
    rw [if_neg h4] at hq
    refine iteI (fun h5 => ?_) (fun h5 => ?_)
    · rw [if_pos (by omega)] at hq
      exact bad hq
    rw [if_neg (by omega)] at hq
    have hlr : (s.drop (i + 1)).length = s.length - (i + 1) := by rw [List.length_drop]
    have j38 : ∀ b : Bool, b = octalB (s.getD (i + 1) 0) → J20_38 env (Inv (fun a => [AV.pv (.str s), a.2.2, .pv (.int .i64 ((a.1 : Nat) : Int))]) (fun (a : Nat × Bytes × AV) _ => s.length - a.1) (fun a τ => a.1 ≤ s.length ∧ a.2.1.length ≤ a.1 ∧ (∃ L, RowF a.2.2 L a.2.1 ∧ Sep σ τ ([] ++ L)) ∧ ∃ n, s.length - a.1 < n ∧ Q = quotedS 34 inTextS n (s.drop a.1) a.2.1)) (s.length - i) (.pv (.str s)) v (.pv (.int .i64 i)) (.pv (.bool b)) τ K X := by
      intro b hb
      unfold J20_38
      simp only [go_sem]
      refine iteI (fun h6 => ?_) (fun h6 => ?_)
      · -- digits of base 8
        rw [h6] at hb
        have hoc : 0 < (s.drop (i + 1)).length ∧ octalB ((s.drop (i + 1)).getD 0 0) = true := ⟨by omega, by rw [getD_drop0]; exact hb.symm⟩
        rw [inText_oct hoc] at hq
        generalize hr : s.drop (i + 1) = r at hq hlr hoc
        have hsp := (span_zero (p := octalB) (s := r)).2 hoc
        have hspl := span_le octalB r
        generalize hm : min (spanL octalB r) 3 = m at hq
        have hrg : ∀ k, r.getD k 0 = s.getD (i + 1 + k) 0 := fun k => by rw [← hr, getD_drop]
        simp (disch := omega) only [go_sem]
        refine lp20_41 (fun (a : Nat × Nat) _ => 3 - a.1) (fun a τ' => τ' = τ ∧ a.1 ≤ m ∧ a.2 < 8 ^ a.1 ∧ octVal (r.take m) 0 = octVal ((r.take m).drop a.1) a.2) (fun a => .pv (.int .i64 (i + 1 + a.1 : Nat))) (fun a => .pv (.int .i64 a.2)) (fun a => .pv (.int .i64 a.1)) (0, 0) ⟨rfl, Nat.zero_le _, by decide, by simp⟩ ?_
        rintro ⟨k, z⟩ τ' ⟨rfl, hk, hz, he⟩
        simp only at hk hz he
        have h8 : 8 ^ k ≤ 512 := by
          have : k ≤ 3 := by omega
          have := Nat.pow_le_pow_right (n := 8) (by decide) this
          simpa using this
        have htm : (r.take m).length = m := by rw [List.length_take]; omega
        have out : k = m → J20_45 env (Inv (fun a => [AV.pv (.str s), a.2.2, .pv (.int .i64 ((a.1 : Nat) : Int))]) (fun (a : Nat × Bytes × AV) _ => s.length - a.1) (fun a τ => a.1 ≤ s.length ∧ a.2.1.length ≤ a.1 ∧ (∃ L, RowF a.2.2 L a.2.1 ∧ Sep σ τ ([] ++ L)) ∧ ∃ n, s.length - a.1 < n ∧ Q = quotedS 34 inTextS n (s.drop a.1) a.2.1)) (s.length - i) (.pv (.str s)) v (.pv (.int .i64 (i + 1 + k : Nat))) (.pv (.int .i64 z)) τ' K X := by
          intro e
          subst e
          rw [List.drop_eq_nil_of_le (by omega), octVal] at he
          rw [he] at hq
          unfold J20_45
          simp (disch := omega) only [go_sem, cvIB]
          refine ⟨by decide, ?_⟩
          refine add1 hR hS (UInt8.ofNat z) (by rw [UInt8.toNat_ofNat']) (by omega) ?_
          intro v' L' σ' hR' hS'
          have ed : r.drop k = s.drop (i + 1 + k) := by rw [← hr, List.drop_drop]
          rw [ed] at hq
          exact back (i + 1 + k, acc ++ [UInt8.ofNat z], v') rfl (by simp only; omega) ⟨by simp only; omega, by simp only [List.length_append, List.length_singleton]; omega, ⟨L', hR', hS'⟩, n, by simp only; omega, hq⟩
        have hstep : k < m ↔ k < 3 ∧ i + 1 + k < s.length ∧ octalB (s.getD (i + 1 + k) 0) = true := by
          have hks : k ≤ spanL octalB r := by omega
          have h9 := span_split hks
          have h10 := span_at (p := octalB) (s := r) (n := k)
          rw [hrg] at h10
          constructor
          · intro h
            have := h10.1 (by omega)
            exact ⟨by omega, by omega, this.2⟩
          · intro ⟨q1, q2, q3⟩
            have := h10.2 ⟨by omega, q3⟩
            omega
        unfold L20_41 J20_43
        simp (disch := omega) only [go_sem]
        refine iteI (fun g1 => ?_) (fun g1 => out (by
          rcases Nat.lt_or_ge k m with h | h
          · exact absurd (hstep.1 h).1 g1
          · omega))
        refine iteI (fun g2 => ?_) (fun g2 => out (by
          rcases Nat.lt_or_ge k m with h | h
          · exact absurd (hstep.1 h).2.1 g2
          · omega))
        simp (disch := omega) only [T.is9, go_sem]
        have hoct : octalB (s.getD (i + 1 + k) 0) = true ↔ 48 ≤ (s.getD (i + 1 + k) 0).toNat ∧ (s.getD (i + 1 + k) 0).toNat ≤ 55 := by
          unfold octalB; rw [Bool.and_eq_true, decide_eq_true_eq, decide_eq_true_eq]
        refine iteI (fun g3 => ?_) (fun g3 => out (by
          rcases Nat.lt_or_ge k m with h | h
          · exact absurd (hoct.1 (hstep.1 h).2.2).1 g3
          · omega))
        refine iteI (fun g4 => ?_) (fun g4 => out (by
          rcases Nat.lt_or_ge k m with h | h
          · exact absurd (hoct.1 (hstep.1 h).2.2).2 g4
          · omega))
        have hkm := hstep.2 ⟨g1, g2, hoct.2 ⟨g3, g4⟩⟩
        have hxi : (r.take m).getD k 0 = s.getD (i + 1 + k) 0 := by
          rw [← hrg]; simp [List.getD_eq_getElem?_getD, List.getElem?_take, hkm]
        rw [drop_consD (d := 0) (show k < (r.take m).length by omega), octVal, hxi] at he
        have e8 : (8 : Int) * ((z : Nat) : Int) = ((z * 8 : Nat) : Int) := by omega
        rw [e8]
        simp (disch := omega) only [go_sem, cvBI]
        refine back (k + 1, z * 8 + ((s.getD (i + 1 + k) 0).toNat - 48)) rfl (by simp only; omega) ⟨rfl, by simp only; omega, ?_, he⟩
        simp only
        rw [Nat.pow_succ]; omega
      · -- another byte
        have hno : ¬ (0 < (s.drop (i + 1)).length ∧ octalB ((s.drop (i + 1)).getD 0 0) = true) := by
          rw [getD_drop0, ← hb]
          exact fun h => h6 h.2
        rw [inText_esc hno, getD_drop0, drop_drop1] at hq
        simp (disch := omega) only [T.is9, go_sem]
        generalize hd : s.getD (i + 1) 0 = d at hq
        have j11 : ∀ b : Bool, (b = true ↔ (d.toNat = 34 ∨ d.toNat = 92 ∨ d.toNat = 47)) → J20_11 env (Inv (fun a => [AV.pv (.str s), a.2.2, .pv (.int .i64 ((a.1 : Nat) : Int))]) (fun (a : Nat × Bytes × AV) _ => s.length - a.1) (fun a τ => a.1 ≤ s.length ∧ a.2.1.length ≤ a.1 ∧ (∃ L, RowF a.2.2 L a.2.1 ∧ Sep σ τ ([] ++ L)) ∧ ∃ n, s.length - a.1 < n ∧ Q = quotedS 34 inTextS n (s.drop a.1) a.2.1)) (s.length - i) (.pv (.str s)) v (.pv (.int .i64 i)) (.pv (.int .u8 d.toNat)) (.pv (.int .u8 d.toNat)) (.pv (.bool b)) τ K X := by
          intro b hb
          refine rtext11 (by omega) hb ?_
          unfold AppK
          have hel : (escB d).length ≤ 2 := by
            rw [esc_table]
            repeat' split
            all_goals simp
          split
          · rename_i hb0
            rw [hb0, List.append_nil] at hq
            exact back (i + 2, acc, v) rfl (by simp only; omega) ⟨by simp only; omega, by simp only; omega, ⟨L, hR, hS⟩, n, by simp only; omega, hq⟩
          · rename_i hb0
            refine hR.append hS (r := escB d) (fun σ => rfl) hb0 (by omega) ?_
            intro v' L' σ' hR' hS'
            exact back (i + 2, acc ++ escB d, v') rfl (by simp only; omega) ⟨by simp only; omega, by simp only [List.length_append]; omega, ⟨L', hR', hS'⟩, n, by simp only; omega, hq⟩
        simp only [beq_iff_eq]
        refine iteI (fun g1 => j11 _ (by simp [g1])) (fun g1 => ?_)
        refine iteI (fun g2 => j11 _ (by simp [g2])) (fun g2 => j11 _ (by simp [g1, g2]))
    have hoct : ∀ d : UInt8, octalB d = (decide (48 ≤ d.toNat) && decide (d.toNat ≤ 55)) := fun _ => rfl
    try simp (disch := omega) only [T.is9, go_sem]
    refine iteI (fun g1 => j38 _ ?_) (fun g1 => j38 _ ?_)
    · rw [hoct, decide_eq_true g1, Bool.true_and]
    · rw [hoct, decide_eq_false g1, Bool.false_and]
  · rw [quoted_end h1] at hq
    exact bad hq
end
end Go.AD.Lx
