import Derived.Test.YtjgjmpophpifgaaLe1
import Derived.Test.YtjgjmpophpifgaaLw2
/- ere: escapes, sets of bytes. -/
set_option linter.unusedVariables false
set_option linter.unusedSimpArgs false
set_option maxRecDepth 100000
namespace Go.AD.Lx
open Go.Proofs RowKit
section
variable {env : Env} {args : List AV} {σ0 σ τ : AS} {K : AV → AS → Prop} {X : PV → AS → Prop} {l : Nat} {s : Bytes} {d : Nat} {Y : Objs}
theorem sepUp {l : Objs} {τ' : AS} (h : Sep σ0 τ l) (hs : τ.sub τ') : Sep σ0 τ' l := ⟨fun i o e => hs _ _ (h.sub _ _ e), h.nodup, h.new, fun p hp => hs _ _ (h.here p hp)⟩
theorem span_every {p : UInt8 → Bool} : ∀ {s : Bytes} {i : Nat}, i < spanL p s → p (s.getD i 0) = true
  | [], i, h => by simp [spanL] at h
  | c :: s, i, h => by
    rw [spanL] at h
    by_cases hc : p c = true
    · rw [if_pos hc] at h
      cases i with
      | zero => exact hc
      | succ i =>
        have := span_every (p := p) (s := s) (i := i) (by omega)
        simpa using this
    · rw [if_neg hc] at h; omega
theorem take_getD {s : Bytes} {k i : Nat} (h : i < k) : (s.take k).getD i 0 = s.getD i 0 := by
  simp [List.getD_eq_getElem?_getD, List.getElem?_take, h]
theorem bytes_go {x : Bytes} {K : AV → AS → Prop} (hl : x.length ≤ 1000000) (h : ∀ id σ', σ.sub σ' → K (.grow id x.length (pvBytes x)) σ') : bytesD PS false σ 9 50 (.pv (.str x)) K := by
  have hpv : toPVs ((pvBytes x).map AV.pv) = some (pvBytes x) := toPVs_pv _
  simp only [bytesD, T.el50, newRowD, Bool.false_eq_true, if_false, hpv]
  exact ⟨Try.underlying9, Try.underlying5, T.sz5, by omega, fun id hid => h id _ (sub_set _ hid)⟩
theorem ixg {id i : Nat} {x : Bytes} (h : i < x.length) {K : AV → Prop} : indexAddrD PS 50 (.grow id x.length (pvBytes x)) (.pv (.int .i64 (i : Nat))) K = K (.elemP (pvBytes x) i) := by
  have hu : PS.underlying 50 = some (.slice 5) := isSlice T.el50
  simp [indexAddrD, hu, T.iS5, T.sz5, pvBytes_len, h]
theorem conv_u8 {n : Nat} {K : AV → Prop} : convD PS σ 3 5 (.pv (.int .i64 (n : Nat))) K = K (.pv (.int .u8 (UInt8.ofNat n).toNat)) := by
  rw [cvI (by rw [Try.underlying3]; rfl) Try.underlying5]
  have : IntKind.wrap .u8 (n : Int) = ((UInt8.ofNat n).toNat : Int) := by
    have : (UInt8.ofNat n).toNat = n % 256 := by simp
    rw [this]
    simp [IntKind.wrap, IntKind.bits, IntKind.signed]
  rw [this]
theorem conv_int {c : UInt8} {K : AV → Prop} : convD PS σ 5 3 (.pv (.int .u8 c.toNat)) K = K (.pv (.int .i64 (c.toNat : Nat))) := by
  have hc := u8lt c
  rw [cvI (by rw [Try.underlying5]; rfl) Try.underlying3]
  have : IntKind.wrap .i64 (c.toNat : Int) = (c.toNat : Int) := by
    simp [IntKind.wrap, IntKind.bits, IntKind.signed]
    omega
  rw [this]
def T_eEscaped : Tr := fun args σ K X => ∃ (σ0 : AS) (l : Nat) (s : Bytes) (d : Nat) (Y : Objs), args = [.addr l 0] ∧ RdAt σ0 σ l s d Y ∧ s.length ≤ 100000 ∧ okX (escE s) (fun r => ∀ σ', RdAt σ0 σ' l r.2 d Y → K (.pv (.int .u8 r.1.toNat)) σ') (fun n => ∀ σ', σ0.sub σ' → X (faultV n) σ')
theorem T_eEscaped_ok (h1 : env 73 = T_eDigits) (h2 : env 46 = T_IndexByte) (h : T_eEscaped args σ K X) : bodyD PS env an69 Try.f69 args σ K X := by
  obtain ⟨σ0, l, s, d, Y, rfl, hR, hlen, hK⟩ := h
  rw [← S69_eq env, S69]
  have hl := hR.get
  unfold escE at hK
  simp (disch := omega) only [lock_eq, go_sem, hl, ldM_cells, List.getElem?_cons_zero, someEx, beq_iff_eq]
  refine iteI (fun g1 => ?_) (fun g1 => ?_)
  · rw [if_pos g1] at hK
    exact fault_go (hK σ hR.sub)
  rw [if_neg g1] at hK
  have hp : 0 < s.length := List.length_pos_iff.2 g1
  unfold J69_3
  rw [h1]
  refine ⟨σ0, l, s, d, Y, 55, 3, rfl, hR, hlen, ?_⟩
  intro σ1 hR1
  have hk : digN 55 3 s ≤ 3 := Nat.min_le_right _ _
  have hks : digN 55 3 s ≤ spanL (upB 55) s := Nat.min_le_left _ _
  have hsl := span_le (upB 55) s
  have htl : (s.take (digN 55 3 s)).length = digN 55 3 s := by rw [List.length_take]; omega
  have hne : (s.take (digN 55 3 s) ≠ []) ↔ 0 < digN 55 3 s := by
    rw [← htl]
    simp only [ne_eq, List.length_pos_iff]
    rw [htl]
  simp (disch := omega) only [lock_eq, go_sem, bne, Bool.not_eq_true', beq_eq_false_iff_ne, ne_eq]
  refine iteI (fun g2 => ?_) (fun g2 => ?_)
  · rw [if_pos (hne.1 g2)] at hK
    have hdig : ∀ i, i < digN 55 3 s → 48 ≤ ((s.take (digN 55 3 s)).getD i 0).toNat ∧ ((s.take (digN 55 3 s)).getD i 0).toNat ≤ 55 := by
      intro i hi
      rw [take_getD hi]
      have := span_every (p := upB 55) (s := s) (i := i) (by omega)
      unfold upB at this
      rw [Bool.and_eq_true] at this
      exact ⟨of_decide_eq_true this.1, of_decide_eq_true this.2⟩
    generalize hx : s.take (digN 55 3 s) = x at hK htl hdig ⊢
    refine bytes_go (by omega) ?_
    intro id σ2 hs2
    simp only [T.lng50]
    refine lp69_7 (fun (a : Nat × Nat) _ => x.length - a.1) (fun a τ => τ = σ2 ∧ a.1 ≤ x.length ∧ octVal x 0 = octVal (x.drop a.1) a.2 ∧ ((a.1 = 0 ∧ a.2 ≤ 0) ∨ (a.1 = 1 ∧ a.2 ≤ 7) ∨ (a.1 = 2 ∧ a.2 ≤ 63) ∨ (a.1 = 3 ∧ a.2 ≤ 511))) (fun a => .pv (.int .i64 ((a.2 : Nat) : Int))) (fun a => .pv (.int .i64 ((a.1 : Nat) : Int))) (0, 0) ⟨rfl, Nat.zero_le _, rfl, .inl ⟨rfl, Nat.le_refl _⟩⟩ ?_
    rintro ⟨i, n⟩ τ ⟨rfl, hi, ho, hb⟩
    simp only at hi ho hb
    unfold L69_7
    simp (disch := omega) only [lock_eq, go_sem]
    refine iteI (fun g3 => ?_) (fun g3 => ?_)
    · obtain ⟨d1, d2⟩ := hdig i (by omega)
      have hcc := pvBytes_get x i g3
      rw [drop_consD (d := 0) g3, octVal] at ho
      generalize x.getD i 0 = c at hcc ho d1 d2
      have hwr : IntKind.wrap .u8 ((c.toNat : Int) - 48) = ((c.toNat - 48 : Nat) : Int) := by
        rw [wrapU8 (by omega) (by omega)]; omega
      have hcv : ∀ (K : AV → Prop), convD PS τ 5 3 (.pv (.int .u8 ((c.toNat - 48 : Nat) : Int))) K = K (.pv (.int .i64 ((c.toNat - 48 : Nat) : Int))) := by
        intro K
        have e : c.toNat - 48 = (UInt8.ofNat (c.toNat - 48)).toNat := by
          have hc := u8lt c
          simp; omega
        rw [e]
        exact conv_int
      simp (disch := omega) only [ixg g3, T.le5, hcc, someEx, go_sem, hwr, hcv]
      exact back (i + 1, n * 8 + (c.toNat - 48)) rfl (by simp only; omega) ⟨rfl, g3, ho, by simp only; omega⟩
    · rw [List.drop_eq_nil_of_le (by omega), octVal] at ho
      rw [ho] at hK
      rw [conv_u8]
      refine retV_self (hK τ ?_)
      exact sepUp hR1 hs2
  · rw [if_neg (fun h => g2 (hne.2 h))] at hK
    have h0 : digN 55 3 s = 0 := by
      rcases Nat.eq_zero_or_pos (digN 55 3 s) with h | h
      · exact h
      · exact absurd (hne.2 h) g2
    rw [h0, List.drop_zero] at hR1
    have hl1 := hR1.get
    have i0 : ∀ (K : AV → Prop), indexD PS 9 (.pv (.str s)) (.pv (.int .i64 0)) K = K (.pv (.int .u8 (s.getD 0 0).toNat)) := fun K => T.is9 (i := 0) hp
    have s1 : ∀ (K : AV → Prop), sliceD PS 9 (.pv (.str s)) (some (.pv (.int .i64 1))) none K = K (.pv (.str (s.drop 1))) := fun K => T.ss9 (i := 1) hp
    simp (disch := omega) only [go_sem, hl1, ldM_cells, stM_cells, List.getElem?_cons_zero, someEx, i0, s1, List.set_cons_zero]
    refine ⟨by simp, ?_⟩
    rw [h2]
    refine ⟨lPlain, s.getD 0 0, rfl, ?_⟩
    have hge := Lib.indexByte_ge lPlain (s.getD 0 0)
    have hle : Lib.indexByte lPlain (s.getD 0 0) < 7 := allU8 (p := fun c => Lib.indexByte lPlain c < 7) (by decide +kernel) _
    simp (disch := omega) only [go_sem]
    refine iteI (fun g3 => ?_) (fun g3 => ?_)
    · rw [if_pos g3] at hK
      obtain ⟨k, hk⟩ : ∃ k : Nat, Lib.indexByte lPlain (s.getD 0 0) = (k : Int) := ⟨(Lib.indexByte lPlain (s.getD 0 0)).toNat, by omega⟩
      rw [hk] at hK hle ⊢
      simp (disch := omega) only [go_sem, conv_u8]
      rw [Int.toNat_natCast] at hK
      exact retV_self (hK _ (hR1.put _))
    · rw [if_neg g3] at hK
      exact retV_self (hK _ (hR1.put _))
/-! ### sets -/
def cellsB (b : BSet) : List AV := (List.range 256).map fun k => .pv (.bool (b k))
theorem cellsB_len (b : BSet) : (cellsB b).length = 256 := by simp [cellsB]
theorem cellsB_get {b : BSet} {i : Nat} (h : i < 256) : (cellsB b)[i]? = some (.pv (.bool (b i))) := by simp [cellsB, h]
theorem cellsB_congr {b b' : BSet} (h : ∀ k, k < 256 → b k = b' k) : cellsB b = cellsB b' := by
  unfold cellsB
  refine List.map_congr_left fun k hk => ?_
  rw [h k (List.mem_range.1 hk)]
theorem cellsB_set {b : BSet} {i : Nat} (h : i < 256) : (cellsB b).set i (.pv (.bool true)) = cellsB fun k => b k || (k == i) := by
  refine List.ext_getElem? fun k => ?_
  rw [List.getElem?_set]
  by_cases hk : k < 256
  · rw [cellsB_get hk, cellsB_get hk]
    by_cases e : i = k
    · subst e; rw [if_pos rfl, cellsB_len, if_pos h]; simp
    · have : (k == i) = false := by simpa using fun h => e h.symm
      rw [if_neg e, this, Bool.or_false]
  · rw [if_neg (by omega), List.getElem?_eq_none (by rw [cellsB_len]; omega), List.getElem?_eq_none (by rw [cellsB_len]; omega)]
theorem ixB {id k : Nat} (h : k < 256) {K : AV → Prop} : indexAddrD PS 83 (.addr id 0) (.pv (.int .i64 (k : Nat))) K = K (.addr id k) := by
  have hu : PS.underlying 83 = some (.array 256 4) := Try.underlying83
  simp [indexAddrD, hu, T.iS4, T.sz4]
  exact fun _ => by omega
def T_ePut : Tr := fun args σ K _ => ∃ (σ0 : AS) (b : Nat) (B : BSet) (var : Option TypeId) (Y : Objs) (i j : UInt8), args = [.addr b 0, .pv (.int .u8 i.toNat), .pv (.int .u8 j.toNat)] ∧ Sep σ0 σ ((b, .cells (cellsB B) var) :: Y) ∧ ∀ σ', Sep σ0 σ' ((b, .cells (cellsB (putB B i.toNat j.toNat)) var) :: Y) → K (.tuple []) σ'
theorem T_ePut_ok (h : T_ePut args σ K X) : bodyD PS env an76 Try.f76 args σ K X := by
  obtain ⟨σ0, b, B, var, Y, i, j, rfl, hS, hK⟩ := h
  have hi := u8lt i
  have hj := u8lt j
  rw [← S76_eq env, S76]
  simp only [lock_eq, conv_int]
  refine lp76_1 (fun (c : Nat) _ => 256 - c) (fun c τ => i.toNat ≤ c ∧ (c = i.toNat ∨ c ≤ j.toNat + 1) ∧ Sep σ0 τ ((b, .cells (cellsB fun k => B k || (decide (i.toNat ≤ k) && decide (k < c))) var) :: Y)) (fun c => .pv (.int .i64 ((c : Nat) : Int))) i.toNat ⟨Nat.le_refl _, .inl rfl, ?_⟩ ?_
  · rw [cellsB_congr (b' := B)]
    · exact hS
    · intro k _
      by_cases h : i.toNat ≤ k
      · rw [decide_eq_false (p := k < i.toNat) (by omega), Bool.and_false, Bool.or_false]
      · rw [decide_eq_false h, Bool.false_and, Bool.or_false]
  · rintro c τ ⟨hc1, hc2, hS1⟩
    unfold L76_1
    simp (disch := omega) only [lock_eq, conv_int, go_sem]
    refine iteI (fun g1 => ?_) (fun g1 => ?_)
    · have hg := hS1.get (i := b) (o := .cells (cellsB fun k => B k || (decide (i.toNat ≤ k) && decide (k < c))) var) (by simp)
      simp (disch := omega) only [ixB (show c < 256 by omega), go_sem, hg, stM_cells]
      refine ⟨by rw [cellsB_len]; omega, ?_⟩
      refine back (c + 1) rfl (by omega) ⟨by omega, by omega, ?_⟩
      rw [cellsB_set (by omega)]
      have e : (cellsB fun k => (B k || (decide (i.toNat ≤ k) && decide (k < c))) || (k == c)) = cellsB fun k => B k || (decide (i.toNat ≤ k) && decide (k < c + 1)) := by
        refine cellsB_congr fun k _ => ?_
        by_cases h1 : i.toNat ≤ k <;> by_cases h2 : k < c <;> by_cases h3 : k = c <;> by_cases h4 : k < c + 1 <;> simp [h1, h2, h3, h4] <;> omega
      rw [← e]
      exact Sep.set1 hS1 _
    · refine retV_self (hK τ ?_)
      rw [cellsB_congr (b' := fun k => B k || (decide (i.toNat ≤ k) && decide (k < c)))]
      · exact hS1
      · intro k _
        unfold putB
        by_cases h1 : i.toNat ≤ k <;> by_cases h2 : k ≤ j.toNat <;> by_cases h3 : k < c <;> simp [h1, h2, h3] <;> omega
end
end Go.AD.Lx

/- ere: a set's text, a class, an item. -/
set_option linter.unusedVariables false
set_option linter.unusedSimpArgs false
set_option maxRecDepth 100000
namespace Go.AD.Lx
open Go.Proofs RowKit
section
variable {env : Env} {args : List AV} {σ0 σ τ : AS} {K : AV → AS → Prop} {X : PV → AS → Prop} {l : Nat} {s : Bytes} {d : Nat} {Y : Objs}
def T_eText : Tr := fun args σ K _ => ∃ (b : Nat) (B : BSet) (var : Option TypeId) (x : Bool), args = [.addr b 0, .pv (.bool x)] ∧ σ b = some (.cells (cellsB B) var) ∧ ∀ σ', σ.sub σ' → K (.pv (.str (textB B x))) σ'
theorem T_eText_ok (h : T_eText args σ K X) : bodyD PS env an68 Try.f68 args σ K X := by
  obtain ⟨b, B, var, x, rfl, hg, hK⟩ := h
  rw [← S68_eq env, S68]
  refine lp68_3 (fun (a : Nat × AV) _ => 256 - a.1) (fun a τ => a.1 ≤ 256 ∧ ∃ L, RowF a.2 L (((List.range a.1).filter fun k => B k == x).map UInt8.ofNat) ∧ Sep σ τ ([] ++ L)) (fun a => a.2) (fun a => .pv (.int .i64 ((a.1 : Nat) : Int))) (0, .nilS) ⟨Nat.zero_le _, [], RowF.nil, Sep.start σ⟩ ?_
  rintro ⟨k, v⟩ τ ⟨hk, L, hR, hS⟩
  simp only at hk hR
  have hlen : (((List.range k).filter fun k => B k == x).map UInt8.ofNat).length ≤ 256 := by
    rw [List.length_map]
    have := List.length_filter_le (fun k => B k == x) (List.range k)
    rw [List.length_range] at this
    omega
  unfold L68_3
  simp (disch := omega) only [lock_eq, go_sem]
  refine iteI (fun g1 => ?_) (fun g1 => ?_)
  · have hg1 : τ b = some (.cells (cellsB B) var) := hS.sub _ _ hg
    simp (disch := omega) only [ixB g1, go_sem, hg1, ldM_cells, cellsB_get g1, someEx, bin_beql (P := PS) (t := 4) Try.underlying4, conv_u8]
    have hr : (List.range (k + 1)).filter (fun k => B k == x) = (List.range k).filter (fun k => B k == x) ++ (if (B k == x) = true then [k] else []) := by
      rw [List.range_succ, List.filter_append]
      congr 1
      by_cases h : (B k == x) = true <;> simp [h]
    refine iteI (fun g2 => ?_) (fun g2 => ?_)
    · rw [if_pos g2] at hr
      refine add1 hR hS (UInt8.ofNat k) rfl (by omega) ?_
      intro v' L' σ' hR' hS'
      refine back (k + 1, v') rfl (by simp only; omega) ⟨g1, L', ?_, hS'⟩
      simp only
      rw [hr, List.map_append]
      exact hR'
    · rw [if_neg g2, List.append_nil] at hr
      refine back (k + 1, v) rfl (by simp only; omega) ⟨g1, L, ?_, hS⟩
      simp only
      rw [hr]
      exact hR
  · have hk' : k = 256 := by omega
    subst hk'
    rw [conv_bytes (l := ((List.range 256).filter fun k => B k == x).map UInt8.ofNat) (isSlice T.el50) Try.underlying9 Try.underlying5 T.sz5 hR.toPV]
    exact retV_self (hK τ hS.sub)
def T_eClass : Tr := fun args σ K _ => ∃ (σ0 : AS) (b : Nat) (B : BSet) (var : Option TypeId) (Y : Objs) (n : Bytes), args = [.addr b 0, .pv (.str n)] ∧ Sep σ0 σ ((b, .cells (cellsB B) var) :: Y) ∧ ∀ σ', Sep σ0 σ' ((b, .cells (cellsB (putsB (endsE n) B)) var) :: Y) → K (.pv (.bool (decide (endsE n ≠ [])))) σ'
theorem T_eClass_ok (h1 : env 76 = T_ePut) (h : T_eClass args σ K X) : bodyD PS env an81 Try.f81 args σ K X := by
  obtain ⟨σ0, b, B, var, Y, n, rfl, hS, hK⟩ := h
  rw [← S81_eq env, S81]
  have j27 : ∀ e : Bytes, (∃ m, e.length = 2 * m) → e.length ≤ 8 → (∀ σ', Sep σ0 σ' ((b, .cells (cellsB (putsB e B)) var) :: Y) → K (.pv (.bool (decide (e ≠ [])))) σ') → J81_27 env (.addr b 0) (.pv (.str e)) σ K X := by
    intro e hev he8 hK
    unfold J81_27
    refine lp81_28 (fun (a : Nat × BSet) _ => e.length - a.1) (fun a τ => a.1 ≤ e.length ∧ (∃ m, e.length = a.1 + 2 * m) ∧ putsB (e.drop a.1) a.2 = putsB e B ∧ Sep σ0 τ ((b, .cells (cellsB a.2) var) :: Y)) (fun a => .pv (.int .i64 ((a.1 : Nat) : Int))) (0, B) ⟨Nat.zero_le _, by simpa using hev, rfl, hS⟩ ?_
    rintro ⟨i, B'⟩ τ ⟨hi, ⟨m, hm⟩, hp, hS'⟩
    simp only at hi hm hp hS'
    unfold L81_28
    simp (disch := omega) only [lock_eq, go_sem]
    refine iteI (fun g1 => ?_) (fun g1 => ?_)
    · have g2 : i + 1 < e.length := by omega
      simp (disch := omega) only [T.is9]
      rw [h1]
      refine ⟨σ0, b, B', var, Y, _, _, rfl, hS', ?_⟩
      intro σ' hS''
      rw [drop_consD (d := 0) g1, drop_consD (d := 0) g2, putsB] at hp
      exact back (i + 2, _) rfl (by simp only; omega) ⟨by simp only; omega, ⟨m - 1, by simp only; omega⟩, hp, hS''⟩
    · rw [List.drop_eq_nil_of_le (by omega), putsB] at hp
      · rw [hp] at hS'
        have e1 : (!e == []) = decide (e ≠ []) := by rw [Bool.eq_iff_iff]; simp
        have := hK τ hS'
        rw [← e1] at this
        exact retV_self this
      · intro _ _ _ h; cases h
  simp only [lock_eq]
  unfold endsE at hK
  iterate 12
    rw [bin_seql, cond_bool]
    refine iteI (fun g => ?_) (fun g => ?_)
    · rw [beq_iff_eq] at g
      rw [if_pos g] at hK
      exact j27 _ (by first | exact ⟨1, rfl⟩ | exact ⟨2, rfl⟩ | exact ⟨3, rfl⟩ | exact ⟨4, rfl⟩) (by decide) hK
    rw [beq_iff_eq] at g
    rw [if_neg g] at hK
  exact j27 [] ⟨0, rfl⟩ (by decide) hK
def itemV : Option UInt8 → AV
  | none => .tuple [.pv (.int .u8 0), .pv (.bool false)]
  | some c => .tuple [.pv (.int .u8 c.toNat), .pv (.bool true)]
def T_eItem : Tr := fun args σ K X => ∃ (σ0 : AS) (l : Nat) (s : Bytes) (d b : Nat) (B : BSet) (var : Option TypeId) (Y : Objs), args = [.addr l 0, .addr b 0] ∧ RdAt σ0 σ l s d ((b, .cells (cellsB B) var) :: Y) ∧ s ≠ [] ∧ s.length ≤ 90000 ∧
  okX (itemE s B) (fun r => ∀ σ', RdAt σ0 σ' l r.2.1 d ((b, .cells (cellsB r.2.2) var) :: Y) → K (itemV r.1) σ') (fun n => ∀ σ', σ0.sub σ' → X (faultV n) σ')
theorem err_go {p : PV} (h : ∀ σ', σ0.sub σ' → X p σ') : ∀ σ', σ0.sub σ' → panV X p σ' := fun σ' hs => ⟨σ', sub_refl σ', h σ' hs⟩
theorem hasP_len {s p : Bytes} (h : Lib.hasPrefix s p = true) : p.length ≤ s.length := (List.isPrefixOf_iff_prefix.1 h).length_le
theorem T_eItem_ok (h1 : env 48 = T_eTake) (h2 : env 80 = T_CutE) (h3 : env 81 = T_eClass) (h4 : env 69 = T_eEscaped) (h : T_eItem args σ K X) : bodyD PS env an75 Try.f75 args σ K X := by
  obtain ⟨σ0, l, s, d, b, B, var, Y, rfl, hR, hne, hlen, hK⟩ := h
  rw [← S75_eq env, S75]
  unfold itemE at hK
  have hp : 0 < s.length := List.length_pos_iff.2 hne
  refine take_call' h1 hR ?_
  intro σ1 hR1
  simp only [lock_eq, go_sem]
  refine iteI (fun g1 => ?_) (fun g1 => ?_)
  · rw [if_pos g1] at hK hR1
    have hl1 := hR1.get
    have e2 : ([91, 58] : Bytes).length = 2 := rfl
    rw [e2] at hR1 hl1
    simp (disch := omega) only [go_sem, hl1, ldM_cells, List.getElem?_cons_zero, someEx]
    rw [h2]
    refine ⟨_, _, rfl, by rw [List.length_drop]; omega, ?_⟩
    simp only [lock_eq, ext_tuple, List.getElem?_cons_zero, List.getElem?_cons_succ, someEx, go_sem]
    generalize Lib.cut (s.drop 2) [58, 93] = q at hK ⊢
    obtain ⟨q1, q2, q3⟩ := q
    simp only at hK ⊢
    cases q3 with
    | false =>
      rw [if_neg (fun h => by cases h.1)] at hK
      simp only [Bool.not_false, if_true]
      exact fault_go (hK σ1 hR1.sub)
    | true =>
      simp only [Bool.not_true, Bool.false_eq_true, if_false]
      rw [h3]
      refine ⟨σ0, b, B, var, _, q1, rfl, Sep.perm hR1 (List.Perm.swap _ _ _), ?_⟩
      intro σ2 hS2
      have hR2 : RdAt σ0 σ2 l (s.drop 2) d _ := Sep.perm hS2 (List.Perm.swap _ _ _)
      simp only [go_sem]
      by_cases g2 : endsE q1 = []
      · rw [if_neg (fun h => h.2 g2)] at hK
        rw [if_pos (by simp [g2])]
        exact fault_go (hK σ2 hR2.sub)
      · rw [if_pos ⟨rfl, g2⟩] at hK
        rw [if_neg (by simp [g2])]
        have hl2 := hR2.get
        unfold J75_5
        simp (disch := omega) only [lock_eq, go_sem, hl2, stM_cells, List.set_cons_zero]
        exact ⟨by simp, retV_self (hK _ (hR2.put _))⟩
  · rw [if_neg g1] at hK hR1
    refine take_call' h1 hR1 ?_
    intro σ2 hR2
    simp only [go_sem]
    refine iteI (fun g2 => ?_) (fun g2 => ?_)
    · rw [if_pos g2] at hK hR2
      have e1 : ([92] : Bytes).length = 1 := rfl
      rw [e1] at hR2
      rw [h4]
      refine ⟨σ0, l, _, d, _, rfl, hR2, by rw [List.length_drop]; omega, ?_⟩
      cases he : escE (s.drop 1) with
      | error n => rw [he] at hK; exact err_go hK
      | ok r =>
        obtain ⟨c, r⟩ := r
        rw [he] at hK
        exact fun σ' hR' => retV_self (hK σ' hR')
    · rw [if_neg g2] at hK hR2
      have hl2 := hR2.get
      have i0 : ∀ (K : AV → Prop), indexD PS 9 (.pv (.str s)) (.pv (.int .i64 0)) K = K (.pv (.int .u8 (s.getD 0 0).toNat)) := fun K => T.is9 (i := 0) hp
      have s1 : ∀ (K : AV → Prop), sliceD PS 9 (.pv (.str s)) (some (.pv (.int .i64 1))) none K = K (.pv (.str (s.drop 1))) := fun K => T.ss9 (i := 1) hp
      simp (disch := omega) only [go_sem, hl2, ldM_cells, stM_cells, List.getElem?_cons_zero, someEx, i0, s1, List.set_cons_zero]
      exact ⟨by simp, retV_self (hK _ (hR2.put _))⟩
/-! ### trees as cells -/
mutual
def ereCells : ETree → List PV
  | .mk op set kids lo hi => [.str op, .str set, .lst kids.length (flatE kids), .int .i64 lo, .int .i64 hi]
def flatE : List ETree → List PV
  | [] => []
  | e :: l => ereCells e ++ flatE l
end
def ereAV (e : ETree) : AV := .agg ((ereCells e).map .pv)
theorem ereCells_len (e : ETree) : (ereCells e).length = 5 := by cases e; simp [ereCells]
theorem zoSet : zeroOf PS 83 = some (cellsB noB) := by kernel_rfl
def T_eSet : Tr := fun args σ K X => ∃ (σ0 : AS) (l : Nat) (s : Bytes) (d : Nat) (Y : Objs), args = [.addr l 0] ∧ RdAt σ0 σ l s d Y ∧ s.length ≤ 80000 ∧ okX (setE s) (fun r => ∀ σ', RdAt σ0 σ' l r.2 d Y → K (ereAV r.1) σ') (fun n => ∀ σ', σ0.sub σ' → X (faultV n) σ')
theorem bset_box {KS : AV → AS → Prop} (h : ∀ id, σ id = none → KS (.addr id 0) (σ.set id (.cells (cellsB noB) none))) : buildD PS 83 [] fun t => boxD σ t KS := by
  have hu : PS.underlying 83 = some (.array 256 4) := Try.underlying83
  simp only [buildD, zoSet, hu, buildFill, T.iS4, true_and, boxD, AV.cells]
  exact ⟨by unfold cellsB; simp [AV.cellOk], h⟩
end
end Go.AD.Lx
