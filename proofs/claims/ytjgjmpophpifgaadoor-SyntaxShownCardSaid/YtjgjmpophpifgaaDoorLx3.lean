/- lex: names, and texts with their backslashes. -/
import Derived.Test.YtjgjmpophpifgaaDoorLx2
set_option linter.unusedVariables false
set_option linter.unusedSimpArgs false
set_option maxRecDepth 100000
namespace Go.AD.Lx
open Go.Proofs
@[go_sem] theorem nMinL (a k : Nat) [NeZero k] : min (a : Int) (no_index (OfNat.ofNat k) : Int) = ((min a (OfNat.ofNat k) : Nat) : Int) := nMin a k
theorem wrapB (v : Nat) : IntKind.wrap .u8 (v : Int) = (((UInt8.ofNat v).toNat : Nat) : Int) := by
  have e : IntKind.wrap .u8 (v : Int) = (v : Int) % 256 := by simp [IntKind.wrap, IntKind.bits, IntKind.signed]
  rw [e, UInt8.toNat_ofNat']
  omega
theorem indexByte_lt (l : Bytes) (c : UInt8) : Lib.indexByte l c < l.length := by
  induction l with
  | nil => unfold Lib.indexByte; simp
  | cons b l ih =>
    unfold Lib.indexByte
    split
    · simp only [List.length_cons]; omega
    · split
      · simp only [List.length_cons]; omega
      · simp only [List.length_cons]; omega
theorem span_get {p : UInt8 → Bool} : ∀ {s : Bytes} {i : Nat}, i < spanL p s → p (s.getD i 0) = true
  | [], i, h => by simp [spanL] at h
  | c :: s, i, h => by
    unfold spanL at h
    split at h
    · cases i with
      | zero => simpa
      | succ i => simpa using span_get (s := s) (by omega)
    · omega
theorem cvIB {σ : AS} {z : Int} {K : AV → Prop} : convD PS σ 3 5 (.pv (.int .i64 z)) K = K (.pv (.int .u8 (IntKind.wrap .u8 z))) := cvI (by rw [Tryd.underlying3]; rfl) Tryd.underlying5
theorem cvBI {σ : AS} {z : Int} {K : AV → Prop} : convD PS σ 5 3 (.pv (.int .u8 z)) K = K (.pv (.int .i64 (IntKind.wrap .i64 z))) := cvI (by rw [Tryd.underlying5]; rfl) Tryd.underlying3
section
variable {env : Env} {args : List AV} {σ0 σ : AS} {K : AV → AS → Prop} {X : PV → AS → Prop} {l b : Nat} {s acc : Bytes} {ts : List Tok} {Y B : Objs}
theorem LexAt.sep (h : LexAt σ0 σ l s ts Y) : ∃ L, Sep σ0 σ (L ++ Y) := by
  obtain ⟨ov, ol, hR, hS⟩ := h
  exact ⟨(l, .cells [.pv (.str s), ov] none) :: ol, hS⟩
theorem LexAt.extra (h : LexAt σ0 σ l s ts Y) {i : Nat} (hi : σ i = none) (o : AObj) : LexAt σ0 (σ.set i o) l s ts Y := by
  obtain ⟨ov, ol, hR, hS⟩ := h
  exact ⟨ov, ol, hR, (hS.alloc hi o).drop⟩
def okK (σ0 : AS) (l : Nat) (Y : Objs) (K : AV → AS → Prop) : Option (Bytes × List Tok) → Prop
  | none => ∀ σ', (∃ L, Sep σ0 σ' (L ++ Y)) → K (.pv (.bool false)) σ'
  | some (r, ts') => ∀ σ', LexAt σ0 σ' l r ts' Y → K (.pv (.bool true)) σ'
theorem listed_call (h : env 95 = T_listed) {a w : Bytes} (h1 : a.length ≤ 1000) (h2 : w.length ≤ 1000000) (hK : K (.pv (.bool (listedS a w))) σ) : env 95 [.pv (.str a), .pv (.str w)] σ K X := by
  rw [h]; exact ⟨a, w, rfl, h1, h2, hK⟩
theorem prefix_call (h : env 85 = strT2 fun s t => .pv (.bool (Lib.hasPrefix s t))) {a w : Bytes} (h1 : a.length ≤ 100000) (hK : K (.pv (.bool (Lib.hasPrefix a w))) σ) : env 85 [.pv (.str a), .pv (.str w)] σ K X := by
  rw [h]; exact ⟨a, w, rfl, h1, hK⟩
theorem span_call (h : env 86 = T_span) {a : Bytes} {f : Nat} {p : UInt8 → Bool} (hp : predOf f = some p) (h1 : a.length ≤ 1000000) (hK : K (.pv (.int .i64 (spanL p a))) σ) : env 86 [.pv (.str a), .pv (.func f)] σ K X := by
  rw [h]; exact ⟨a, f, p, rfl, hp, h1, hK⟩
def T_name : Tr := fun args σ K _ => ∃ (σ0 : AS) (l : Nat) (s : Bytes) (ts : List Tok) (Y : Objs), args = [.addr l 0] ∧ LexAt σ0 σ l s ts Y ∧ s.length ≤ 90000 ∧ ts.length ≤ 100000 ∧ okK σ0 l Y K (nameS s ts)
theorem T_name_ok (h1 : env 86 = T_span) (h2 : env 84 = T_take) (h3 : env 95 = T_listed) (h4 : env 88 = T_put) (h5 : env 85 = strT2 fun s t => .pv (.bool (Lib.hasPrefix s t))) (h : T_name args σ K X) : bodyD PS env an94 Tryd.f94 args σ K X := by
  obtain ⟨σ0, l, s, ts, Y, rfl, hL, hs, ht, hK⟩ := h
  obtain ⟨ov, hl⟩ := hL.str
  rw [← S94_eq env, S94]
  simp (disch := omega) only [go_sem, hl, ldM_cells, List.getElem?_cons_zero]
  refine span_call h1 (p := innerB) rfl (by omega) ?_
  refine take_call h2 hL (span_le _ _) ?_
  intro σ1 hL1
  have hw : (s.take (spanL innerB s)).length ≤ 1000000 := by rw [List.length_take]; omega
  unfold nameS at hK
  refine listed_call h3 (a := lBarred) (by decide) hw ?_
  simp only [go_sem]
  refine iteI (fun g1 => ?_) (fun g1 => ?_)
  · rw [if_pos g1] at hK
    exact retV_self (hK _ hL1.sep)
  rw [if_neg g1] at hK
  refine listed_call h3 (a := lWords) (by decide) hw ?_
  simp only [go_sem]
  refine iteI (fun g2 => ?_) (fun g2 => ?_)
  · rw [if_pos g2] at hK
    refine put_call h4 hL1 (by omega) fun σ2 hL2 => retV_self (hK _ hL2)
  rw [if_neg g2] at hK
  refine listed_call h3 (a := lBuilts) (by decide) hw ?_
  simp only [go_sem]
  refine iteI (fun g3 => ?_) (fun g3 => ?_)
  · rw [if_pos g3] at hK
    refine put_call h4 hL1 (by omega) fun σ2 hL2 => retV_self (hK _ hL2)
  rw [if_neg g3] at hK
  obtain ⟨ov1, hl1⟩ := hL1.str
  simp (disch := omega) only [go_sem, hl1, ldM_cells, List.getElem?_cons_zero]
  refine prefix_call h5 (by rw [List.length_drop]; omega) ?_
  simp only [go_sem]
  refine iteI (fun g4 => ?_) (fun g4 => ?_)
  · rw [if_pos g4] at hK
    refine put_call h4 hL1 (by omega) fun σ2 hL2 => retV_self (hK _ hL2)
  · rw [if_neg g4] at hK
    refine put_call h4 hL1 (by omega) fun σ2 hL2 => retV_self (hK _ hL2)
/-! ### backslashes -/
theorem wb_call (hb : env 47 = T_WriteByte) (hL : LexAt σ0 σ l s ts (B ++ Y)) (hB : BAt b acc B) (ha : acc.length ≤ 1000000) {c : UInt8} {z : Int} (hz : z = c.toNat) (hK : ∀ σ' B', BAt b (acc ++ [c]) B' → LexAt σ0 σ' l s ts (B' ++ Y) → K (.pv .nilIface) σ') :
    env 47 [.addr b 0, .pv (.int .u8 z)] σ K X := by
  subst hz
  rw [hb]
  obtain ⟨ov, ol, hR, hS⟩ := hL
  have p1 : ∀ C : Objs, ((l, AObj.cells [.pv (.str s), ov] none) :: (ol ++ (C ++ Y))).Perm (C ++ ((l, AObj.cells [.pv (.str s), ov] none) :: (ol ++ Y))) := by
    intro C
    have : (((l, AObj.cells [.pv (.str s), ov] none) :: ol) ++ (C ++ Y)).Perm (C ++ (((l, AObj.cells [.pv (.str s), ov] none) :: ol) ++ Y)) := by
      rw [← List.append_assoc, ← List.append_assoc]
      exact List.Perm.append_right Y List.perm_append_comm
    simpa using this
  refine ⟨b, c, σ0, acc, B, _, rfl, hB, hS.perm (p1 B), ha, ?_⟩
  intro σ' B' hB' hS'
  exact hK σ' B' hB' ⟨ov, ol, hR, hS'.perm (p1 B').symm⟩
/-- What a backslash means: bytes go into the builder. -/
def T_esc (e : Bytes → Bytes × Bytes) : Tr := fun args σ K _ => ∃ (σ0 : AS) (l b : Nat) (s acc : Bytes) (ts : List Tok) (B Y : Objs), args = [.addr l 0, .addr b 0] ∧ LexAt σ0 σ l s ts (B ++ Y) ∧ BAt b acc B ∧ s ≠ [] ∧ s.length ≤ 90000 ∧ acc.length ≤ 900000 ∧
  ∀ σ' B', BAt b (acc ++ (e s).1) B' → LexAt σ0 σ' l (e s).2 ts (B' ++ Y) → K (.tuple []) σ'
theorem T_inEre_ok (h2 : env 84 = T_take) (hb : env 47 = T_WriteByte) (h : T_esc inEreS args σ K X) : bodyD PS env an92 Tryd.f92 args σ K X := by
  obtain ⟨σ0, l, b, s, acc, ts, B, Y, rfl, hL, hB, hne, hs, ha, hK⟩ := h
  have hp : 0 < s.length := List.length_pos_iff.2 hne
  obtain ⟨ov, hl⟩ := hL.str
  rw [← S92_eq env, S92]
  have i0 : ∀ (x : Bytes) (K : AV → Prop), 0 < x.length → indexD PS 9 (.pv (.str x)) (.pv (.int .i64 0)) K = K (.pv (.int .u8 (x.getD 0 0).toNat)) := fun x K hx => T.is9 (i := 0) hx
  simp (disch := omega) only [go_sem, hl, ldM_cells, List.getElem?_cons_zero, i0 s _ hp, beq_iff_eq]
  unfold inEreS at hK
  refine iteI (fun g1 => ?_) (fun g1 => ?_)
  · rw [if_pos g1] at hK
    exact retV_self (hK σ B (by simpa using hB) hL)
  rw [if_neg g1] at hK
  refine take_call h2 hL (n := 1) hp ?_
  intro σ1 hL1
  have ht : (s.take 1).getD 0 0 = s.getD 0 0 := by cases s <;> simp
  have htl : 0 < (s.take 1).length := by rw [List.length_take]; omega
  simp (disch := omega) only [go_sem, i0 _ _ htl, ht, bne, Bool.not_eq_true']
  refine iteI (fun g2 => ?_) (fun g2 => ?_)
  · have g2 : ¬ (s.getD 0 0).toNat = 47 := by simpa using g2
    rw [if_neg g2] at hK
    refine wb_call hb hL1 hB (by omega) (c := 92) rfl ?_
    intro σ2 B2 hB2 hL2
    refine wb_call hb hL2 hB2 (by simp; omega) (c := s.getD 0 0) rfl ?_
    intro σ3 B3 hB3 hL3
    exact retV_self (hK σ3 B3 (by simpa [List.append_assoc, -List.getD_eq_getElem?_getD] using hB3) hL3)
  · have g2 : (s.getD 0 0).toNat = 47 := by simpa using g2
    rw [if_pos g2] at hK
    refine wb_call hb hL1 hB (by omega) (c := s.getD 0 0) rfl ?_
    intro σ2 B2 hB2 hL2
    exact retV_self (hK σ2 B2 hB2 hL2)
theorem T_inText_ok (h1 : env 86 = T_span) (h2 : env 84 = T_take) (hb : env 47 = T_WriteByte) (hi : env 24 = T_IndexByte) (h : T_esc inTextS args σ K X) : bodyD PS env an90 Tryd.f90 args σ K X := by
  obtain ⟨σ0, l, b, s, acc, ts, B, Y, rfl, hL, hB, hne, hs, ha, hK⟩ := h
  have hp : 0 < s.length := List.length_pos_iff.2 hne
  obtain ⟨ov, hl⟩ := hL.str
  rw [← S90_eq env, S90]
  simp (disch := omega) only [go_sem, hl, ldM_cells, List.getElem?_cons_zero]
  refine span_call h1 (p := octalB) rfl (by omega) ?_
  simp (disch := omega) only [go_sem]
  have hsp := span_le octalB s
  unfold inTextS at hK
  generalize hn : min (spanL octalB s) 3 = n at hK
  refine iteI (fun g1 => ?_) (fun g1 => ?_)
  · rw [if_pos g1] at hK
    have hnl : n ≤ s.length := by omega
    refine take_call h2 hL hnl ?_
    intro σ1 hL1
    have hx : (s.take n).length = n := by rw [List.length_take]; omega
    simp only [bytesD, T.el30]
    refine ⟨Tryd.underlying9, Tryd.underlying5, T.sz5, by rw [hx]; omega, ?_⟩
    simp only [newRowD, Bool.false_eq_true, if_false, toPVs_pv]
    intro id hid
    have hL2 := hL1.extra hid (.front (s.take n).length 1 (some 5))
    generalize (σ1.set id (.front (s.take n).length 1 (some 5))) = σ2 at hL2
    have hg : toPV (.grow id (s.take n).length (pvBytes (s.take n))) = some (.lst (s.take n).length (pvBytes (s.take n))) := rfl
    rw [T.lnv30 hg]
    refine lp90_4 (fun (a : Nat × Nat) _ => n - a.1) (fun a τ => τ = σ2 ∧ a.1 ≤ n ∧ a.2 < 8 ^ a.1 ∧ octVal (s.take n) 0 = octVal ((s.take n).drop a.1) a.2) (fun a => .pv (.int .i64 a.2)) (fun a => .pv (.int .i64 a.1)) (0, 0) ⟨rfl, Nat.zero_le _, by decide, by simp⟩ ?_
    rintro ⟨i, v⟩ τ ⟨rfl, hin, hv, he⟩
    simp only at hin hv he
    have h8 : 8 ^ i ≤ 512 := by
      have : i ≤ 3 := by omega
      have := Nat.pow_le_pow_right (n := 8) (by decide) this
      simpa using this
    unfold L90_4
    simp (disch := omega) only [go_sem, hx]
    refine iteI (fun g2 => ?_) (fun g2 => ?_)
    · have hc : octalB (s.getD i 0) = true := span_get (by omega)
      unfold octalB at hc
      rw [Bool.and_eq_true, decide_eq_true_eq, decide_eq_true_eq] at hc
      have hxi : (s.take n).getD i 0 = s.getD i 0 := by simp [List.getD_eq_getElem?_getD, List.getElem?_take, g2]
      rw [drop_consD (d := 0) (show i < (s.take n).length by omega), octVal, hxi] at he
      refine T.ixv30 (i := i) (n := n) (cs := pvBytes (s.take n)) (by rw [← hx]; rfl) g2 (by rw [pvBytes_len]; omega) ?_
      have hgt := pvBytes_get (s.take n) i (by omega)
      rw [hxi] at hgt
      simp (disch := omega) only [go_sem, hgt, Nat.mul_one, cvBI]
      refine back (i + 1, v * 8 + ((s.getD i 0).toNat - 48)) ?_ (by simp only; omega) ⟨rfl, by simp only; omega, ?_, he⟩
      · simp only
      · simp only
        rw [Nat.pow_succ]; omega
    · have : i = n := by omega
      subst this
      rw [List.drop_eq_nil_of_le (by omega), octVal] at he
      rw [he] at hK
      simp only [cvIB]
      refine wb_call hb hL2 hB (by omega) (c := UInt8.ofNat v) (wrapB v) ?_
      intro σ3 B3 hB3 hL3
      exact retV_self (hK σ3 B3 hB3 hL3)
  · rw [if_neg g1] at hK
    refine take_call h2 hL (n := 1) hp ?_
    intro σ1 hL1
    have ht : (s.take 1).getD 0 0 = s.getD 0 0 := by cases s <;> simp
    have htl : 0 < (s.take 1).length := by rw [List.length_take]; omega
    have i0 : ∀ (x : Bytes) (K : AV → Prop), 0 < x.length → indexD PS 9 (.pv (.str x)) (.pv (.int .i64 0)) K = K (.pv (.int .u8 (x.getD 0 0).toNat)) := fun x K hx => T.is9 (i := 0) hx
    simp (disch := omega) only [i0 _ _ htl, ht]
    generalize s.getD 0 0 = c at hK
    rw [hi]
    refine ⟨lPlain, c, rfl, ?_⟩
    have jN : ∀ bb : Bool, (bb = true ↔ (c.toNat = 34 ∨ c.toNat = 92 ∨ c.toNat = 47)) → ¬ c.toNat = 10 → J90_15 env (.addr b 0) (.pv (.int .u8 c.toNat)) (.pv (.int .i64 (Lib.indexByte lPlain c))) (.pv (.bool bb)) σ1 K X := by
      intro bb hbb g0
      rw [if_neg g0] at hK
      unfold J90_15
      simp only [go_sem]
      refine iteI (fun g2 => ?_) (fun g2 => ?_)
      · rw [if_pos (hbb.1 g2)] at hK
        refine wb_call hb hL1 hB (by omega) (c := c) rfl ?_
        intro σ2 B2 hB2 hL2
        exact retV_self (hK σ2 B2 hB2 hL2)
      · rw [if_neg (fun h => g2 (hbb.2 h))] at hK
        have hib := indexByte_lt lPlain c
        have hig := Lib.indexByte_ge lPlain c
        refine iteI (fun g3 => ?_) (fun g3 => ?_)
        · rw [if_pos g3] at hK
          obtain ⟨k, hk⟩ : ∃ k : Nat, Lib.indexByte lPlain c = k := ⟨(Lib.indexByte lPlain c).toNat, by omega⟩
          rw [hk] at hK hib ⊢
          have hk7 : k < 7 := by
            have : (lPlain.length : Int) = 7 := rfl
            omega
          simp (disch := omega) only [go_sem, cvIB]
          refine wb_call hb hL1 hB (by omega) (c := UInt8.ofNat (7 + k)) ?_ ?_
          · rw [UInt8.toNat_ofNat']; omega
          · intro σ2 B2 hB2 hL2
            exact retV_self (hK σ2 B2 hB2 hL2)
        · rw [if_neg g3] at hK
          refine wb_call hb hL1 hB (by omega) (c := 92) rfl ?_
          intro σ2 B2 hB2 hL2
          refine wb_call hb hL2 hB2 (by simp; omega) (c := c) rfl ?_
          intro σ3 B3 hB3 hL3
          exact retV_self (hK σ3 B3 (by simpa [List.append_assoc] using hB3) hL3)
    simp (disch := omega) only [go_sem, beq_iff_eq]
    refine iteI (fun g2 => ?_) (fun g2 => ?_)
    · rw [if_pos g2] at hK
      exact retV_self (hK σ1 B (by simpa using hB) hL1)
    refine iteI (fun g3 => jN _ (by simp [g3]) g2) (fun g3 => ?_)
    refine iteI (fun g4 => jN _ (by simp [g4]) g2) (fun g4 => jN _ (by simp [g3, g4]) g2)
end
end Go.AD.Lx
