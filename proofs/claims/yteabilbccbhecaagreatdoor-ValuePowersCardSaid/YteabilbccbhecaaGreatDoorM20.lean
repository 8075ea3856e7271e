import Derived.Test.YteabilbccbhecaaGreatDoorM19
import Derived.Test.YteabilbccbhecaaGreatDoorM16
import Derived.Test.YteabilbccbhecaaGreatDoorM8
set_option linter.unusedVariables false
set_option linter.unusedSimpArgs false
set_option maxRecDepth 100000
namespace Go.AD.Fl
open Go.Proofs RowKit Go.AD.Fp Ieee
theorem word_inj (neg : Bool) {r s : Nat} (hr : r <= infR) (hs : s <= infR) (h : double.order (sg neg + r) (sg neg + s) = some .eq) : r = s := by
  rw [<- wordR_sg neg hr, <- wordR_sg neg hs] at h
  have key : ∀ a b, a < b -> b <= infR -> fvZ (wordR neg a) ≠ fvZ (wordR neg b) /\ isNaNw (wordR neg a) = false /\ isNaNw (wordR neg b) = false := by
    intro a b hab hb
    obtain ⟨h1, h2, h3⟩ := wordR_order neg hab hb
    have h4 : isNaNw (wordR neg a) = false := by
      rcases Nat.lt_or_ge a infR with g | g
      · exact (fv_word g).2
      · omega
    refine ⟨?_, h4, h1⟩
    cases neg with
    | false => have := h2 rfl; omega
    | true => have := h3 rfl; omega
  rcases Nat.lt_trichotomy r s with g | g | g
  · obtain ⟨k1, k2, k3⟩ := key r s g hs
    rw [order_w k2 k3] at h
    have := Option.some.inj h
    rw [Int.compare_eq_eq] at this
    exact absurd this k1
  · exact g
  · obtain ⟨k1, k2, k3⟩ := key s r g hr
    rw [order_w k3 k2] at h
    have := Option.some.inj h
    rw [Int.compare_eq_eq] at this
    exact absurd this.symm k1
section
variable {env : Env} {args : List AV} {σ0 σ τ : AS} {K : AV -> AS -> Prop} {X : PV -> AS -> Prop}
theorem ext0 {a b : AV} {Q : AV -> Prop} : extractD (.tuple [a, b]) 0 Q = Q a := rfl
theorem ext1 {a b : AV} {Q : AV -> Prop} : extractD (.tuple [a, b]) 1 Q = Q b := rfl
def ErrV (v : AV) : Prop := v = .pv .nilIface \/ v = errN 1
theorem errV_R (r : Nat) : ErrV (errR r) := by unfold errR; split <;> first | exact .inr rfl | exact .inl rfl
def T_iAtof : Tr := fun args σ K _ => ∃ n : Num, args = [st n.text] /\ n.Ok /\ n.text.length <= 800 /\ ∀ v, ErrV v -> K (.tuple [f64 (sg n.neg + n.val), i64 (n.text.length : Int), v]) σ
theorem zeroDec : zeroOf PS 181 = some (dC (List.replicate 800 0) 0 0 false false) := by kernel_rfl
theorem ok_dC (b : List Nat) (nd dp : Int) (neg tr : Bool) : (dC b nd dp neg tr).all AV.cellOk = true := by
  unfold dC
  rw [List.all_append, Bool.and_eq_true]
  refine ⟨?_, rfl⟩
  rw [List.all_eq_true]
  intro v hv
  obtain ⟨x, _, rfl⟩ := List.mem_map.1 hv
  rfl
set_option exponentiation.threshold 10000 in
theorem T_iAtof64_ok (hSp : env 135 = T_iSpecial) (hRd : env 136 = T_iRead) (hB : env 144 = T_bool .u64) (hF : env 145 = T_f64from) (hEx : env 146 = T_iExact) (hP : env 147 = T_iParse64) (hSet : env 142 = T_iSet) (hBits : env 143 = T_iBits)
    (h : T_iAtof args σ K X) : bodyD PS env an108 Tryz.f108 args σ K X := by
  obtain ⟨n, rfl, hn, hl, hK⟩ := h
  have hdg := hn.dg
  have hQl : n.W.length + n.Q.length <= 800 := by
    have e : n.text.length = (sgB n.sg).length + (n.W.length + ((dotB n.P).length + (expB n.E).length)) := by
      unfold Num.text; simp only [List.length_append, List.length_map]
    have e2 : n.Q.length <= (dotB n.P).length := by
      unfold Num.Q
      cases n.P with
      | none => exact Nat.zero_le _
      | some q => simp [dotB]
    omega
  have hds : n.ds.length = n.W.length + n.Q.length := List.length_append
  have hN : n10 n.ds < 10 ^ 1000 := Nat.lt_of_lt_of_le (n10_lt hdg) (Nat.pow_le_pow_right (by decide) (by omega))
  have hsgv : sg n.neg = 0 \/ sg n.neg = 9223372036854775808 := by unfold sg; split <;> omega
  have hvle := rungD_le (n10 n.ds) (n.ex - n.Q.length)
  unfold infR at hvle
  rw [<- S108_eq env, S108]
  unfold J108_1
  simp only [lock_eq]
  rw [hSp]
  refine ⟨n, rfl, hn, hl, ?_⟩
  simp only [ext_tuple, List.getElem?_cons_zero, List.getElem?_cons_succ, someEx]
  unfold J108_2 J108_3
  simp only [lock_eq, cond_bool]
  rw [if_neg (by decide)]
  unfold J108_4
  simp only [lock_eq]
  rw [hRd]
  refine ⟨n, rfl, hn, hl, ?_⟩
  intro m j tr e hR hcap hj
  have hval : n.val = rungD (n10 n.ds) (e - n.Q.length) := (hcap.rung hN (by omega)).symm
  have hc1 := hcap.lo
  have hc2 := hcap.hi
  simp only [ext_tuple, List.getElem?_cons_zero, List.getElem?_cons_succ, someEx]
  unfold J108_5
  simp only [lock_eq, un_not]
  unfold J108_6
  simp only [lock_eq, cond_bool]
  rw [if_neg (by decide)]
  unfold J108_7 J108_8
  simp only [lock_eq, cond_bool]
  rw [if_neg (by decide)]
  unfold J108_10
  simp only [lock_eq]
  rw [ld_glob T.hT4 T.ag4 g_opt]
  refine ⟨_, rfl, ?_⟩
  unfold J108_11
  simp only [lock_eq, cond_bool]
  rw [if_pos trivial, hB]
  refine ⟨n.neg, rfl, ?_⟩
  dsimp only
  have hsh : ∀ Q : AV -> Prop, binD PS .shl 37 (.pv (.int .u64 (if n.neg = true then 1 else 0))) (.pv (.int .u64 63)) Q = Q (u64 (sg n.neg)) := by
    intro Q
    cases n.neg with
    | true => exact shlI (y := 63) 1 63 rfl (by decide)
    | false => exact shlI (y := 63) 0 63 rfl (by decide)
  rw [hsh]
  have hfr : ∀ (w : Nat) (σ : AS) (K' : AV -> AS -> Prop) (X' : PV -> AS -> Prop), K' (f64 w) σ -> env 145 [u64 w] σ K' X' := by
    intro w σ K' X' hk
    rw [hF]
    exact ⟨(w : Int), rfl, hk⟩
  unfold J108_12
  simp only [lock_eq, eq8]
  unfold J108_13
  simp only [lock_eq, cond_bool]
  refine iteI (fun g => ?_) (fun g => ?_)
  ·
    have g : m = 0 := by have := of_decide_eq_true g; omega
    subst g
    have hz := read_zero hR
    rw [show (AV.pv (.int .u64 0)) = u64 0 from rfl, orU (by omega) (by decide), Nat.or_zero]
    refine hfr _ _ _ _ ?_
    have := hK _ (.inl rfl)
    rw [hval, hz, rungD_zero_d, Nat.add_zero] at this
    exact retV_self this
  have g : 0 < m := by
    have : ¬ ((m : Int) = 0) := fun e => g (decide_eq_true e)
    omega
  have hmlt := hR.lt
  rw [if_neg (by omega)]
  unfold J108_14
  simp only [lock_eq, bin_gtr]
  unfold J108_15
  simp only [lock_eq, cond_bool]
  refine iteI (fun g2 => ?_) (fun g2 => ?_)
  ·
    have g2 := of_decide_eq_true g2
    rw [show (AV.pv (.int .u64 9218868437227405312)) = u64 9218868437227405312 from rfl, orU (by omega) (by decide)]
    have hor : sg n.neg ||| 9218868437227405312 = sg n.neg + 9218868437227405312 := by rcases hsgv with h | h <;> rw [h] <;> decide
    rw [hor]
    refine hfr _ _ _ _ ?_
    rw [show (AV.pv (.int .i64 1)) = i64 1 from rfl, ifE]
    have := hK _ (.inr rfl)
    rw [hval, read_huge hR g (by omega)] at this
    exact retV_self this
  have g2 : e - n.Q.length + (j : Int) <= 310 := by
    have : ¬ (e - n.Q.length + (j : Int) > 310) := fun e => g2 (decide_eq_true e)
    omega
  unfold J108_16
  simp only [lock_eq, bin_lss]
  unfold J108_17
  simp only [lock_eq, cond_bool]
  refine iteI (fun g3 => ?_) (fun g3 => ?_)
  ·
    have g3 := of_decide_eq_true g3
    rw [show (AV.pv (.int .u64 0)) = u64 0 from rfl, orU (by omega) (by decide), Nat.or_zero]
    refine hfr _ _ _ _ ?_
    have := hK _ (.inl rfl)
    rw [hval, read_tiny hR (by omega), Nat.add_zero] at this
    exact retV_self this
  have g3 : -345 <= e - n.Q.length + (j : Int) := by
    have : ¬ (e - n.Q.length + (j : Int) < -345) := fun e => g3 (decide_eq_true e)
    omega
  have j28 : J108_28 env (st n.text) (i64 (n.text.length : Int)) (.pv .nilIface) σ K X := by
    unfold J108_28
    simp only [lock_eq]
    refine alloc_of zeroDec (ok_dC _ _ _ _ _) ?_
    intro a ha
    unfold J108_29
    simp only [lock_eq]
    rw [T.st9 (Nat.le_refl _), List.take_length, hSet]
    refine ⟨a, n, List.replicate 800 0, false, false, _, rfl, set_same _ _ _, by simp, hn, hl, ?_⟩
    intro b e2 hD hcap2
    have hval2 : n.val = rungD (n10 n.ds) (e2 - n.Q.length) := (hcap2.rung hN (by omega)).symm
    have hc3 := hcap2.lo
    have hc4 := hcap2.hi
    rw [set_set]
    simp only [un_not]
    unfold J108_30
    simp only [lock_eq, cond_bool]
    rw [if_neg (by decide)]
    unfold J108_31
    simp only [lock_eq]
    rw [hBits]
    have hdl := dropZ_len n.ds
    refine ⟨a, b, dropZ n.ds, _, n.neg, _, rfl, set_same _ _ _, hD, ?_, by omega, by omega, ?_⟩
    · by_cases hz : dropZ n.ds = []
      · exact .inl hz
      · exact .inr ⟨dropZ_dg hdg, by omega, hz, dropZ_head _⟩
    intro cs ov
    rw [set_set, n10_dropZ, show ((dropZ n.ds).length : Int) - n.Q.length + e2 - (dropZ n.ds).length = e2 - n.Q.length by omega, <- hval2]
    simp only [ext0, ext1]
    unfold J108_32
    refine hfr _ _ _ _ ?_
    have hsub := sub_set (AObj.cells cs (some 181)) ha
    unfold J108_33
    simp only [lock_eq, cond_bool]
    refine iteI (fun _ => ?_) (fun _ => ?_)
    · rw [show (AV.pv (.int .i64 1)) = i64 1 from rfl, ifE]
      unfold J108_35
      exact retV_sub hsub (hK _ (.inr rfl))
    · unfold J108_35
      exact retV_sub hsub (hK _ (.inl rfl))
  have j22 : J108_22 env (st n.text) (i64 (n.text.length : Int)) (.pv .nilIface) (u64 m) (i64 (e - n.Q.length + (j : Int))) (bo tr) (u64 (sg n.neg)) σ K X := by
    unfold J108_22
    simp only [lock_eq]
    rw [hP]
    refine ⟨n.neg, m, _, rfl, g, by omega, g3, g2, ?_⟩
    simp only [ext0, ext1]
    unfold J108_23
    simp only [lock_eq, un_not]
    unfold J108_24
    simp only [lock_eq, cond_bool]
    cases tr with
    | false =>
      rw [if_pos (by decide)]
      have := hK _ (errV_R (rungD m (e - n.Q.length + (j : Int))))
      rw [hval, read_exact hR] at this
      exact retV_self this
    | true =>
      rw [if_neg (by decide)]
      unfold J108_25
      simp only [lock_eq]
      rw [show (AV.pv (.int .u64 1)) = u64 1 from rfl, addU (by omega), hP]
      refine ⟨n.neg, m + 1, _, rfl, by omega, by omega, g3, g2, ?_⟩
      simp only [ext0, ext1]
      unfold J108_26
      simp only [lock_eq, bin_feql]
      unfold J108_27
      simp only [lock_eq, cond_bool]
      refine iteI (fun g4 => ?_) (fun _ => j28)
      have g4 := word_inj n.neg (rungD_le _ _) (rungD_le _ _) (eq_of_beq g4)
      have := hK _ (errV_R (rungD m (e - n.Q.length + (j : Int))))
      rw [hval, read_cut hR _ g4] at this
      exact retV_self this
  unfold J108_18
  simp only [lock_eq, un_not]
  unfold J108_19
  simp only [lock_eq, cond_bool]
  refine iteI (fun g4 => ?_) (fun _ => j22)
  have htr : tr = false := by simpa using g4
  subst htr
  rw [hEx]
  refine ⟨m, _, n.neg, rfl, g, by omega, by omega, by omega, ?_, ?_⟩
  · intro x
    simp only [ext0, ext1]
    unfold J108_20 J108_21
    simp only [lock_eq, cond_bool]
    rw [if_neg (by decide)]
    exact j22
  · simp only [ext0, ext1]
    unfold J108_20 J108_21
    simp only [lock_eq, cond_bool]
    rw [if_pos trivial]
    have := hK _ (.inl rfl)
    rw [hval, read_exact hR] at this
    exact retV_self this
theorem T_iPrefix_ok (hA : env 108 = T_iAtof) (h : (∃ n : Num, args = [st n.text, i64 64] /\ n.Ok /\ n.text.length <= 800 /\ ∀ v, ErrV v -> K (.tuple [f64 (sg n.neg + n.val), i64 (n.text.length : Int), v]) σ)) : bodyD PS env an85 Tryz.f85 args σ K X := by
  obtain ⟨n, rfl, hn, hl, hK⟩ := h
  rw [<- S85_eq env, S85]
  simp only [lock_eq, eq8, cond_bool]
  rw [if_neg (by decide), hA]
  refine ⟨n, rfl, hn, hl, fun v hv => ?_⟩
  simp only [ext_tuple, List.getElem?_cons_zero, List.getElem?_cons_succ, someEx]
  exact retV_self (hK v hv)
def T_iPre : Tr := fun args σ K _ => ∃ n : Num, args = [st n.text, i64 64] /\ n.Ok /\ n.text.length <= 800 /\ ∀ v, ErrV v -> K (.tuple [f64 (sg n.neg + n.val), i64 (n.text.length : Int), v]) σ
def T_iPF : Tr := fun args σ K _ => ∃ n : Num, args = [st n.text, i64 64] /\ n.Ok /\ n.text.length <= 800 /\ ∀ v, ErrV v -> K (.tuple [f64 (sg n.neg + n.val), v]) σ
theorem T_iParseFloat_ok (hA : env 85 = T_iPre) (h : T_iPF args σ K X) : bodyD PS env an57 Tryz.f57 args σ K X := by
  obtain ⟨n, rfl, hn, hl, hK⟩ := h
  rw [<- S57_eq env, S57]
  simp only [lock_eq]
  rw [hA]
  refine ⟨n, rfl, hn, hl, fun v hv => ?_⟩
  simp only [ext_tuple, List.getElem?_cons_zero, List.getElem?_cons_succ, someEx, T.ls9, ne8, cond_bool]
  rw [if_neg (nod (by simp))]
  exact retV_self (hK v hv)
def T_sParse : Tr := fun args σ K _ => ∃ n : Num, args = [st n.text, i64 64] /\ n.Ok /\ n.text.length <= 800 /\ ∀ v, K (.tuple [f64 (sg n.neg + n.val), v]) σ
theorem T_sParseFloat_ok (hA : env 57 = T_iPF) (hE : env 58 = T_sToError) (h : T_sParse args σ K X) : bodyD PS env an38 Tryz.f38 args σ K X := by
  obtain ⟨n, rfl, hn, hl, hK⟩ := h
  rw [<- S38_eq env, S38]
  simp only [lock_eq]
  rw [hA]
  refine ⟨n, rfl, hn, hl, fun v hv => ?_⟩
  simp only [ext0, ext1]
  obtain ⟨ms, hm⟩ := unErr
  rcases hv with rfl | rfl
  · rw [nil_neq0 hm, cond_bool, if_neg (by decide)]
    exact retV_self (hK _)
  · rw [nil_neq1 hm, cond_bool, if_pos (by decide), hE]
    exact ⟨_, n.text, 0, 64, rfl, by omega, retV_self (hK _)⟩
end
end Go.AD.Fl

set_option maxRecDepth 100000
set_option linter.unusedSimpArgs false
namespace Go.AD.Fp
abbrev Bytes := List UInt8
def isD (c : UInt8) : Bool := decide (48 <= c.toNat) && decide (c.toNat <= 57)
def blankB (c : UInt8) : Bool := c == 32 || c == 9 || c == 10
def dig (c : UInt8) : Nat := c.toNat - 48
theorem dB_dig {c : UInt8} (h : isD c = true) : dB (dig c) = c := by
  unfold isD at h
  simp only [Bool.and_eq_true, decide_eq_true_eq] at h
  apply UInt8.toNat_inj.1
  have h1 : dig c < 10 := by unfold dig; omega
  rw [dB_nat h1]; unfold dig; omega
theorem dig_lt {c : UInt8} (h : isD c = true) : dig c < 10 := by
  unfold isD at h
  simp only [Bool.and_eq_true, decide_eq_true_eq] at h
  unfold dig; omega
def digs0 (l : Bytes) : List Nat := (l.takeWhile isD).map dig
theorem digs0_dg (l : Bytes) : Dg (digs0 l) := by
  intro d hd
  obtain ⟨c, hc, rfl⟩ := List.mem_map.1 hd
  have : ∀ (m : Bytes), c ∈ m.takeWhile isD -> isD c = true := by
    intro m
    induction m with
    | nil => intro h; cases h
    | cons x m ih =>
      intro h
      rw [List.takeWhile_cons] at h
      split at h
      · rename_i hx
        rcases List.mem_cons.1 h with rfl | h
        · exact hx
        · exact ih h
      · cases h
  exact dig_lt (this l hc)
theorem digs0_map (l : Bytes) : (digs0 l).map dB = l.takeWhile isD := by
  unfold digs0
  rw [List.map_map]
  have : ∀ m : Bytes, (∀ c ∈ m, isD c = true) -> m.map (dB ∘ dig) = m := by
    intro m
    induction m with
    | nil => intro _; rfl
    | cons x m ih =>
      intro h
      rw [List.map_cons, ih (fun c hc => h c (List.mem_cons_of_mem _ hc))]
      show dB (dig x) :: m = _
      rw [dB_dig (h x (List.mem_cons_self ..))]
  refine this _ ?_
  have : ∀ (m : Bytes) c, c ∈ m.takeWhile isD -> isD c = true := by
    intro m
    induction m with
    | nil => intro c h; cases h
    | cons x m ih =>
      intro c h
      rw [List.takeWhile_cons] at h
      split at h
      · rename_i hx
        rcases List.mem_cons.1 h with rfl | h
        · exact hx
        · exact ih c h
      · cases h
  exact this l
theorem digs0_len (l : Bytes) : (digs0 l).length = (l.takeWhile isD).length := List.length_map ..
def sign0 : Bytes -> Option Bool × Bytes
  | [] => (none, [])
  | c :: l => if c = 45 then (some true, l) else if c = 43 then (some false, l) else (none, c :: l)
theorem sign0_text (l : Bytes) : l = sgB (sign0 l).1 ++ (sign0 l).2 := by
  cases l with
  | nil => rfl
  | cons c l =>
    have e : sign0 (c :: l) = if c = 45 then (some true, l) else if c = 43 then (some false, l) else (none, c :: l) := rfl
    rw [e]
    by_cases h : c = 45
    · rw [if_pos h, h]; rfl
    · rw [if_neg h]
      by_cases h : c = 43
      · rw [if_pos h, h]; rfl
      · rw [if_neg h]; rfl
def point0 (W : List Nat) : Bytes -> Option (List Nat) × Bytes
  | [] => (none, [])
  | c :: l => if c = 46 /\ (W ≠ [] \/ digs0 l ≠ []) then (some (digs0 l), l.dropWhile isD) else (none, c :: l)
theorem point0_text (W : List Nat) (l : Bytes) : l = dotB (point0 W l).1 ++ (point0 W l).2 := by
  cases l with
  | nil => rfl
  | cons c l =>
    have e : point0 W (c :: l) = if c = 46 /\ (W ≠ [] \/ digs0 l ≠ []) then (some (digs0 l), l.dropWhile isD) else (none, c :: l) := rfl
    rw [e]
    by_cases h : c = 46 /\ (W ≠ [] \/ digs0 l ≠ [])
    · rw [if_pos h]
      show c :: l = (46 :: (digs0 l).map dB) ++ l.dropWhile isD
      rw [digs0_map, h.1, List.cons_append, List.takeWhile_append_dropWhile]
    · rw [if_neg h]; rfl
def exp0 : Bytes -> Option (Bool × Option Bool × List Nat) × Bytes
  | [] => (none, [])
  | c :: l => if (c = 101 \/ c = 69) /\ digs0 (sign0 l).2 ≠ [] then (some (c == 69, (sign0 l).1, digs0 (sign0 l).2), (sign0 l).2.dropWhile isD) else (none, c :: l)
theorem exp0_text (l : Bytes) : l = expB (exp0 l).1 ++ (exp0 l).2 := by
  cases l with
  | nil => rfl
  | cons c l =>
    have e : exp0 (c :: l) = if (c = 101 \/ c = 69) /\ digs0 (sign0 l).2 ≠ [] then (some (c == 69, (sign0 l).1, digs0 (sign0 l).2), (sign0 l).2.dropWhile isD) else (none, c :: l) := rfl
    rw [e]
    by_cases h : (c = 101 \/ c = 69) /\ digs0 (sign0 l).2 ≠ []
    · rw [if_pos h]
      show c :: l = ((if (c == 69) = true then (69 : UInt8) else 101) :: (sgB (sign0 l).1 ++ (digs0 (sign0 l).2).map dB)) ++ (sign0 l).2.dropWhile isD
      rw [digs0_map, List.cons_append, List.append_assoc, List.takeWhile_append_dropWhile, <- sign0_text]
      congr 1
      rcases h.1 with e | e <;> subst e <;> rfl
    · rw [if_neg h]; rfl
def num0 (l : Bytes) : Num × Bytes :=
  let s := sign0 l
  let W := digs0 s.2
  let p := point0 W (s.2.dropWhile isD)
  let e := exp0 p.2
  (⟨s.1, W, p.1, e.1⟩, e.2)
theorem num0_text (l : Bytes) : l = (num0 l).1.text ++ (num0 l).2 := by
  unfold num0 Num.text
  show l = (sgB (sign0 l).1 ++ ((digs0 (sign0 l).2).map dB ++ (dotB (point0 (digs0 (sign0 l).2) ((sign0 l).2.dropWhile isD)).1 ++ expB (exp0 (point0 (digs0 (sign0 l).2) ((sign0 l).2.dropWhile isD)).2).1))) ++ (exp0 (point0 (digs0 (sign0 l).2) ((sign0 l).2.dropWhile isD)).2).2
  rw [List.append_assoc, List.append_assoc, List.append_assoc, <- exp0_text, <- point0_text, digs0_map, List.takeWhile_append_dropWhile, <- sign0_text]
def hasN (l : Bytes) : Bool := decide ((num0 l).1.ds ≠ [])
theorem num0_ok {l : Bytes} (h : hasN l = true) : (num0 l).1.Ok := by
  refine ⟨digs0_dg _, ?_, of_decide_eq_true h, ?_⟩
  · show Dg ((point0 (digs0 (sign0 l).2) ((sign0 l).2.dropWhile isD)).1.getD [])
    generalize (sign0 l).2.dropWhile isD = m
    cases m with
    | nil => intro d hd; cases hd
    | cons c m =>
      generalize digs0 (sign0 l).2 = W
      have e : point0 W (c :: m) = if c = 46 /\ (W ≠ [] \/ digs0 m ≠ []) then (some (digs0 m), m.dropWhile isD) else (none, c :: m) := rfl
      rw [e]
      split
      · exact digs0_dg m
      · intro d hd; cases hd
  · intro c s d hE
    have hE : (exp0 (point0 (digs0 (sign0 l).2) ((sign0 l).2.dropWhile isD)).2).1 = some (c, s, d) := hE
    generalize (point0 (digs0 (sign0 l).2) ((sign0 l).2.dropWhile isD)).2 = m at hE
    cases m with
    | nil => cases hE
    | cons x m =>
      have e : exp0 (x :: m) = if (x = 101 \/ x = 69) /\ digs0 (sign0 m).2 ≠ [] then (some (x == 69, (sign0 m).1, digs0 (sign0 m).2), (sign0 m).2.dropWhile isD) else (none, x :: m) := rfl
      rw [e] at hE
      split at hE
      · rename_i h
        cases hE
        exact ⟨digs0_dg _, h.2⟩
      · cases hE
def signBit (neg : Bool) : Nat := if neg = true then 9223372036854775808 else 0
def trimL (s : Bytes) : Bytes := s.dropWhile blankB
def prefV (s : Bytes) : Nat := if hasN (trimL s) = true then signBit (num0 (trimL s)).1.neg + (num0 (trimL s)).1.val else 0
def prefN (s : Bytes) : Nat := if hasN (trimL s) = true then s.length - (num0 (trimL s)).2.length else 0
theorem trimL_len (s : Bytes) : (trimL s).length <= s.length := by
  have := congrArg List.length (List.takeWhile_append_dropWhile (p := blankB) (l := s))
  rw [List.length_append] at this
  unfold trimL; omega
theorem num0_len (l : Bytes) : (num0 l).1.text.length + (num0 l).2.length = l.length := by
  have := congrArg List.length (num0_text l)
  rw [List.length_append] at this
  exact this.symm
theorem prefN_le (s : Bytes) : prefN s <= s.length := by unfold prefN; split <;> omega
def looksB (s : Bytes) : Bool := decide (0 < prefN s) && (s.drop (prefN s)).all blankB
end Go.AD.Fp

set_option linter.unusedVariables false
set_option maxRecDepth 100000
namespace Go.AD
open Go.Proofs.Tryz
def an52:An:={ mu:=[],cut:=[],loop:=[(2,[0,2,4])] }
def L52_2 (env:Env) (I2:Nat->List AV->AS->Prop) (m2:Nat) (chars0_l2 as2_l2 i4_l2:AV) (σ:AS) (K:AV->AS->Prop) (X:PV->AS->Prop):Prop :=
 (lock lenD prog 9 chars0_l2 fun t8 =>
 (lock binD prog .lss 3 i4_l2 t8 fun t9 =>
 (condD t9
 (lock indexD prog 9 chars0_l2 i4_l2 fun t14 =>
 (lock binD prog .geq 5 t14 (.pv (.int .u8 128)) fun t16 =>
 (condD t16
 (lock loadD prog σ 91 as2_l2 fun t17 =>
 (lock storeD prog σ 91 as2_l2 t17 fun σ3 =>
 (lock loadD prog σ3 91 as2_l2 fun r0 =>
 (retV (.tuple [r0,(.pv (.bool false))]) σ3 K))))
 (lock indexAddrD prog 91 as2_l2 t14 fun t19 =>
 (lock storeD prog σ 4 t19 (.pv (.bool true)) fun σ4 =>
 (lock binD prog .add 3 i4_l2 (.pv (.int .i64 1)) fun t11 =>
 (∃ m',m' < m2/\I2 m' [chars0_l2,as2_l2,t11] σ4)))))))
 (lock loadD prog σ 91 as2_l2 fun t20 =>
 (lock storeD prog σ 91 as2_l2 t20 fun σ5 =>
 (lock loadD prog σ5 91 as2_l2 fun r0 =>
 (retV (.tuple [r0,(.pv (.bool true))]) σ5 K)))))))
theorem L52_2_eq (env:Env) (I2:Nat->List AV->AS->Prop) (m2:Nat) (chars0_l2 as2_l2 i4_l2:AV) (σ:AS) (K:AV->AS->Prop) (X:PV->AS->Prop):L52_2 env I2 m2 chars0_l2 as2_l2 i4_l2 σ K X=wpD prog env an52 (subC (bodyC f52) [1,0,1,0,0]) (contQ prog env an52 (bodyC f52) [1,0,1,0,0] [(I2,m2)] (rootQ prog f52 K X)) [(0,chars0_l2),(2,as2_l2),(4,i4_l2)] σ:=by
  unfold L52_2
  kernel_rfl
theorem lp52_2 {α:Type} {env:Env}  {chars0_l2 as2_l2:AV} {σ:AS} {K:AV->AS->Prop} {X:PV->AS->Prop} (μ:α->AS->Nat) (I:α->AS->Prop) (ei4_l2:α->AV) (a0:α) (h0:I a0 σ)
 (h:∀ a σ,I a σ->L52_2 env  (Inv (fun a=>[chars0_l2,as2_l2,ei4_l2 a]) μ I) (μ a σ) chars0_l2 as2_l2 (ei4_l2 a) σ K X) :
 ∃ I2:Nat->List AV->AS->Prop,(∃ m,I2 m [chars0_l2,as2_l2,ei4_l2 a0] σ)/\∀ (m:Nat) (x0 x1 x2:AV),∀ σ,I2 m [x0,x1,x2] σ ->
 L52_2 env  I2 m x0 x1 x2 σ K X:=by
  refine ⟨Inv (fun a=>[chars0_l2,as2_l2,ei4_l2 a]) μ I,⟨_,a0,rfl,rfl,h0⟩,?_⟩
  rintro m x0 x1 x2 σ' ⟨a,hv,rfl,hI⟩
  simp only [List.cons.injEq,and_true] at hv
  obtain ⟨rfl,rfl,rfl⟩:=hv
  exact h a σ' hI
def S52 (env:Env) (chars0_a:AV) (σ:AS) (K:AV->AS->Prop) (X:PV->AS->Prop):Prop :=
 (lock allocD prog σ 91 fun t2 σ1 =>
 (∃ I2:Nat->List AV->AS->Prop,(∃ m,I2 m [chars0_a,t2,(.pv (.int .i64 0))] σ1)/\∀ (m2:Nat) (chars0_l2 as2_l2 i4_l2:AV),∀ σ2,I2 m2 [chars0_l2,as2_l2,i4_l2] σ2 ->
 (L52_2 env I2 m2 chars0_l2 as2_l2 i4_l2 σ2 K X)))
theorem S52_eq (env:Env) (chars0_a:AV) (σ:AS) (K:AV->AS->Prop) (X:PV->AS->Prop):S52 env chars0_a σ K X=bodyD prog env an52 f52 [chars0_a] σ K X:=by
  unfold S52
  simp only [L52_2_eq]
  kernel_rfl
theorem S52_ok:(match f52.body with | some c=>okCode an52 prog f52.ntmps c | none=>false)=true:=by kernel_rfl
def an82:An:={ mu:=[],cut:=[],loop:=[] }
def S82 (env:Env) (as0_a c1_a:AV) (σ:AS) (K:AV->AS->Prop) (X:PV->AS->Prop):Prop :=
 (lock nilD as0_a fun t7 =>
 (lock indexAddrD prog 91 t7 c1_a fun t8 =>
 (lock loadD prog σ 4 t8 fun t9 =>
 (retV (t9) σ K))))
theorem S82_eq (env:Env) (as0_a c1_a:AV) (σ:AS) (K:AV->AS->Prop) (X:PV->AS->Prop):S82 env as0_a c1_a σ K X=bodyD prog env an82 f82 [as0_a,c1_a] σ K X:=by
  unfold S82
  kernel_rfl
theorem S82_ok:(match f82.body with | some c=>okCode an82 prog f82.ntmps c | none=>false)=true:=by kernel_rfl
def an53:An:={ mu:=[],cut:=[],loop:=[(1,[0,1])] }
def L53_1 (env:Env) (I1:Nat->List AV->AS->Prop) (m1:Nat) (s0_l1 as1_l1:AV) (σ:AS) (K:AV->AS->Prop) (X:PV->AS->Prop):Prop :=
 (lock lenD prog 9 s0_l1 fun t6 =>
 (lock binD prog .gtr 3 t6 (.pv (.int .i64 0)) fun t7 =>
 (condD t7
 (lock indexD prog 9 s0_l1 (.pv (.int .i64 0)) fun t10 =>
 (env 82 [as1_l1,t10] σ (fun t11 σ2 =>
 (unD .not t11 fun t12 =>
 (condD t12
 (retV (s0_l1) σ2 K)
 (lock sliceD prog 9 s0_l1 (some (.pv (.int .i64 1))) none fun t14 =>
 (∃ m',m' < m1/\I1 m' [t14,as1_l1] σ2))))) (panV X)))
 (retV (s0_l1) σ K))))
theorem L53_1_eq (env:Env) (I1:Nat->List AV->AS->Prop) (m1:Nat) (s0_l1 as1_l1:AV) (σ:AS) (K:AV->AS->Prop) (X:PV->AS->Prop):L53_1 env I1 m1 s0_l1 as1_l1 σ K X=wpD prog env an53 (subC (bodyC f53) [1,0,0,0]) (contQ prog env an53 (bodyC f53) [1,0,0,0] [(I1,m1)] (rootQ prog f53 K X)) [(0,s0_l1),(1,as1_l1)] σ:=by
  unfold L53_1
  kernel_rfl
theorem lp53_1 {α:Type} {env:Env}  {as1_l1:AV} {σ:AS} {K:AV->AS->Prop} {X:PV->AS->Prop} (μ:α->AS->Nat) (I:α->AS->Prop) (es0_l1:α->AV) (a0:α) (h0:I a0 σ)
 (h:∀ a σ,I a σ->L53_1 env  (Inv (fun a=>[es0_l1 a,as1_l1]) μ I) (μ a σ) (es0_l1 a) as1_l1 σ K X) :
 ∃ I1:Nat->List AV->AS->Prop,(∃ m,I1 m [es0_l1 a0,as1_l1] σ)/\∀ (m:Nat) (x0 x1:AV),∀ σ,I1 m [x0,x1] σ ->
 L53_1 env  I1 m x0 x1 σ K X:=by
  refine ⟨Inv (fun a=>[es0_l1 a,as1_l1]) μ I,⟨_,a0,rfl,rfl,h0⟩,?_⟩
  rintro m x0 x1 σ' ⟨a,hv,rfl,hI⟩
  simp only [List.cons.injEq,and_true] at hv
  obtain ⟨rfl,rfl⟩:=hv
  exact h a σ' hI
def S53 (env:Env) (s0_a as1_a:AV) (σ:AS) (K:AV->AS->Prop) (X:PV->AS->Prop):Prop :=
 (∃ I1:Nat->List AV->AS->Prop,(∃ m,I1 m [s0_a,as1_a] σ)/\∀ (m1:Nat) (s0_l1 as1_l1:AV),∀ σ1,I1 m1 [s0_l1,as1_l1] σ1 ->
 (L53_1 env I1 m1 s0_l1 as1_l1 σ1 K X))
theorem S53_eq (env:Env) (s0_a as1_a:AV) (σ:AS) (K:AV->AS->Prop) (X:PV->AS->Prop):S53 env s0_a as1_a σ K X=bodyD prog env an53 f53 [s0_a,as1_a] σ K X:=by
  unfold S53
  simp only [L53_1_eq]
  kernel_rfl
theorem S53_ok:(match f53.body with | some c=>okCode an53 prog f53.ntmps c | none=>false)=true:=by kernel_rfl
def an77:An:={ mu:=[],cut:=[],loop:=[(1,[0,1])] }
def L77_1 (env:Env) (I1:Nat->List AV->AS->Prop) (m1:Nat) (s0_l1 as1_l1:AV) (σ:AS) (K:AV->AS->Prop) (X:PV->AS->Prop):Prop :=
 (lock lenD prog 9 s0_l1 fun t6 =>
 (lock binD prog .gtr 3 t6 (.pv (.int .i64 0)) fun t7 =>
 (condD t7
 (lock lenD prog 9 s0_l1 fun t11 =>
 (lock binD prog .sub 3 t11 (.pv (.int .i64 1)) fun t12 =>
 (lock indexD prog 9 s0_l1 t12 fun t13 =>
 (env 82 [as1_l1,t13] σ (fun t14 σ2 =>
 (unD .not t14 fun t15 =>
 (condD t15
 (retV (s0_l1) σ2 K)
 (lock lenD prog 9 s0_l1 fun t18 =>
 (lock binD prog .sub 3 t18 (.pv (.int .i64 1)) fun t19 =>
 (lock sliceD prog 9 s0_l1 none (some t19) fun t20 =>
 (∃ m',m' < m1/\I1 m' [t20,as1_l1] σ2))))))) (panV X)))))
 (retV (s0_l1) σ K))))
theorem L77_1_eq (env:Env) (I1:Nat->List AV->AS->Prop) (m1:Nat) (s0_l1 as1_l1:AV) (σ:AS) (K:AV->AS->Prop) (X:PV->AS->Prop):L77_1 env I1 m1 s0_l1 as1_l1 σ K X=wpD prog env an77 (subC (bodyC f77) [1,0,0,0]) (contQ prog env an77 (bodyC f77) [1,0,0,0] [(I1,m1)] (rootQ prog f77 K X)) [(0,s0_l1),(1,as1_l1)] σ:=by
  unfold L77_1
  kernel_rfl
theorem lp77_1 {α:Type} {env:Env}  {as1_l1:AV} {σ:AS} {K:AV->AS->Prop} {X:PV->AS->Prop} (μ:α->AS->Nat) (I:α->AS->Prop) (es0_l1:α->AV) (a0:α) (h0:I a0 σ)
 (h:∀ a σ,I a σ->L77_1 env  (Inv (fun a=>[es0_l1 a,as1_l1]) μ I) (μ a σ) (es0_l1 a) as1_l1 σ K X) :
 ∃ I1:Nat->List AV->AS->Prop,(∃ m,I1 m [es0_l1 a0,as1_l1] σ)/\∀ (m:Nat) (x0 x1:AV),∀ σ,I1 m [x0,x1] σ ->
 L77_1 env  I1 m x0 x1 σ K X:=by
  refine ⟨Inv (fun a=>[es0_l1 a,as1_l1]) μ I,⟨_,a0,rfl,rfl,h0⟩,?_⟩
  rintro m x0 x1 σ' ⟨a,hv,rfl,hI⟩
  simp only [List.cons.injEq,and_true] at hv
  obtain ⟨rfl,rfl⟩:=hv
  exact h a σ' hI
def S77 (env:Env) (s0_a as1_a:AV) (σ:AS) (K:AV->AS->Prop) (X:PV->AS->Prop):Prop :=
 (∃ I1:Nat->List AV->AS->Prop,(∃ m,I1 m [s0_a,as1_a] σ)/\∀ (m1:Nat) (s0_l1 as1_l1:AV),∀ σ1,I1 m1 [s0_l1,as1_l1] σ1 ->
 (L77_1 env I1 m1 s0_l1 as1_l1 σ1 K X))
theorem S77_eq (env:Env) (s0_a as1_a:AV) (σ:AS) (K:AV->AS->Prop) (X:PV->AS->Prop):S77 env s0_a as1_a σ K X=bodyD prog env an77 f77 [s0_a,as1_a] σ K X:=by
  unfold S77
  simp only [L77_1_eq]
  kernel_rfl
theorem S77_ok:(match f77.body with | some c=>okCode an77 prog f77.ntmps c | none=>false)=true:=by kernel_rfl
def an36:An:={ mu:=[],cut:=[(3,[0,1]),(4,[0,1,21])],loop:=[] }
def J36_4 (env:Env)  (s0_j4 cutset1_j4 t21_j4:AV) (σ:AS) (K:AV->AS->Prop) (X:PV->AS->Prop):Prop :=
 (condD t21_j4
 (lock indexD prog 9 cutset1_j4 (.pv (.int .i64 0)) fun t24 =>
 (env 51 [s0_j4,t24] σ (fun t25 σ1 =>
 (retV (t25) σ1 K)) (panV X)))
 (env 52 [cutset1_j4] σ (fun t28 σ2 =>
 (lock extractD t28 0 fun t29 =>
 (lock extractD t28 1 fun t30 =>
 (lock allocD prog σ2 91 fun t5 σ3 =>
 (lock storeD prog σ3 91 t5 t29 fun σ4 =>
 (condD t30
 (env 53 [s0_j4,t5] σ4 (fun t33 σ5 =>
 (retV (t33) σ5 K)) (panV X))
 (env 54 [s0_j4,cutset1_j4] σ4 (fun t36 σ6 =>
 (retV (t36) σ6 K)) (panV X)))))))) (panV X)))
theorem J36_4_eq (env:Env)  (s0_j4 cutset1_j4 t21_j4:AV) (σ:AS) (K:AV->AS->Prop) (X:PV->AS->Prop):J36_4 env  s0_j4 cutset1_j4 t21_j4 σ K X=cutK (fun fr σ=>wpD prog env an36 (subC (bodyC f36) [1,1,0,1]) (contQ prog env an36 (bodyC f36) [1,1,0,1] [] (rootQ prog f36 K X)) fr σ) [(0,s0_j4),(1,cutset1_j4),(21,t21_j4)] σ:=by
  unfold J36_4
  refine cutK_of ?_
  kernel_rfl
def J36_3 (env:Env)  (s0_j3 cutset1_j3:AV) (σ:AS) (K:AV->AS->Prop) (X:PV->AS->Prop):Prop :=
 (lock lenD prog 9 cutset1_j3 fun t15 =>
 (lock binD prog .eql 3 t15 (.pv (.int .i64 1)) fun t16 =>
 (guardD t16 true
 (lock indexD prog 9 cutset1_j3 (.pv (.int .i64 0)) fun t19 =>
 (lock binD prog .lss 5 t19 (.pv (.int .u8 128)) fun t20 =>
 (J36_4 env  (s0_j3) (cutset1_j3) (t20) σ K X)))
 (J36_4 env  (s0_j3) (cutset1_j3) (.pv (.bool false)) σ K X))))
theorem J36_3_eq (env:Env)  (s0_j3 cutset1_j3:AV) (σ:AS) (K:AV->AS->Prop) (X:PV->AS->Prop):J36_3 env  s0_j3 cutset1_j3 σ K X=cutK (fun fr σ=>wpD prog env an36 (subC (bodyC f36) [1,1]) (contQ prog env an36 (bodyC f36) [1,1] [] (rootQ prog f36 K X)) fr σ) [(0,s0_j3),(1,cutset1_j3)] σ:=by
  unfold J36_3
  simp only [J36_4_eq]
  refine cutK_of ?_
  kernel_rfl
def S36 (env:Env) (s0_a cutset1_a:AV) (σ:AS) (K:AV->AS->Prop) (X:PV->AS->Prop):Prop :=
 (lock binD prog .eql 9 s0_a (.pv (.str [])) fun t8 =>
 (guardD t8 false
 (lock binD prog .eql 9 cutset1_a (.pv (.str [])) fun t11 =>
 (condD t11
 (retV (s0_a) σ K)
 (J36_3 env  (s0_a) (cutset1_a) σ K X)))
 (retV (s0_a) σ K)))
theorem S36_eq (env:Env) (s0_a cutset1_a:AV) (σ:AS) (K:AV->AS->Prop) (X:PV->AS->Prop):S36 env s0_a cutset1_a σ K X=bodyD prog env an36 f36 [s0_a,cutset1_a] σ K X:=by
  unfold S36
  simp only [J36_3_eq]
  kernel_rfl
theorem S36_ok:(match f36.body with | some c=>okCode an36 prog f36.ntmps c | none=>false)=true:=by kernel_rfl
def an48:An:={ mu:=[],cut:=[(3,[0,1]),(4,[0,1,21])],loop:=[],any:=[4] }
def J48_4 (env:Env)  (s0_j4 cutset1_j4 t21_j4:AV) (σ:AS) (K:AV->AS->Prop) (X:PV->AS->Prop):Prop :=
 (condD t21_j4
 (lock indexD prog 9 cutset1_j4 (.pv (.int .i64 0)) fun t24 =>
 (lock indexD prog 9 cutset1_j4 (.pv (.int .i64 0)) fun t27 =>
 ((env 76 [s0_j4,t24] σ (fun t25 σ1 =>
 ((env 51 [t25,t27] σ1 (fun t28 σ2 =>
 (retV (t28) σ2 K)) (panV X))/\True)) (panV X))/\True)))
 (env 52 [cutset1_j4] σ (fun t31 σ3 =>
 (lock extractD t31 0 fun t32 =>
 (lock extractD t31 1 fun t33 =>
 (lock allocD prog σ3 91 fun t5 σ4 =>
 (lock storeD prog σ4 91 t5 t32 fun σ5 =>
 (condD t33
 (env 77 [s0_j4,t5] σ5 (fun t36 σ6 =>
 (env 53 [t36,t5] σ6 (fun t37 σ7 =>
 (retV (t37) σ7 K)) (panV X))) (panV X))
 (env 78 [s0_j4,cutset1_j4] σ5 (fun t40 σ8 =>
 (env 54 [t40,cutset1_j4] σ8 (fun t42 σ9 =>
 (retV (t42) σ9 K)) (panV X))) (panV X)))))))) (panV X)))
theorem J48_4_eq (env:Env)  (s0_j4 cutset1_j4 t21_j4:AV) (σ:AS) (K:AV->AS->Prop) (X:PV->AS->Prop):J48_4 env  s0_j4 cutset1_j4 t21_j4 σ K X=cutK (fun fr σ=>wpD prog env an48 (subC (bodyC f48) [1,1,0,1]) (contQ prog env an48 (bodyC f48) [1,1,0,1] [] (rootQ prog f48 K X)) fr σ) [(0,s0_j4),(1,cutset1_j4),(21,t21_j4)] σ:=by
  unfold J48_4
  refine cutK_of ?_
  kernel_rfl
def J48_3 (env:Env)  (s0_j3 cutset1_j3:AV) (σ:AS) (K:AV->AS->Prop) (X:PV->AS->Prop):Prop :=
 (lock lenD prog 9 cutset1_j3 fun t15 =>
 (lock binD prog .eql 3 t15 (.pv (.int .i64 1)) fun t16 =>
 (guardD t16 true
 (lock indexD prog 9 cutset1_j3 (.pv (.int .i64 0)) fun t19 =>
 (lock binD prog .lss 5 t19 (.pv (.int .u8 128)) fun t20 =>
 (J48_4 env  (s0_j3) (cutset1_j3) (t20) σ K X)))
 (J48_4 env  (s0_j3) (cutset1_j3) (.pv (.bool false)) σ K X))))
theorem J48_3_eq (env:Env)  (s0_j3 cutset1_j3:AV) (σ:AS) (K:AV->AS->Prop) (X:PV->AS->Prop):J48_3 env  s0_j3 cutset1_j3 σ K X=cutK (fun fr σ=>wpD prog env an48 (subC (bodyC f48) [1,1]) (contQ prog env an48 (bodyC f48) [1,1] [] (rootQ prog f48 K X)) fr σ) [(0,s0_j3),(1,cutset1_j3)] σ:=by
  unfold J48_3
  simp only [J48_4_eq]
  refine cutK_of ?_
  kernel_rfl
def S48 (env:Env) (s0_a cutset1_a:AV) (σ:AS) (K:AV->AS->Prop) (X:PV->AS->Prop):Prop :=
 (lock binD prog .eql 9 s0_a (.pv (.str [])) fun t8 =>
 (guardD t8 false
 (lock binD prog .eql 9 cutset1_a (.pv (.str [])) fun t11 =>
 (condD t11
 (retV (s0_a) σ K)
 (J48_3 env  (s0_a) (cutset1_a) σ K X)))
 (retV (s0_a) σ K)))
theorem S48_eq (env:Env) (s0_a cutset1_a:AV) (σ:AS) (K:AV->AS->Prop) (X:PV->AS->Prop):S48 env s0_a cutset1_a σ K X=bodyD prog env an48 f48 [s0_a,cutset1_a] σ K X:=by
  unfold S48
  simp only [J48_3_eq]
  kernel_rfl
theorem S48_ok:(match f48.body with | some c=>okCode an48 prog f48.ntmps c | none=>false)=true:=by kernel_rfl
end Go.AD

set_option linter.unusedVariables false
set_option maxRecDepth 100000
namespace Go.AD
open Go.Proofs.Tryz
def an55:An:={ mu:=[],cut:=[],loop:=[] }
def S55 (env:Env) (s0_a:AV) (s:AS) (K:AV->AS->Prop) (X:PV->AS->Prop):Prop :=
 (lock binD prog .neq 9 s0_a (.pv (.str [])) fun t4 =>
 (guardD t4 true
 (lock indexD prog 9 s0_a (.pv (.int .i64 0)) fun t7 =>
 (lock binD prog .eql 5 t7 (.pv (.int .u8 43)) fun t8 =>
 (guardD t8 false
 (lock indexD prog 9 s0_a (.pv (.int .i64 0)) fun t11 =>
 (lock binD prog .eql 5 t11 (.pv (.int .u8 45)) fun t12 =>
 (condD t12
 (retV ((.pv (.int .i64 1))) s K)
 (retV ((.pv (.int .i64 0))) s K))))
 (retV ((.pv (.int .i64 1))) s K))))
 (retV ((.pv (.int .i64 0))) s K)))
theorem S55_eq (env:Env) (s0_a:AV) (s:AS) (K:AV->AS->Prop) (X:PV->AS->Prop):S55 env s0_a s K X=bodyD prog env an55 f55 [s0_a] s K X:=by
  unfold S55
  kernel_rfl
theorem S55_ok:(match f55.body with | some c=>okCode an55 prog f55.ntmps c | none=>false)=true:=by kernel_rfl
def an56:An:={ mu:=[],cut:=[],loop:=[(2,[0,3])] }
def L56_2 (env:Env) (I2:Nat->List AV->AS->Prop) (m2:Nat) (s0_l2 n3_l2:AV) (s:AS) (K:AV->AS->Prop) (X:PV->AS->Prop):Prop :=
 (lock lenD prog 9 s0_l2 fun t6 =>
 (lock binD prog .lss 3 n3_l2 t6 fun t7 =>
 (guardD t7 true
 (lock indexD prog 9 s0_l2 n3_l2 fun t11 =>
 (lock binD prog .leq 5 (.pv (.int .u8 48)) t11 fun t12 =>
 (guardD t12 true
 (lock indexD prog 9 s0_l2 n3_l2 fun t17 =>
 (lock binD prog .leq 5 t17 (.pv (.int .u8 57)) fun t18 =>
 (condD t18
 (lock binD prog .add 3 n3_l2 (.pv (.int .i64 1)) fun t21 =>
 (∃ m',m' < m2/\I2 m' [s0_l2,t21] s))
 (retV (n3_l2) s K))))
 (retV (n3_l2) s K))))
 (retV (n3_l2) s K))))
theorem L56_2_eq (env:Env) (I2:Nat->List AV->AS->Prop) (m2:Nat) (s0_l2 n3_l2:AV) (s:AS) (K:AV->AS->Prop) (X:PV->AS->Prop):L56_2 env I2 m2 s0_l2 n3_l2 s K X=wpD prog env an56 (subC (bodyC f56) [1,1,0,0,0]) (contQ prog env an56 (bodyC f56) [1,1,0,0,0] [(I2,m2)] (rootQ prog f56 K X)) [(0,s0_l2),(3,n3_l2)] s:=by
  unfold L56_2
  kernel_rfl
theorem lp56_2 {α:Type} {env:Env}  {s0_l2:AV} {s:AS} {K:AV->AS->Prop} {X:PV->AS->Prop} (μ:α->AS->Nat) (I:α->AS->Prop) (en3_l2:α->AV) (a0:α) (h0:I a0 s)
 (h:∀ a s,I a s->L56_2 env  (Inv (fun a=>[s0_l2,en3_l2 a]) μ I) (μ a s) s0_l2 (en3_l2 a) s K X) :
 ∃ I2:Nat->List AV->AS->Prop,(∃ m,I2 m [s0_l2,en3_l2 a0] s)/\∀ (m:Nat) (x0 x1:AV),∀ s,I2 m [x0,x1] s ->
 L56_2 env  I2 m x0 x1 s K X:=by
  refine ⟨Inv (fun a=>[s0_l2,en3_l2 a]) μ I,⟨_,a0,rfl,rfl,h0⟩,?_⟩
  rintro m x0 x1 s' ⟨a,hv,rfl,hI⟩
  simp only [List.cons.injEq,and_true] at hv
  obtain ⟨rfl,rfl⟩:=hv
  exact h a s' hI
def S56 (env:Env) (s0_a:AV) (s:AS) (K:AV->AS->Prop) (X:PV->AS->Prop):Prop :=
 (∃ I2:Nat->List AV->AS->Prop,(∃ m,I2 m [s0_a,(.pv (.int .i64 0))] s)/\∀ (m2:Nat) (s0_l2 n3_l2:AV),∀ s1,I2 m2 [s0_l2,n3_l2] s1 ->
 (L56_2 env I2 m2 s0_l2 n3_l2 s1 K X))
theorem S56_eq (env:Env) (s0_a:AV) (s:AS) (K:AV->AS->Prop) (X:PV->AS->Prop):S56 env s0_a s K X=bodyD prog env an56 f56 [s0_a] s K X:=by
  unfold S56
  simp only [L56_2_eq]
  kernel_rfl
theorem S56_ok:(match f56.body with | some c=>okCode an56 prog f56.ntmps c | none=>false)=true:=by kernel_rfl
def an37:An:={ mu:=[],cut:=[(6,[0,3,4,5,26]),(9,[0,3,4,5]),(12,[0,3,59])],loop:=[] }
def J37_12 (env:Env)  (s0_j12 at3_j12 t59_j12:AV) (s:AS) (K:AV->AS->Prop) (X:PV->AS->Prop):Prop :=
 (condD t59_j12
 (lock binD prog .add 3 at3_j12 (.pv (.int .i64 1)) fun t62 =>
 (lock sliceD prog 9 s0_j12 (some t62) none fun t63 =>
 (env 55 [t63] s (fun t64 s4 =>
 (lock binD prog .add 3 at3_j12 (.pv (.int .i64 1)) fun t67 =>
 (lock binD prog .add 3 t67 t64 fun t69 =>
 (lock sliceD prog 9 s0_j12 (some t69) none fun t70 =>
 (env 56 [t70] s4 (fun t71 s5 =>
 (lock binD prog .gtr 3 t71 (.pv (.int .i64 0)) fun t73 =>
 (condD t73
 (lock binD prog .add 3 (.pv (.int .i64 1)) t64 fun t76 =>
 (lock binD prog .add 3 t76 t71 fun t78 =>
 (lock binD prog .add 3 at3_j12 t78 fun t79 =>
 (retV (t79) s5 K))))
 (retV (at3_j12) s5 K)))) (panV X)))))) (panV X))))
 (retV (at3_j12) s K))
theorem J37_12_eq (env:Env)  (s0_j12 at3_j12 t59_j12:AV) (s:AS) (K:AV->AS->Prop) (X:PV->AS->Prop):J37_12 env  s0_j12 at3_j12 t59_j12 s K X=cutK (fun fr s=>wpD prog env an37 (subC (bodyC f37) [1,1,1,1,1,1,1,0,1]) (contQ prog env an37 (bodyC f37) [1,1,1,1,1,1,1,0,1] [] (rootQ prog f37 K X)) fr s) [(0,s0_j12),(3,at3_j12),(59,t59_j12)] s:=by
  unfold J37_12
  refine cutK_of ?_
  kernel_rfl
def J37_9 (env:Env)  (s0_j9 at3_j9 whole4_j9 behind5_j9:AV) (s:AS) (K:AV->AS->Prop) (X:PV->AS->Prop):Prop :=
 (lock binD prog .add 3 whole4_j9 behind5_j9 fun t42 =>
 (lock binD prog .eql 3 t42 (.pv (.int .i64 0)) fun t43 =>
 (condD t43
 (retV ((.pv (.int .i64 0))) s K)
 (lock lenD prog 9 s0_j9 fun t46 =>
 (lock binD prog .lss 3 at3_j9 t46 fun t47 =>
 (guardD t47 true
 (lock indexD prog 9 s0_j9 at3_j9 fun t51 =>
 (lock binD prog .eql 5 t51 (.pv (.int .u8 101)) fun t52 =>
 (guardD t52 false
 (lock indexD prog 9 s0_j9 at3_j9 fun t56 =>
 (lock binD prog .eql 5 t56 (.pv (.int .u8 69)) fun t57 =>
 (J37_12 env  (s0_j9) (at3_j9) (t57) s K X)))
 (J37_12 env  (s0_j9) (at3_j9) (.pv (.bool true)) s K X))))
 (J37_12 env  (s0_j9) (at3_j9) (.pv (.bool false)) s K X)))))))
theorem J37_9_eq (env:Env)  (s0_j9 at3_j9 whole4_j9 behind5_j9:AV) (s:AS) (K:AV->AS->Prop) (X:PV->AS->Prop):J37_9 env  s0_j9 at3_j9 whole4_j9 behind5_j9 s K X=cutK (fun fr s=>wpD prog env an37 (subC (bodyC f37) [1,1,1,1,1,1]) (contQ prog env an37 (bodyC f37) [1,1,1,1,1,1] [] (rootQ prog f37 K X)) fr s) [(0,s0_j9),(3,at3_j9),(4,whole4_j9),(5,behind5_j9)] s:=by
  unfold J37_9
  simp only [J37_12_eq]
  refine cutK_of ?_
  kernel_rfl
def J37_6 (env:Env)  (s0_j6 at3_j6 whole4_j6 behind5_j6 t26_j6:AV) (s:AS) (K:AV->AS->Prop) (X:PV->AS->Prop):Prop :=
 (condD t26_j6
 (lock binD prog .add 3 at3_j6 (.pv (.int .i64 1)) fun t29 =>
 (lock sliceD prog 9 s0_j6 (some t29) none fun t30 =>
 (env 56 [t30] s (fun t31 s3 =>
 (lock binD prog .add 3 whole4_j6 t31 fun t34 =>
 (lock binD prog .gtr 3 t34 (.pv (.int .i64 0)) fun t35 =>
 (condD t35
 (lock binD prog .add 3 (.pv (.int .i64 1)) t31 fun t38 =>
 (lock binD prog .add 3 at3_j6 t38 fun t39 =>
 (J37_9 env  (s0_j6) (t39) (whole4_j6) (t31) s3 K X)))
 (J37_9 env  (s0_j6) (at3_j6) (whole4_j6) (t31) s3 K X))))) (panV X))))
 (J37_9 env  (s0_j6) (at3_j6) (whole4_j6) (behind5_j6) s K X))
theorem J37_6_eq (env:Env)  (s0_j6 at3_j6 whole4_j6 behind5_j6 t26_j6:AV) (s:AS) (K:AV->AS->Prop) (X:PV->AS->Prop):J37_6 env  s0_j6 at3_j6 whole4_j6 behind5_j6 t26_j6 s K X=cutK (fun fr s=>wpD prog env an37 (subC (bodyC f37) [1,1,1,1,1,0,1]) (contQ prog env an37 (bodyC f37) [1,1,1,1,1,0,1] [] (rootQ prog f37 K X)) fr s) [(0,s0_j6),(3,at3_j6),(4,whole4_j6),(5,behind5_j6),(26,t26_j6)] s:=by
  unfold J37_6
  simp only [J37_9_eq]
  refine cutK_of ?_
  kernel_rfl
def S37 (env:Env) (s0_a:AV) (s:AS) (K:AV->AS->Prop) (X:PV->AS->Prop):Prop :=
 (env 55 [s0_a] s (fun t9 s1 =>
 (lock sliceD prog 9 s0_a (some t9) none fun t12 =>
 (env 56 [t12] s1 (fun t13 s2 =>
 (lock binD prog .add 3 t9 t13 fun t16 =>
 (lock lenD prog 9 s0_a fun t19 =>
 (lock binD prog .lss 3 t16 t19 fun t20 =>
 (guardD t20 true
 (lock indexD prog 9 s0_a t16 fun t24 =>
 (lock binD prog .eql 5 t24 (.pv (.int .u8 46)) fun t25 =>
 (J37_6 env  (s0_a) (t16) (t13) (.pv (.int .i64 0)) (t25) s2 K X)))
 (J37_6 env  (s0_a) (t16) (t13) (.pv (.int .i64 0)) (.pv (.bool false)) s2 K X)))))) (panV X)))) (panV X))
theorem S37_eq (env:Env) (s0_a:AV) (s:AS) (K:AV->AS->Prop) (X:PV->AS->Prop):S37 env s0_a s K X=bodyD prog env an37 f37 [s0_a] s K X:=by
  unfold S37
  simp only [J37_6_eq]
  kernel_rfl
theorem S37_ok:(match f37.body with | some c=>okCode an37 prog f37.ntmps c | none=>false)=true:=by kernel_rfl
def an26:An:={ mu:=[],cut:=[],loop:=[] }
def S26 (env:Env) (s0_a:AV) (s:AS) (K:AV->AS->Prop) (X:PV->AS->Prop):Prop :=
 (env 36 [s0_a,(.pv (.str [32,9,10]))] s (fun t9 s1 =>
 (env 37 [t9] s1 (fun t11 s2 =>
 (lock binD prog .eql 3 t11 (.pv (.int .i64 0)) fun t13 =>
 (condD t13
 (retV (.tuple [(.pv (.float .f64 0)),(.pv (.int .i64 0))]) s2 K)
 (lock sliceD prog 9 t9 none (some t11) fun t17 =>
 (env 38 [t17,(.pv (.int .i64 64))] s2 (fun t18 s3 =>
 (lock extractD t18 0 fun t19 =>
 (lock extractD t18 1 fun t20 =>
 (lock lenD prog 9 s0_a fun t23 =>
 (lock lenD prog 9 t9 fun t25 =>
 (lock binD prog .sub 3 t23 t25 fun t26 =>
 (lock binD prog .add 3 t26 t11 fun t28 =>
 (retV (.tuple [t19,t28]) s3 K)))))))) (panV X)))))) (panV X))) (panV X))
theorem S26_eq (env:Env) (s0_a:AV) (s:AS) (K:AV->AS->Prop) (X:PV->AS->Prop):S26 env s0_a s K X=bodyD prog env an26 f26 [s0_a] s K X:=by
  unfold S26
  kernel_rfl
theorem S26_ok:(match f26.body with | some c=>okCode an26 prog f26.ntmps c | none=>false)=true:=by kernel_rfl
def an33:An:={ mu:=[],cut:=[],loop:=[] }
def S33 (env:Env) (s0_a:AV) (s:AS) (K:AV->AS->Prop) (X:PV->AS->Prop):Prop :=
 (env 26 [s0_a] s (fun t7 s1 =>
 (lock extractD t7 0 fun t8 =>
 (lock extractD t7 1 fun t9 =>
 (lock binD prog .gtr 3 t9 (.pv (.int .i64 0)) fun t11 =>
 (guardD t11 true
 (lock sliceD prog 9 s0_a (some t9) none fun t15 =>
 (env 48 [t15,(.pv (.str [32,9,10]))] s1 (fun t16 s2 =>
 (lock binD prog .eql 9 t16 (.pv (.str [])) fun t17 =>
 (retV (t17) s2 K))) (panV X)))
 (retV ((.pv (.bool false))) s1 K)))))) (panV X))
theorem S33_eq (env:Env) (s0_a:AV) (s:AS) (K:AV->AS->Prop) (X:PV->AS->Prop):S33 env s0_a s K X=bodyD prog env an33 f33 [s0_a] s K X:=by
  unfold S33
  kernel_rfl
theorem S33_ok:(match f33.body with | some c=>okCode an33 prog f33.ntmps c | none=>false)=true:=by kernel_rfl
end Go.AD

set_option linter.unusedVariables false
set_option linter.unusedSimpArgs false
set_option maxRecDepth 100000
namespace Go.AD.Fl
open Go.Proofs RowKit Go.AD.Fp
def abOf (l : List Nat) : List AV := (List.range 256).map fun i => bo (l.contains i)
theorem abOf_len (l : List Nat) : (abOf l).length = 256 := by simp [abOf]
theorem abOf_get {l : List Nat} {i : Nat} (h : i < 256) : (abOf l)[i]? = some (bo (l.contains i)) := by
  unfold abOf
  rw [List.getElem?_map, List.getElem?_range h]; rfl
theorem abOf_set {l : List Nat} {c : Nat} (h : c < 256) : (abOf l).set c (bo true) = abOf (c :: l) := by
  apply List.ext_getElem?
  intro i
  rcases Nat.lt_or_ge i 256 with g | g
  · by_cases e : c = i
    · subst e
      rw [List.getElem?_set_self (by rw [abOf_len]; exact g), abOf_get g]
      simp
    · rw [List.getElem?_set_ne e, abOf_get g, abOf_get g]
      have : (c :: l).contains i = l.contains i := by
        rw [List.contains_cons]
        have : (i == c) = false := by simp; omega
        rw [this, Bool.false_or]
      rw [this]
  · rw [List.getElem?_eq_none (by rw [List.length_set, abOf_len]; exact g), List.getElem?_eq_none (by rw [abOf_len]; exact g)]
theorem setAll_full : ∀ (vs pre rest : List AV), rest.length = vs.length -> setAll (pre ++ rest) pre.length vs = pre ++ vs
  | [], pre, rest, h => by
    have : rest = [] := List.length_eq_zero_iff.1 h
    rw [this]; rfl
  | v :: vs, pre, rest, h => by
    obtain ⟨x, r, rfl⟩ : ∃ x r, rest = x :: r := by
      cases rest with
      | nil => simp at h
      | cons x r => exact ⟨x, r, rfl⟩
    have ih := setAll_full vs (pre ++ [v]) r (by simpa using h)
    rw [setAll]
    rw [List.set_append_right _ _ (Nat.le_refl _), Nat.sub_self, List.set_cons_zero]
    rw [List.length_append, List.length_singleton, List.append_assoc, List.append_assoc] at ih
    exact ih
theorem zeroSet : zeroOf PS 91 = some (abOf []) := by kernel_rfl
abbrev blanks : Bytes := [32, 9, 10]
abbrev bSet : List AV := abOf [10, 9, 32]
section
variable {env : Env} {args : List AV} {σ0 σ τ : AS} {K : AV -> AS -> Prop} {X : PV -> AS -> Prop}
theorem unSet : PS.underlying 91 = some (.array 256 4) := by kernel_rfl
theorem ixSet {a i : Nat} {kk : IntKind} {Q : AV -> Prop} (hi : i < 256) : indexAddrD PS 91 (.addr a 0) (.pv (.int kk (i : Int))) Q = Q (.addr a i) := by
  simp only [indexAddrD, unSet, T.sz4, Nat.mul_one, Int.toNat_natCast, Nat.zero_add]
  exact propext ⟨fun h => h.2.2.2, fun h => ⟨by kernel_rfl, by omega, by omega, h⟩⟩
theorem ldSet {a : Nat} {l : List Nat} {mk : Option TypeId} {Q : AV -> Prop} (hg : σ a = some (.cells (abOf l) mk)) : loadD PS σ 91 (.addr a 0) Q = Q (.agg (abOf l)) := by
  rw [load_addrA T.hT91 T.ag91 hg, T.sz91, List.drop_zero, List.take_of_length_le (by rw [abOf_len]; exact Nat.le_refl _)]
  exact propext ⟨fun h => h.2, fun h => ⟨by rw [abOf_len]; exact Nat.le_refl _, h⟩⟩
theorem stSet {a : Nat} {l l' : List Nat} {mk : Option TypeId} {Q : AS -> Prop} (hg : σ a = some (.cells (abOf l) mk)) (ho : (abOf l').all AV.cellOk = true) : storeD PS σ 91 (.addr a 0) (.agg (abOf l')) Q = Q (σ.set a (.cells (abOf l') mk)) := by
  rw [store_addr (v := .agg (abOf l')) T.hT91 (by rw [T.sz91]; exact abOf_len l') ho hg]
  have e := setAll_full (abOf l') [] (abOf l) (by rw [abOf_len, abOf_len])
  rw [List.nil_append, List.length_nil, List.nil_append] at e
  show (0 + (abOf l').length <= (abOf l).length /\ Q (σ.set a (.cells (setAll (abOf l) 0 (abOf l')) mk))) = _
  rw [e]
  exact propext ⟨fun h => h.2, fun h => ⟨by rw [abOf_len, abOf_len]; exact Nat.le_refl _, h⟩⟩
theorem abOf_ok (l : List Nat) : (abOf l).all AV.cellOk = true := by
  rw [List.all_eq_true]
  intro v hv
  obtain ⟨x, _, rfl⟩ := List.mem_map.1 hv
  rfl
def doneL : Nat -> List Nat
  | 0 => []
  | 1 => [32]
  | 2 => [9, 32]
  | _ => [10, 9, 32]
def T_tMake : Tr := fun args σ K _ => args = [st blanks] /\ K (.tuple [.agg bSet, bo true]) σ
theorem T_tMake_ok (h : T_tMake args σ K X) : bodyD PS env an52 Tryz.f52 args σ K X := by
  obtain ⟨rfl, hK⟩ := h
  rw [<- S52_eq env, S52]
  simp only [lock_eq]
  refine alloc_of zeroSet (abOf_ok _) fun a ha => ?_
  refine lp52_2 (α := Nat) (fun i _ => 3 - i) (fun i τ => i <= 3 /\ τ = σ.set a (.cells (abOf (doneL i)) (some 91))) (fun i => i64 (i : Int)) 0 ⟨by decide, rfl⟩ ?_
  rintro i τ ⟨hi, rfl⟩
  have hg : (σ.set a (.cells (abOf (doneL i)) (some 91))) a = some (.cells (abOf (doneL i)) (some 91)) := set_same _ _ _
  have hsub := fun l => sub_set (AObj.cells (abOf l) (some 91)) ha
  unfold L52_2
  simp only [lock_eq, T.ls9, bin_lss, cond_bool]
  refine iteI (fun g => ?_) (fun g => ?_)
  · have g : i < 3 := by
      have := of_decide_eq_true g
      simp at this; omega
    have hv : ∃ c, blanks.getD i 0 = c /\ c.toNat < 128 /\ abOf (c.toNat :: doneL i) = abOf (doneL (i + 1)) := by
      have : i = 0 \/ i = 1 \/ i = 2 := by omega
      rcases this with rfl | rfl | rfl
      · exact ⟨32, rfl, by decide, rfl⟩
      · exact ⟨9, rfl, by decide, rfl⟩
      · exact ⟨10, rfl, by decide, rfl⟩
    obtain ⟨c, hc, hlt, hn⟩ := hv
    rw [T.is9 (by simp; omega), hc, bin_geq, cond_bool, if_neg (nod (by omega)), ixSet (by omega), T.stp4, hg, stM_cells]
    refine ⟨by rw [abOf_len]; omega, ?_⟩
    rw [set_set, abOf_set (by omega), hn, bin_add, wrap64 (by omega) (by omega)]
    exact back (i + 1) rfl (by omega) ⟨g, rfl⟩
  · have g : i = 3 := by
      have : ¬ ((i : Int) < ((blanks.length : Nat) : Int)) := fun e => g (decide_eq_true e)
      simp at this; omega
    subst g
    rw [ldSet hg, stSet hg (abOf_ok _)]
    have hg2 : ((σ.set a (.cells (abOf (doneL 3)) (some 91))).set a (.cells (abOf (doneL 3)) (some 91))) a = some (.cells (abOf (doneL 3)) (some 91)) := set_same _ _ _
    rw [ldSet hg2, set_set]
    exact retV_sub (hsub _) hK
def T_tHas : Tr := fun args σ K _ => ∃ (a : Nat) (mk : Option TypeId) (c : UInt8), args = [.addr a 0, u8a c.toNat] /\ σ a = some (.cells bSet mk) /\ K (bo (blankB c)) σ
theorem blank_set (c : UInt8) : [10, 9, 32].contains c.toNat = blankB c := by
  have h : ∀ n : Nat, ∀ x : UInt8, x.toNat = n -> ((c.toNat == n) = (c == x)) := by
    intro n x hx
    rw [Bool.eq_iff_iff, beq_iff_eq, beq_iff_eq, <- hx]
    exact UInt8.toNat_inj
  unfold blankB
  rw [List.contains_cons, List.contains_cons, List.contains_cons, List.contains_nil, h 10 10 rfl, h 9 9 rfl, h 32 32 rfl]
  cases (c == 10) <;> cases (c == 9) <;> cases (c == 32) <;> rfl
theorem T_tHas_ok (h : T_tHas args σ K X) : bodyD PS env an82 Tryz.f82 args σ K X := by
  obtain ⟨a, mk, c, rfl, ha, hK⟩ := h
  have hc := c.toNat_lt
  rw [<- S82_eq env, S82]
  simp only [lock_eq, nil_addr]
  rw [ixSet (by omega), T.ld4, ha, ldM_cells, abOf_get (by omega), someEx, blank_set]
  exact retV_self hK
def T_tLeftA : Tr := fun args σ K _ => ∃ (a : Nat) (mk : Option TypeId) (s : Bytes), args = [st s, .addr a 0] /\ σ a = some (.cells bSet mk) /\ s.length <= 100000 /\ K (st (trimL s)) σ
theorem T_tLeftA_ok (hH : env 82 = T_tHas) (h : T_tLeftA args σ K X) : bodyD PS env an53 Tryz.f53 args σ K X := by
  obtain ⟨a, mk, s, rfl, ha, hs, hK⟩ := h
  rw [<- S53_eq env, S53]
  refine lp53_1 (α := Bytes) (fun t _ => t.length) (fun t τ => trimL t = trimL s /\ τ = σ) (fun t => st t) s ⟨rfl, rfl⟩ ?_
  rintro t τ ⟨ht, hτ⟩
  obtain rfl := hτ.symm
  unfold L53_1
  simp only [lock_eq, T.ls9, bin_gtr, cond_bool]
  cases t with
  | nil =>
    rw [if_neg (by decide)]
    rw [<- ht] at hK
    exact retV_self hK
  | cons c t =>
    rw [if_pos (decide_eq_true (by simp only [List.length_cons]; omega)), show (AV.pv (.int .i64 0)) = i64 ((0 : Nat) : Int) from rfl, T.is9 (by simp), List.getD_cons_zero, hH]
    refine ⟨a, mk, c, rfl, ha, ?_⟩
    simp only [un_not, cond_bool]
    have e : trimL (c :: t) = if blankB c = true then trimL t else c :: t := by unfold trimL; rw [List.dropWhile_cons]
    refine iteI (fun g => ?_) (fun g => ?_)
    · have g : ¬ blankB c = true := by simpa using g
      rw [<- ht, e, if_neg g] at hK
      exact retV_self hK
    · have g : blankB c = true := by simpa using g
      rw [e, if_pos g] at ht
      rw [show (AV.pv (.int .i64 1)) = i64 ((1 : Nat) : Int) from rfl, T.ss9 (by simp), List.drop_one, List.tail_cons]
      exact back t rfl (by simp) ⟨ht, rfl⟩
def trimR (s : Bytes) : Bytes := (s.reverse.dropWhile blankB).reverse
theorem trimR_snoc (s : Bytes) (c : UInt8) : trimR (s ++ [c]) = if blankB c = true then trimR s else s ++ [c] := by
  unfold trimR
  rw [List.reverse_append, List.reverse_singleton, List.singleton_append, List.dropWhile_cons]
  split
  · rfl
  · rw [List.reverse_cons, List.reverse_reverse]
def T_tRightA : Tr := fun args σ K _ => ∃ (a : Nat) (mk : Option TypeId) (s : Bytes), args = [st s, .addr a 0] /\ σ a = some (.cells bSet mk) /\ s.length <= 100000 /\ K (st (trimR s)) σ
theorem T_tRightA_ok (hH : env 82 = T_tHas) (h : T_tRightA args σ K X) : bodyD PS env an77 Tryz.f77 args σ K X := by
  obtain ⟨a, mk, s, rfl, ha, hs, hK⟩ := h
  rw [<- S77_eq env, S77]
  refine lp77_1 (α := Bytes) (fun t _ => t.length) (fun t τ => trimR t = trimR s /\ t.length <= 100000 /\ τ = σ) (fun t => st t) s ⟨rfl, hs, rfl⟩ ?_
  rintro t τ ⟨ht, htl, hτ⟩
  obtain rfl := hτ.symm
  unfold L77_1
  simp only [lock_eq, T.ls9, bin_gtr, cond_bool]
  rcases List.eq_nil_or_concat t with rfl | ⟨u, c, rfl⟩
  · rw [if_neg (by decide)]
    rw [<- ht] at hK
    exact retV_self hK
  · rw [List.concat_eq_append] at *
    rw [List.length_append, List.length_singleton] at *
    rw [if_pos (decide_eq_true (by omega)), bin_sub, wrap64 (by omega) (by omega), show (((u.length + 1 : Nat) : Int) - 1) = ((u.length : Nat) : Int) by omega, T.is9 (by simp)]
    have hg : (u ++ [c]).getD u.length 0 = c := by
      rw [List.getD_eq_getElem?_getD, List.getElem?_append_right (Nat.le_refl _), Nat.sub_self]; rfl
    rw [hg, hH]
    refine ⟨a, mk, c, rfl, ha, ?_⟩
    simp only [un_not, cond_bool]
    have e := trimR_snoc u c
    refine iteI (fun g => ?_) (fun g => ?_)
    · have g : ¬ blankB c = true := by simpa using g
      rw [<- ht, e, if_neg g] at hK
      exact retV_self hK
    · have g : blankB c = true := by simpa using g
      rw [e, if_pos g] at ht
      rw [bin_sub, wrap64 (by omega) (by omega), show (((u.length + 1 : Nat) : Int) - 1) = ((u.length : Nat) : Int) by omega, T.st9 (by simp), List.take_left' rfl]
      exact back u rfl (by omega) ⟨ht, by omega, rfl⟩
def T_tTrimLeft : Tr := fun args σ K _ => ∃ s : Bytes, args = [st s, st blanks] /\ s.length <= 100000 /\ K (st (trimL s)) σ
theorem T_tTrimLeft_ok (hM : env 52 = T_tMake) (hL : env 53 = T_tLeftA) (h : T_tTrimLeft args σ K X) : bodyD PS env an36 Tryz.f36 args σ K X := by
  obtain ⟨s, rfl, hs, hK⟩ := h
  rw [<- S36_eq env, S36]
  simp only [lock_eq, bin_seql, guard_false, cond_bool]
  refine iteI (fun g => ?_) (fun g => ?_)
  · have g : s = [] := by simpa using g
    subst g
    exact retV_self hK
  rw [if_neg (by decide)]
  unfold J36_3
  simp only [lock_eq, T.ls9, bin_eql, guard_true]
  rw [if_neg (by decide)]
  unfold J36_4
  simp only [lock_eq, cond_bool]
  rw [if_neg (by decide), hM]
  refine ⟨rfl, ?_⟩
  simp only [ext0, ext1]
  refine alloc_of zeroSet (abOf_ok _) fun a ha => ?_
  rw [stSet (set_same _ _ _) (abOf_ok _), set_set, cond_bool, if_pos rfl, hL]
  exact ⟨a, _, s, rfl, set_same _ _ _, hs, retV_sub (sub_set _ ha) hK⟩
def T_tTrim : Tr := fun args σ K _ => ∃ s : Bytes, args = [st s, st blanks] /\ s.length <= 100000 /\ K (st (trimL (trimR s))) σ
theorem trimR_len (s : Bytes) : (trimR s).length <= s.length := by
  have := trimL_len s.reverse
  unfold trimL at this
  unfold trimR
  rw [List.length_reverse]
  rw [List.length_reverse] at this
  exact this
theorem T_tTrim_ok (hM : env 52 = T_tMake) (hL : env 53 = T_tLeftA) (hR : env 77 = T_tRightA) (h : T_tTrim args σ K X) : bodyD PS env an48 Tryz.f48 args σ K X := by
  obtain ⟨s, rfl, hs, hK⟩ := h
  rw [<- S48_eq env, S48]
  simp only [lock_eq, bin_seql, guard_false, cond_bool]
  refine iteI (fun g => ?_) (fun g => ?_)
  · have g : s = [] := by simpa using g
    subst g
    exact retV_self hK
  rw [if_neg (by decide)]
  unfold J48_3
  simp only [lock_eq, T.ls9, bin_eql, guard_true]
  rw [if_neg (by decide)]
  unfold J48_4
  simp only [lock_eq, cond_bool]
  rw [if_neg (by decide), hM]
  refine ⟨rfl, ?_⟩
  simp only [ext0, ext1]
  refine alloc_of zeroSet (abOf_ok _) fun a ha => ?_
  rw [stSet (set_same _ _ _) (abOf_ok _), set_set, cond_bool, if_pos rfl, hR]
  refine ⟨a, _, s, rfl, set_same _ _ _, hs, ?_⟩
  rw [hL]
  have := trimR_len s
  exact ⟨a, _, trimR s, rfl, set_same _ _ _, by omega, retV_sub (sub_set _ ha) hK⟩
theorem trim_nil (s : Bytes) : trimL (trimR s) = [] ↔ s.all blankB = true := by
  have key : ∀ m : Bytes, m.dropWhile blankB = [] ↔ m.all blankB = true := by
    intro m
    induction m with
    | nil => simp
    | cons c m ih =>
      rw [List.dropWhile_cons, List.all_cons]
      by_cases h : blankB c = true
      · rw [if_pos h, ih, h, Bool.true_and]
      · rw [if_neg h]; simp [h]
  unfold trimL
  rw [key]
  constructor
  · intro h
    unfold trimR at h
    rw [List.all_reverse] at h
    have h2 : s.reverse.dropWhile blankB = [] := by
      cases e : s.reverse.dropWhile blankB with
      | nil => rfl
      | cons c r =>
        exfalso
        rw [e, List.all_cons, Bool.and_eq_true] at h
        have : ∀ (m : Bytes), m.dropWhile blankB = c :: r -> blankB c = false := by
          intro m
          induction m with
          | nil => intro h; cases h
          | cons x m ih =>
            intro hx
            rw [List.dropWhile_cons] at hx
            split at hx
            · exact ih hx
            · rename_i hb
              cases hx
              simpa using hb
        rw [this _ e] at h
        cases h.1
    have := (key _).1 h2
    rwa [List.all_reverse] at this
  · intro h
    have h2 : s.reverse.dropWhile blankB = [] := (key _).2 (by rw [List.all_reverse]; exact h)
    unfold trimR
    rw [h2]; rfl
end
end Go.AD.Fl
