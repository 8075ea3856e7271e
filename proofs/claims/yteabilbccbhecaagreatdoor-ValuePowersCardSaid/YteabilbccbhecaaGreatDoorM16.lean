import Derived.Test.YteabilbccbhecaaGreatDoorM14
import Derived.Test.YteabilbccbhecaaGreatDoorG4
set_option linter.unusedVariables false
set_option linter.unusedSimpArgs false
set_option maxRecDepth 100000
namespace Go.AD.Fl
open Go.Proofs RowKit Go.AD.Fp
theorem andS {P : Program} {t : TypeId} {a b : Nat} (ha : a < 9223372036854775808) (hb : b < 9223372036854775808) {Q : AV -> Prop} : binD P .and t (i64 (a : Int)) (i64 (b : Int)) Q = Q (i64 ((a &&& b : Nat) : Int)) := by
  rw [bin_and]
  have e : (BitVec.ofInt 64 (a : Int) &&& BitVec.ofInt 64 (b : Int)).toNat = a &&& b := by
    rw [bv64, bv64, BitVec.toNat_and, BitVec.toNat_ofNat, BitVec.toNat_ofNat, Nat.mod_eq_of_lt (by omega), Nat.mod_eq_of_lt (by omega)]
  show Q (.pv (.int .i64 (IntKind.wrap .i64 ((BitVec.ofInt 64 (a : Int) &&& BitVec.ofInt 64 (b : Int)).toNat : Int)))) = _
  have h2 : a &&& b <= a := Nat.and_le_left
  rw [e, wrap64 (by omega) (by omega)]
section
variable {σ : AS} {Q : AV -> Prop}
theorem fi0 : fieldAddrD PS 171 (.glob 7 0) 0 Q = Q (.glob 7 0) := fa_glob (o := 0) (u := 108) (by kernel_rfl) T.hT108 T.sz108
theorem fi1 : fieldAddrD PS 171 (.glob 7 0) 1 Q = Q (.glob 7 1) := fa_glob (o := 1) (u := 108) (by kernel_rfl) T.hT108 T.sz108
theorem fi2 : fieldAddrD PS 171 (.glob 7 0) 2 Q = Q (.glob 7 2) := fa_glob (o := 2) (u := 3) (by kernel_rfl) T.hT3 T.sz3
theorem li0 : loadD PS σ 108 (.glob 7 0) Q = Q (u64 52) := by rw [ld_glob T.hT108 T.ag108 g_finfo]; simp; exact Iff.rfl
theorem li1 : loadD PS σ 108 (.glob 7 1) Q = Q (u64 11) := by rw [ld_glob T.hT108 T.ag108 g_finfo]; simp; exact Iff.rfl
theorem li2 : loadD PS σ 3 (.glob 7 2) Q = Q (i64 (-1023)) := by rw [ld_glob T.hT3 T.ag3 g_finfo]; simp
theorem shl11 {P : Program} {t : TypeId} : binD P .shl t (.pv (.int .i64 1)) (u64 11) Q = Q (i64 2048) := by
  rw [bin_shl]
  exact propext ⟨fun h => h.2, fun h => ⟨by omega, h⟩⟩
theorem shl52 {P : Program} {t : TypeId} : binD P .shl t (.pv (.int .u64 1)) (u64 52) Q = Q (u64 (2 ^ 52)) := shlI (y := 52) 1 52 rfl (by decide)
theorem shl53 {P : Program} {t : TypeId} : binD P .shl t (.pv (.int .u64 2)) (u64 52) Q = Q (u64 (2 ^ 53)) := shlI (y := 52) 2 52 rfl (by decide)
theorem shl63 {P : Program} {t : TypeId} : binD P .shl t (u64 (2 ^ 52)) (u64 11) Q = Q (u64 (2 ^ 63)) := shlI (y := 11) (2 ^ 52) 11 rfl (by decide)
theorem g_powtab : known PS 11 = some [.lst 9 (i64n [1, 3, 6, 9, 13, 16, 19, 23, 26])] := g_known (s := "internal/strconv.powtab") (by kernel_rfl) rfl
theorem ld_pt : loadD PS σ 85 (.glob 11 0) Q = Q (.pv (.lst 9 (i64n [1, 3, 6, 9, 13, 16, 19, 23, 26]))) := by
  rw [ld_glob T.hT85 T.ag85 g_powtab]; simp
theorem ix_pt {i : Nat} (h : i < 9) : indexAddrD PS 85 (.pv (.lst 9 (i64n [1, 3, 6, 9, 13, 16, 19, 23, 26]))) (i64 (i : Int)) Q = Q (.elemP (i64n [1, 3, 6, 9, 13, 16, 19, 23, 26]) (i * 1)) := T.ixl85 h rfl
theorem le_pt {i : Nat} (h : i < 9) : loadD PS σ 3 (.elemP (i64n [1, 3, 6, 9, 13, 16, 19, 23, 26]) (i * 1)) Q = Q (i64 ((pt i : Nat) : Int)) := by
  rw [T.le3]
  have : i = 0 \/ i = 1 \/ i = 2 \/ i = 3 \/ i = 4 \/ i = 5 \/ i = 6 \/ i = 7 \/ i = 8 := by omega
  rcases this with rfl | rfl | rfl | rfl | rfl | rfl | rfl | rfl | rfl <;> simp [i64n, pt]
theorem pt_big {i : Nat} (h : 9 <= i) : pt i = 27 := if_pos h
end
theorem pack_le {A B : Nat} {s1 s : Int} (hB : 0 < B) (h2 : A * 2 ^ s1.toNat < B * 2 ^ (-s1).toNat) (hs : s = min (s1 + 53) 1074) : rne (A * 2 ^ s.toNat) (B * 2 ^ (-s).toNat) <= 2 ^ 53 := by
  refine rne_le (Nat.mul_pos hB (two_pos _)) ?_
  rw [Nat.mul_comm (2 ^ 53), Nat.mul_assoc, pw]
  have h3 : A * 2 ^ (s1 + 53).toNat <= B * 2 ^ ((-(s1 + 53)).toNat + 53) := lepow (Nat.le_of_lt h2) (by omega)
  rcases (show s = s1 + 53 \/ s < s1 + 53 /\ 0 <= s by omega) with g | ⟨g, g2⟩
  · rw [g]; exact h3
  · refine Nat.le_trans (Nat.mul_le_mul_left A (Nat.pow_le_pow_right (by decide) (show s.toNat <= (s1 + 53).toNat by omega))) (Nat.le_trans h3 ?_)
    exact Nat.mul_le_mul_left B (Nat.pow_le_pow_right (by decide) (by omega))
section
variable {env : Env} {args : List AV} {σ0 σ τ : AS} {K : AV -> AS -> Prop} {X : PV -> AS -> Prop}
def T_iBits : Tr := fun args σ K _ => ∃ (a : Nat) (b D : List Nat) (dp : Int) (neg : Bool) (mk : Option TypeId), args = [.addr a 0, .glob 7 0] /\ σ a = some (.cells (dC b D.length dp neg false) mk) /\ Dec b D /\ (D = [] \/ Nrm0 D) /\
  -1000000 <= dp /\ dp <= 1000000 /\ ∀ cs ov, K (.tuple [u64 (sg neg + rungD (n10 D) (dp - D.length)), .pv (.bool ov)]) (σ.set a (.cells cs mk))
set_option exponentiation.threshold 10000 in
theorem T_iBits_ok (hSh : env 178 = T_iShift) (hIn : env 179 = T_iInteger) (h : T_iBits args σ K X) : bodyD PS env an143 Tryz.f143 args σ K X := by
  obtain ⟨a, b0, D0, dp0, neg, mk, rfl, ha0, hD0, hDN, hd1, hd2, hK⟩ := h
  have hb0 := hD0.len
  have hle := rungD_le (n10 D0) (dp0 - D0.length)
  unfold infR at hle
  have asm : ∀ (b : List Nat) (nd dp : Int) (tr ov : Bool) (e M : Nat) (σ' : AS), σ' = σ.set a (.cells (dC b nd dp neg tr) mk) -> b.length = 800 -> e <= 2047 -> M < 2 ^ 53 -> M % 2 ^ 52 + e * 2 ^ 52 = rungD (n10 D0) (dp0 - D0.length) ->
      J143_39 env (.addr a 0) (.glob 7 0) (.pv (.bool ov)) (i64 ((e : Int) - 1023)) (u64 M) σ' K X := by
    rintro b nd dp tr ov e M σ' rfl hb he hM hv
    have hg : (σ.set a (.cells (dC b nd dp neg tr) mk)) a = some (.cells (dC b nd dp neg tr) mk) := set_same _ _ _
    unfold J143_39
    simp only [lock_eq, nil_glob, nil_addr, fi0, fi1, fi2, li0, li1, li2, T.fa181_3, Nat.zero_add, ldDneg hg hb, shl52, shl11, shl63]
    rw [show (AV.pv (.int .u64 1)) = u64 1 from rfl, subU (by decide) (by decide), andU (by omega) (by decide), Nat.and_two_pow_sub_one_eq_mod, bin_sub, wrap64 (by omega) (by omega), show ((e : Int) - 1023 - -1023) = (e : Int) by omega, bin_sub, wrap64 (by omega) (by omega), show ((2048 : Int) - 1) = ((2 ^ 11 - 1 : Nat) : Int) from rfl, andS (by omega) (by decide), Nat.and_two_pow_sub_one_eq_mod, Nat.mod_eq_of_lt (show e < 2 ^ 11 by omega), T.cv3_37, wU64n (by omega), shlU (by decide)]
    have hM' := Nat.mod_lt M (two_pos 52)
    have e1 : e * 2 ^ 52 % 18446744073709551616 = e * 2 ^ 52 := Nat.mod_eq_of_lt (by omega)
    rw [e1, orU (by omega) (by omega)]
    have e2 : M % 2 ^ 52 ||| e * 2 ^ 52 = rungD (n10 D0) (dp0 - D0.length) := by
      rw [Nat.or_comm, Nat.mul_comm, or_high hM', <- hv]; omega
    rw [e2, cond_bool]
    cases neg with
    | false =>
      rw [if_neg (by decide)]
      have := hK (dC b nd dp false tr) ov
      rw [show sg false = 0 from rfl, Nat.zero_add] at this
      exact retV_self this
    | true =>
      rw [if_pos rfl, orU (by omega) (by decide), Nat.or_comm, show (2 : Nat) ^ 63 = 2 ^ 63 * 1 from rfl, or_high (by omega)]
      exact retV_self (hK (dC b nd dp true tr) ov)
  have zero_word : ∀ {r : Nat}, r = 0 -> (0 : Nat) % 2 ^ 52 + 0 * 2 ^ 52 = r := fun h => by rw [h]
  have fin0 : rungD (n10 D0) (dp0 - D0.length) = 0 -> J143_39 env (.addr a 0) (.glob 7 0) (.pv (.bool false)) (i64 (-1023)) (.pv (.int .u64 0)) σ K X := by
    intro h0
    exact asm b0 D0.length dp0 false false 0 0 σ (set_self ha0).symm hb0 (by decide) (by decide) (zero_word h0.symm.symm)
  have finI : ∀ (b : List Nat) (nd dp : Int) (tr : Bool), b.length = 800 -> rungD (n10 D0) (dp0 - D0.length) = infR -> J143_39 env (.addr a 0) (.glob 7 0) (.pv (.bool true)) (i64 1024) (.pv (.int .u64 0)) (σ.set a (.cells (dC b nd dp neg tr) mk)) K X := by
    intro b nd dp tr hb h0
    exact asm b nd dp tr true 2047 0 _ rfl hb (by decide) (by decide) (by rw [h0]; unfold infR; decide)
  have j37 : ∀ (b : List Nat) (nd dp : Int) (tr : Bool) (e M : Nat), b.length = 800 -> 1 <= e -> e <= 2046 -> M < 2 ^ 53 -> (if M < 2 ^ 52 then M else e * 2 ^ 52 + (M - 2 ^ 52)) = rungD (n10 D0) (dp0 - D0.length) ->
      J143_37 env (.addr a 0) (.glob 7 0) (.pv (.bool false)) (i64 ((e : Int) - 1023)) (u64 M) (σ.set a (.cells (dC b nd dp neg tr) mk)) K X := by
    intro b nd dp tr e M hb he1 he2 hM hv
    unfold J143_37
    simp only [lock_eq, nil_glob, fi0, li0, shl52]
    rw [andU (by omega) (by decide), and_bit, bin_eql]
    unfold J143_38
    simp only [lock_eq, cond_bool, nil_glob, fi2, li2]
    by_cases g : M < 2 ^ 52
    · rw [if_pos g] at hv
      rw [if_neg (show ¬ M / 2 ^ 52 % 2 = 1 by omega), if_pos (by decide)]
      exact asm b nd dp tr false 0 M _ rfl hb (by decide) hM (by rw [<- hv]; omega)
    · rw [if_neg g] at hv
      rw [if_pos (show M / 2 ^ 52 % 2 = 1 by omega), if_neg (by decide)]
      exact asm b nd dp tr false e M _ rfl hb (by omega) hM (by rw [<- hv]; omega)
  have j33 : ∀ (b : List Nat) (nd dp : Int) (tr : Bool) (e m : Nat), b.length = 800 -> 1 <= e -> e <= 2046 -> m <= 2 ^ 53 -> packB m ((e : Int) - 1023) = rungD (n10 D0) (dp0 - D0.length) ->
      J143_33 env (.addr a 0) (.glob 7 0) (.pv (.bool false)) (i64 ((e : Int) - 1023)) (u64 m) (σ.set a (.cells (dC b nd dp neg tr) mk)) K X := by
    intro b nd dp tr e m hb he1 he2 hm hv
    unfold packB at hv
    rw [if_neg (by omega)] at hv
    unfold J143_33
    simp only [lock_eq, nil_glob, fi0, li0, shl53, bin_eql]
    unfold J143_34
    simp only [lock_eq, cond_bool]
    refine iteI (fun g => ?_) (fun g => ?_)
    · have g : m = 2 ^ 53 := by
        have : (m : Int) = ((2 ^ 53 : Nat) : Int) := by simpa using g
        omega
      rw [if_pos (show m = 9007199254740992 from g)] at hv
      rw [g, shrI (y := 1) (2 ^ 53) 1 rfl (by decide)]
      unfold J143_35 J143_36
      simp only [lock_eq]
      rw [bin_add, wrap64 (by omega) (by omega), show ((e : Int) - 1023 + 1) = ((e + 1 : Nat) : Int) - 1023 by omega]
      simp only [nil_glob, fi1, fi2, li1, li2, shl11]
      rw [bin_sub, wrap64 (by omega) (by omega), bin_sub, wrap64 (by omega) (by omega), bin_geq, cond_bool]
      refine iteI (fun g2 => ?_) (fun g2 => ?_)
      · have g2 : e = 2046 := by
          have := of_decide_eq_true g2
          omega
        rw [if_pos (by omega)] at hv
        have hI := finI b nd dp tr hb hv.symm
        unfold J143_39 at hI
        simp only [lock_eq, nil_glob, fi0, fi1, fi2, li0, li1, li2, shl11] at hI
        simp only [fi0, li0]
        rw [bin_sub, wrap64 (by omega) (by omega), bin_add, wrap64 (by omega) (by omega)]
        exact hI
      · have g2 : e < 2046 := by
          have : ¬ (((e + 1 : Nat) : Int) - 1023 - -1023 ≥ 2048 - 1) := fun e => g2 (decide_eq_true e)
          omega
        rw [if_neg (by omega)] at hv
        rw [show (2 : Nat) ^ 53 / 2 ^ 1 = 2 ^ 52 by decide +kernel]
        refine j37 b nd dp tr (e + 1) (2 ^ 52) hb (by omega) (by omega) (by decide) ?_
        rw [if_neg (Nat.lt_irrefl _), <- hv, Nat.sub_self, Nat.add_zero, show ((e : Int) - 1023 + 1 + 1023).toNat = e + 1 by omega]
    · have g : m ≠ 2 ^ 53 := by
        intro e; rw [e] at g; exact g (by decide)
      rw [if_neg (show ¬ m = 9007199254740992 from g)] at hv
      refine j37 b nd dp tr e m hb he1 he2 (by omega) ?_
      rw [<- hv, show ((e : Int) - 1023 + 1023).toNat = e by omega]
  rw [<- S143_eq env, S143]
  unfold J143_1 J143_2 J143_3
  simp only [lock_eq, nil_addr, T.fa181_1, Nat.zero_add, ldDnd ha0 hb0, bin_eql]
  unfold J143_4
  simp only [lock_eq, cond_bool]
  refine iteI (fun g => ?_) (fun g => ?_)
  · have g : D0 = [] := by
      have : (D0.length : Int) = 0 := by simpa using g
      exact List.length_eq_zero_iff.1 (by omega)
    have h0 := fin0 (by rw [g, n10_nil]; exact rungD_zero_d _)
    unfold J143_5
    unfold J143_39 at h0
    simp only [lock_eq, nil_glob, fi2, li2] at h0 ⊢
    exact h0
  have hne : D0 ≠ [] := fun e => g (by rw [e]; rfl)
  have hN : Nrm0 D0 := hDN.resolve_left hne
  have hf := hN.few
  unfold J143_6
  simp only [lock_eq, nil_addr, T.fa181_2, Nat.zero_add, ldDdp ha0 hb0, bin_gtr, cond_bool]
  refine iteI (fun g => ?_) (fun g => ?_)
  · have g : 310 < dp0 := of_decide_eq_true g
    have hI := finI b0 D0.length dp0 false hb0 (slow_huge hN g)
    rw [set_self ha0] at hI
    unfold J143_39 at hI
    simp only [lock_eq, nil_glob, nil_addr, fi0, fi1, fi2, li0, li1, li2, shl11] at hI ⊢
    rw [bin_sub, wrap64 (by omega) (by omega), bin_add, wrap64 (by omega) (by omega)]
    exact hI
  have g : dp0 <= 310 := by
    have : ¬ dp0 > 310 := fun e => g (decide_eq_true e)
    omega
  unfold J143_7
  simp only [lock_eq, nil_addr, T.fa181_2, Nat.zero_add, ldDdp ha0 hb0, bin_lss]
  unfold J143_8
  simp only [lock_eq, cond_bool]
  refine iteI (fun g2 => ?_) (fun g2 => ?_)
  · have g2 : dp0 < -330 := of_decide_eq_true g2
    have h0 := fin0 (slow_tiny hN.dg g2)
    unfold J143_9
    unfold J143_39 at h0
    simp only [lock_eq, nil_glob, fi2, li2] at h0 ⊢
    exact h0
  have g2 : -330 <= dp0 := by
    have : ¬ dp0 < -330 := fun e => g2 (decide_eq_true e)
    omega
  have hA := sc_dvd (dp := dp0) hf g2
  have hA1 := sc_6310 hN (dp := dp0) (by omega) g
  have hrun := rungD_sc (D := D0) (dp := dp0) (by omega)
  obtain ⟨A0, hA0⟩ : ∃ A0, A0 = sc D0 dp0 := ⟨_, rfl⟩
  rw [<- hA0] at hA hA1 hrun
  have j25 : ∀ (b D : List Nat) (tr : Bool) (s C : Int), Dec b D -> Fp.Inv A0 D 0 tr s C -> 5 <= D.getD 0 0 -> UpOk A0 C -> s <= C -> -1100 <= s -> C <= s + 800 ->
      J143_25 env (.addr a 0) (.glob 7 0) (.pv (.bool false)) (i64 (-s)) (σ.set a (.cells (dC b D.length 0 neg tr) mk)) K X := by
    intro b D tr s C hD hI hdig hU hsC hs1 hC
    have hhi := hI.high (by omega) (Int.le_refl 0) hsC
    have hha := hI.half hdig
    obtain ⟨u1, u2, u3⟩ := hU s hhi
    obtain ⟨s2, hs2⟩ : ∃ s2, s2 = min s 1021 := ⟨_, rfl⟩
    have j30 : ∀ (b D : List Nat) (dp : Int) (tr : Bool), Dec b D -> Fp.Inv A0 D dp tr s2 (min C 1500) -> -40 <= dp -> dp <= 0 ->
        J143_30 env (.addr a 0) (.glob 7 0) (.pv (.bool false)) (i64 (-s2 - 1)) (σ.set a (.cells (dC b D.length dp neg tr) mk)) K X := by
      intro b D dp tr hD hI hp1 hp2
      have hb := hD.len
      have hg : (σ.set a (.cells (dC b D.length dp neg tr) mk)) a = some (.cells (dC b D.length dp neg tr) mk) := set_same _ _ _
      have hpk := packB_eq (A := A0) (B := e6000) (s1 := s) (s := min (s + 53) 1074) e6000_pos hha hhi rfl
      have hexp : max (-s - 1) (-1022) = -s2 - 1 := by omega
      rw [hexp, <- hrun] at hpk
      have hml := pack_le (A := A0) (B := e6000) (s1 := s) (s := min (s + 53) 1074) e6000_pos hhi rfl
      unfold J143_30
      simp only [lock_eq, nil_glob, fi1, fi2, li1, li2, shl11]
      rw [bin_sub, wrap64 (by omega) (by omega), bin_sub, wrap64 (by omega) (by omega), bin_geq, cond_bool]
      refine iteI (fun g => ?_) (fun g => ?_)
      · have g := of_decide_eq_true g
        unfold packB at hpk
        rw [if_pos (by omega)] at hpk
        have hIn := finI b D.length dp tr hb hpk.symm
        unfold J143_39 at hIn
        simp only [lock_eq, nil_glob, fi0, fi1, fi2, li0, li1, li2, shl11] at hIn
        simp only [fi0, li0]
        rw [bin_sub, wrap64 (by omega) (by omega), bin_add, wrap64 (by omega) (by omega)]
        exact hIn
      · have g : ¬ (-s2 - 1 - -1023 ≥ 2048 - 1) := fun e => g (decide_eq_true e)
        unfold J143_31
        simp only [lock_eq, nil_glob, fi0, li0]
        rw [show (AV.pv (.int .u64 1)) = u64 1 from rfl, addU (by decide), T.cv108_3, show IntKind.wrap .i64 ((1 + 52 : Nat) : Int) = 53 from by decide, hSh]
        refine ⟨a, b, D, dp, neg, tr, mk, 53, A0, s2, min C 1500, rfl, hg, hD, hI, hA, by omega, by omega, by omega, by omega, by omega, by omega, by omega, ?_⟩
        intro b3 D3 dp3 tr3 hD3 hN3 hI3 hP3
        obtain ⟨p1, p2, p3, p4⟩ := hP3
        have hm := hI3.round (by omega)
        have hdp3 : dp3 <= 16 := by
          have q := hI.nrm.sc_lt (dp := dp) (by omega)
          have q2 : 10 ^ (dp + 6000).toNat <= 10 ^ 6000 := Nat.pow_le_pow_right (by decide) (by omega)
          rw [show (-53 : Int).toNat = 0 from rfl, Nat.pow_zero, Nat.mul_one, show (53 : Int).toNat = 53 from rfl] at p1
          have q3 : sc D dp * 2 ^ 53 < 10 ^ 6016 := by
            have a1 : sc D dp * 2 ^ 53 < 10 ^ 6000 * 2 ^ 53 := Nat.mul_lt_mul_of_pos_right (by omega) (two_pos 53)
            have a2 : 10 ^ 6000 * 2 ^ 53 <= 10 ^ 6000 * 10 ^ 16 := Nat.mul_le_mul_left _ (by decide)
            rw [tw] at a2
            exact Nat.lt_of_lt_of_le a1 a2
          have := dp_le hN3.toNrm0 (by omega) p1 q3
          omega
        rw [show s2 + 53 = min (s + 53) 1074 by omega] at hm
        rw [set_set]
        unfold J143_32
        rw [hIn]
        refine ⟨a, b3, D3, dp3, neg, tr3, mk, rfl, set_same _ _ _, hD3, hN3, by omega, by omega, ?_⟩
        rw [hm]
        obtain ⟨e, he⟩ : ∃ e : Nat, -s2 - 1 = (e : Int) - 1023 := ⟨(-s2 - 1 + 1023).toNat, by omega⟩
        rw [he] at hpk ⊢
        exact j33 b3 D3.length dp3 tr3 e _ hD3.len (by omega) (by omega) hml hpk
    have hb := hD.len
    have hg : (σ.set a (.cells (dC b D.length 0 neg tr) mk)) a = some (.cells (dC b D.length 0 neg tr) mk) := set_same _ _ _
    unfold J143_25 J143_26
    simp only [lock_eq, nil_glob, fi2, li2]
    rw [bin_sub, wrap64 (by omega) (by omega), bin_add, wrap64 (by omega) (by omega), bin_lss]
    unfold J143_27
    simp only [lock_eq, cond_bool]
    refine iteI (fun g => ?_) (fun g => ?_)
    · have g := of_decide_eq_true g
      have hs2' : s2 = 1021 := by omega
      simp only [nil_glob, fi2, li2]
      rw [bin_add, wrap64 (by omega) (by omega), bin_sub, wrap64 (by omega) (by omega)]
      unfold J143_28
      rw [un_neg, wrap64 (by omega) (by omega), hSh]
      refine ⟨a, b, D, 0, neg, tr, mk, _, A0, s, min C 1500, rfl, hg, hD, hI.wk (by omega), hA, by omega, by omega, by omega, by omega, by omega, by omega, by omega, ?_⟩
      intro b3 D3 dp3 tr3 hD3 hN3 hI3 hP3
      obtain ⟨p1, p2, p3, p4⟩ := hP3
      rw [set_set]
      unfold J143_29
      simp only [lock_eq]
      rw [bin_add, wrap64 (by omega) (by omega), show -s - 1 + (-1023 + 1 - (-s - 1)) = -s2 - 1 by omega]
      rw [show s + (0 - (-1023 + 1 - (-s - 1))) = s2 by omega] at hI3
      exact j30 b3 D3 dp3 tr3 hD3 hI3 (by omega) (by omega)
    · have g : ¬ (-s - 1 < -1023 + 1) := fun e => g (decide_eq_true e)
      obtain rfl : s2 = s := by omega
      exact j30 b D 0 tr hD (hI.wk (by omega)) (by omega) (by omega)
  have j18 : ∀ (b D : List Nat) (dp : Int) (tr : Bool) (s C : Int), Dec b D -> Fp.Inv A0 D dp tr s C -> UpOk A0 C -> s <= C -> -1100 <= s -> C <= s + 800 - dp -> -330 <= dp -> dp <= 0 ->
      J143_18 env (.addr a 0) (.glob 7 0) (.pv (.bool false)) (i64 (-s)) (σ.set a (.cells (dC b D.length dp neg tr) mk)) K X := by
    intro b D dp tr s C hD hI hU hsC hs1 hC hp1 hp2
    unfold J143_18
    refine lp143_18 (α := List Nat × List Nat × Int × Bool × Int) (fun x _ => (1200 - x.2.2.2.2).toNat)
      (fun x τ => Dec x.1 x.2.1 /\ Fp.Inv A0 x.2.1 x.2.2.1 x.2.2.2.1 x.2.2.2.2 C /\ x.2.2.2.2 <= C /\ -1100 <= x.2.2.2.2 /\ C <= x.2.2.2.2 + 800 - x.2.2.1 /\ -330 <= x.2.2.1 /\ x.2.2.1 <= 0 /\ τ = σ.set a (.cells (dC x.1 x.2.1.length x.2.2.1 neg x.2.2.2.1) mk))
      (fun x => i64 (-x.2.2.2.2)) (b, D, dp, tr, s) ⟨hD, hI, hsC, hs1, hC, hp1, hp2, rfl⟩ ?_
    rintro ⟨b, D, dp, tr, s⟩ τ ⟨hD, hI, hsC, hs1, hC, hp1, hp2, rfl⟩
    dsimp only at hD hI hsC hs1 hC hp1 hp2 ⊢
    have hb := hD.len
    have hg : (σ.set a (.cells (dC b D.length dp neg tr) mk)) a = some (.cells (dC b D.length dp neg tr) mk) := set_same _ _ _
    have hhi := hI.high (by omega) hp2 hsC
    obtain ⟨u1, u2, u3⟩ := hU s hhi
    have hpos := pt_pos (-dp).toNat
    have hple := pt_le (-dp).toNat
    have round : (dp < 0 \/ D.getD 0 0 < 5) -> J143_19 env (Go.AD.Inv (fun x : List Nat × List Nat × Int × Bool × Int => [.addr a 0, .glob 7 0, .pv (.bool false), i64 (-x.2.2.2.2)]) (fun x _ => (1200 - x.2.2.2.2).toNat)
      (fun x τ => Dec x.1 x.2.1 /\ Fp.Inv A0 x.2.1 x.2.2.1 x.2.2.2.1 x.2.2.2.2 C /\ x.2.2.2.2 <= C /\ -1100 <= x.2.2.2.2 /\ C <= x.2.2.2.2 + 800 - x.2.2.1 /\ -330 <= x.2.2.1 /\ x.2.2.1 <= 0 /\ τ = σ.set a (.cells (dC x.1 x.2.1.length x.2.2.1 neg x.2.2.2.1) mk))) ((1200 - s).toNat)
        (.addr a 0) (.glob 7 0) (.pv (.bool false)) (i64 (-s)) (σ.set a (.cells (dC b D.length dp neg tr) mk)) K X := by
      intro hlow
      have hup := up_lt hI.nrm (dp := dp) (by omega) hp2 hlow
      have j23 : J143_23 env (Go.AD.Inv (fun x : List Nat × List Nat × Int × Bool × Int => [.addr a 0, .glob 7 0, .pv (.bool false), i64 (-x.2.2.2.2)]) (fun x _ => (1200 - x.2.2.2.2).toNat)
      (fun x τ => Dec x.1 x.2.1 /\ Fp.Inv A0 x.2.1 x.2.2.1 x.2.2.2.1 x.2.2.2.2 C /\ x.2.2.2.2 <= C /\ -1100 <= x.2.2.2.2 /\ C <= x.2.2.2.2 + 800 - x.2.2.1 /\ -330 <= x.2.2.1 /\ x.2.2.1 <= 0 /\ τ = σ.set a (.cells (dC x.1 x.2.1.length x.2.2.1 neg x.2.2.2.1) mk))) ((1200 - s).toNat)
        (.addr a 0) (.glob 7 0) (.pv (.bool false)) (i64 (-s)) (i64 ((pt (-dp).toNat : Nat) : Int)) (σ.set a (.cells (dC b D.length dp neg tr) mk)) K X := by
        unfold J143_23
        rw [hSh]
        refine ⟨a, b, D, dp, neg, tr, mk, _, A0, s, C, rfl, hg, hD, hI, hA, by omega, by omega, by omega, by omega, by omega, by omega, by omega, ?_⟩
        intro b3 D3 dp3 tr3 hD3 hN3 hI3 hP3
        obtain ⟨p1, p2, p3, p4⟩ := hP3
        rw [show (-((pt (-dp).toNat : Nat) : Int)).toNat = 0 by omega, Nat.pow_zero, Nat.mul_one, Int.toNat_natCast] at p1
        have hdp3 := dp_le hN3.toNrm0 (by omega) p1 hup
        have p3' := p3 (by omega)
        rw [set_set]
        unfold J143_24
        simp only [lock_eq]
        rw [bin_sub, wrap64 (by omega) (by omega), show -s - ((pt (-dp).toNat : Nat) : Int) = -(s + ((pt (-dp).toNat : Nat) : Int)) by omega]
        exact back (b3, D3, dp3, tr3, s + ((pt (-dp).toNat : Nat) : Int)) rfl (by dsimp only; omega) ⟨hD3, hI3, by dsimp only; omega, by dsimp only; omega, by dsimp only; omega, by dsimp only; omega, by dsimp only; omega, rfl⟩
      unfold J143_19 J143_20
      simp only [lock_eq, nil_addr, T.fa181_2, Nat.zero_add, ldDdp hg hb, ld_pt, T.lnl85]
      rw [un_neg, wrap64 (by omega) (by omega), bin_geq]
      unfold J143_21
      simp only [lock_eq, cond_bool]
      refine iteI (fun g => ?_) (fun g => ?_)
      · have g := of_decide_eq_true g
        rw [pt_big (show 9 <= (-dp).toNat by omega)] at j23
        exact j23
      · have g : ¬ (0 - dp ≥ ((9 : Nat) : Int)) := fun e => g (decide_eq_true e)
        simp only [ld_pt, nil_addr, T.fa181_2, Nat.zero_add, ldDdp hg hb]
        rw [un_neg, wrap64 (by omega) (by omega), show (0 : Int) - dp = ((-dp).toNat : Int) by omega, ix_pt (by omega), le_pt (by omega)]
        exact j23
    unfold L143_18
    simp only [lock_eq, nil_addr, T.fa181_2, Nat.zero_add, ldDdp hg hb, bin_lss, guard_false]
    refine iteI (fun g => ?_) (fun g => ?_)
    · exact round (.inl (of_decide_eq_true g))
    · have g : ¬ dp < 0 := fun e => g (decide_eq_true e)
      obtain rfl : dp = 0 := by omega
      rw [bin_eql, guard_true]
      rw [if_pos (by decide)]
      have hl : 0 < D.length := List.length_pos_iff.2 hI.nrm.ne
      simp only [T.fa181_0, Nat.zero_add]
      rw [show (AV.pv (.int .i64 0)) = i64 ((0 : Nat) : Int) from rfl, ixD (by decide), ldDb hg hb (by decide), hD.get hl, bin_lss, cond_bool]
      refine iteI (fun g2 => ?_) (fun g2 => ?_)
      · have g2 := of_decide_eq_true g2
        exact round (.inr (by omega))
      · have g2 : ¬ (((D.getD 0 0 + 48 : Nat) : Int) < 53) := fun e => g2 (decide_eq_true e)
        exact j25 b D tr s C hD hI (by omega) hU hsC hs1 (by omega)
  unfold J143_10 J143_11
  have hst : ∃ C : Int, Fp.Inv A0 D0 dp0 false 0 C /\ (dp0 <= 0 -> UpOk A0 C /\ 0 <= C /\ C <= 0 + 800 - dp0) /\ (0 < dp0 -> C = 0 + 470) := by
    rw [hA0]
    by_cases h0 : dp0 <= 0
    · exact ⟨800 - dp0, Fp.Inv.start hN dp0 _, fun _ => ⟨upOk_small hN g2 h0, by omega, by omega⟩, fun h => by omega⟩
    · exact ⟨470, Fp.Inv.start hN dp0 _, fun h => absurd h h0, fun _ => by omega⟩
  obtain ⟨C0, hI0, hc1, hc2⟩ := hst
  refine lp143_11 (α := List Nat × List Nat × Int × Bool × Int × Int) (fun x _ => (1100 + x.2.2.2.2.1).toNat)
    (fun x τ => Dec x.1 x.2.1 /\ Fp.Inv A0 x.2.1 x.2.2.1 x.2.2.2.1 x.2.2.2.2.1 x.2.2.2.2.2 /\ x.2.2.2.2.1 <= 0 /\ -1100 <= x.2.2.2.2.1 /\ -330 <= x.2.2.1 /\ x.2.2.1 <= 310 /\ (x.2.2.1 <= 0 -> UpOk A0 x.2.2.2.2.2 /\ x.2.2.2.2.1 <= x.2.2.2.2.2 /\ x.2.2.2.2.2 <= x.2.2.2.2.1 + 800 - x.2.2.1) /\ (0 < x.2.2.1 -> x.2.2.2.2.2 = x.2.2.2.2.1 + 470) /\
      τ = σ.set a (.cells (dC x.1 x.2.1.length x.2.2.1 neg x.2.2.2.1) mk))
    (fun x => i64 (-x.2.2.2.2.1)) (b0, D0, dp0, false, 0, C0) ⟨hD0, hI0, Int.le_refl 0, by dsimp only; omega, g2, g, hc1, hc2, (set_self ha0).symm⟩ ?_
  rintro ⟨b, D, dp, tr, s, C⟩ τ ⟨hD, hI, hs0, hs1, hp1, hp2, h1, h2, rfl⟩
  dsimp only at hD hI hs0 hs1 hp1 hp2 h1 h2 ⊢
  have hb := hD.len
  have hg : (σ.set a (.cells (dC b D.length dp neg tr) mk)) a = some (.cells (dC b D.length dp neg tr) mk) := set_same _ _ _
  unfold L143_11
  simp only [lock_eq, nil_addr, T.fa181_2, Nat.zero_add, ldDdp hg hb, bin_gtr, cond_bool]
  refine iteI (fun g => ?_) (fun g => ?_)
  · have g : 0 < dp := of_decide_eq_true g
    have hC := h2 g
    have hpos := pt_pos dp.toNat
    have hple := pt_le dp.toNat
    have hfew := halved_few hI hA1 g (by omega)
    have j16 : J143_16 env (Go.AD.Inv (fun x : List Nat × List Nat × Int × Bool × Int × Int => [.addr a 0, .glob 7 0, .pv (.bool false), i64 (-x.2.2.2.2.1)]) (fun x _ => (1100 + x.2.2.2.2.1).toNat)
      (fun x τ => Dec x.1 x.2.1 /\ Fp.Inv A0 x.2.1 x.2.2.1 x.2.2.2.1 x.2.2.2.2.1 x.2.2.2.2.2 /\ x.2.2.2.2.1 <= 0 /\ -1100 <= x.2.2.2.2.1 /\ -330 <= x.2.2.1 /\ x.2.2.1 <= 310 /\ (x.2.2.1 <= 0 -> UpOk A0 x.2.2.2.2.2 /\ x.2.2.2.2.1 <= x.2.2.2.2.2 /\ x.2.2.2.2.2 <= x.2.2.2.2.1 + 800 - x.2.2.1) /\ (0 < x.2.2.1 -> x.2.2.2.2.2 = x.2.2.2.2.1 + 470) /\
      τ = σ.set a (.cells (dC x.1 x.2.1.length x.2.2.1 neg x.2.2.2.1) mk))) ((1100 + s).toNat) (.addr a 0) (.glob 7 0) (.pv (.bool false)) (i64 (-s)) (i64 ((pt dp.toNat : Nat) : Int)) (σ.set a (.cells (dC b D.length dp neg tr) mk)) K X := by
      unfold J143_16
      rw [un_neg, wrap64 (by omega) (by omega), hSh]
      refine ⟨a, b, D, dp, neg, tr, mk, _, A0, s, s - ((pt dp.toNat : Nat) : Int) + 470, rfl, hg, hD, hI.wk (by omega), hA, by omega, by omega, by omega, by omega, by omega, by omega, by omega, ?_⟩
      intro b3 D3 dp3 tr3 hD3 hN3 hI3 hP3
      obtain ⟨p1, p2, p3, p4⟩ := hP3
      rw [set_set]
      rw [show s + (0 - ((pt dp.toNat : Nat) : Int)) = s - ((pt dp.toNat : Nat) : Int) by omega] at hI3
      unfold J143_17
      simp only [lock_eq]
      rw [bin_add, wrap64 (by omega) (by omega), show -s + ((pt dp.toNat : Nat) : Int) = -(s - ((pt dp.toNat : Nat) : Int)) by omega]
      exact back (b3, D3, dp3, tr3, s - ((pt dp.toNat : Nat) : Int), s - ((pt dp.toNat : Nat) : Int) + 470) rfl (by dsimp only; omega) ⟨hD3, hI3, by dsimp only; omega, by dsimp only; omega, by dsimp only; omega, by dsimp only; omega, fun h0 => ⟨upOk_after hI3 (by omega) h0 (by omega), by dsimp only; omega, by dsimp only at h0 ⊢; omega⟩, fun _ => rfl, rfl⟩
    unfold J143_12 J143_13
    simp only [lock_eq, nil_addr, T.fa181_2, Nat.zero_add, ldDdp hg hb, ld_pt, T.lnl85, bin_geq]
    unfold J143_14
    simp only [lock_eq, cond_bool]
    refine iteI (fun g => ?_) (fun g => ?_)
    · have g := of_decide_eq_true g
      rw [pt_big (show 9 <= dp.toNat by omega)] at j16
      exact j16
    · have g : ¬ (dp ≥ ((9 : Nat) : Int)) := fun e => g (decide_eq_true e)
      simp only [ld_pt, nil_addr, T.fa181_2, Nat.zero_add, ldDdp hg hb]
      obtain ⟨n, rfl⟩ : ∃ n : Nat, dp = (n : Int) := ⟨dp.toNat, by omega⟩
      rw [ix_pt (by omega), le_pt (by omega)]
      exact j16
  · have g : dp <= 0 := by
      have : ¬ dp > 0 := fun e => g (decide_eq_true e)
      omega
    obtain ⟨q1, q2, q3⟩ := h1 g
    exact j18 b D dp tr s C hD hI q1 q2 hs1 q3 hp1 g
end
end Go.AD.Fl

set_option maxRecDepth 100000
set_option linter.unusedSimpArgs false
namespace Go.AD.Fp
def dB (d : Nat) : UInt8 := UInt8.ofNat (d + 48)
theorem dB_nat {d : Nat} (h : d < 10) : (dB d).toNat = d + 48 := by
  unfold dB
  rw [UInt8.toNat_ofNat']
  omega
def sgB : Option Bool -> List UInt8
  | none => []
  | some true => [45]
  | some false => [43]
def dotB : Option (List Nat) -> List UInt8
  | none => []
  | some q => 46 :: q.map dB
def expB : Option (Bool × Option Bool × List Nat) -> List UInt8
  | none => []
  | some (c, s, d) => (if c = true then 69 else 101) :: (sgB s ++ d.map dB)
structure Num where
  sg : Option Bool
  W : List Nat
  P : Option (List Nat)
  E : Option (Bool × Option Bool × List Nat)
def Num.text (n : Num) : List UInt8 := sgB n.sg ++ (n.W.map dB ++ (dotB n.P ++ expB n.E))
def Num.Q (n : Num) : List Nat := n.P.getD []
def Num.ds (n : Num) : List Nat := n.W ++ n.Q
def exZ : Option (Bool × Option Bool × List Nat) -> Int
  | none => 0
  | some (_, s, d) => if s = some true then -(n10 d : Int) else (n10 d : Int)
def Num.ex (n : Num) : Int := exZ n.E
def Num.neg (n : Num) : Bool := n.sg == some true
structure Num.Ok (n : Num) : Prop where
  w : Dg n.W
  q : Dg n.Q
  ne : n.ds ≠ []
  e : ∀ c s d, n.E = some (c, s, d) -> Dg d /\ d ≠ []
def Num.val (n : Num) : Nat := rungD (n10 n.ds) (n.ex - n.Q.length)
theorem Num.Ok.dg {n : Num} (h : n.Ok) : Dg n.ds := h.w.app h.q
def capE (l : List Nat) : Nat := l.foldl (fun e d => if e < 10000 then 10 * e + d else e) 0
theorem capE_snoc (l : List Nat) (d : Nat) : capE (l ++ [d]) = if capE l < 10000 then 10 * capE l + d else capE l := by
  unfold capE; rw [List.foldl_append]; rfl
theorem rev_ind {α : Type} {P : List α -> Prop} (h0 : P []) (h1 : ∀ l a, P l -> P (l ++ [a])) : ∀ l, P l := by
  intro l
  have : ∀ m : List α, P m.reverse := by
    intro m
    induction m with
    | nil => exact h0
    | cons a m ih => rw [List.reverse_cons]; exact h1 _ _ ih
  rw [<- List.reverse_reverse l]
  exact this _
theorem capE_spec : ∀ l : List Nat, Dg l -> (capE l = n10 l /\ capE l < 100000) \/ (10000 <= capE l /\ capE l < 100000 /\ 10000 <= n10 l) := by
  refine rev_ind ?_ ?_
  · intro _; left; exact ⟨rfl, by decide⟩
  · intro l d ih h
    have hd : d < 10 := h d (List.mem_append_right _ (List.mem_singleton.2 rfl))
    have := ih h.left
    rw [capE_snoc, n10_snoc]
    split <;> omega
structure Capped (e ex : Int) : Prop where
  or : e = ex \/ (10000 <= e /\ 10000 <= ex) \/ (e <= -10000 /\ ex <= -10000)
  lo : -100000 <= e
  hi : e <= 100000
theorem capped_of {c : Bool} {s : Option Bool} {d : List Nat} (h : Dg d) : Capped ((capE d : Int) * (if s = some true then -1 else 1)) (exZ (some (c, s, d))) := by
  have := capE_spec d h
  show Capped _ (if s = some true then -(n10 d : Int) else (n10 d : Int))
  by_cases hs : s = some true
  · rw [if_pos hs, if_pos hs]; exact ⟨by omega, by omega, by omega⟩
  · rw [if_neg hs, if_neg hs]; exact ⟨by omega, by omega, by omega⟩
theorem Capped.rung {e ex : Int} (h : Capped e ex) {N k : Nat} (hN : N < 10 ^ 1000) (hk : k <= 1000) : rungD N (e - k) = rungD N (ex - k) := by
  rcases h.or with g | ⟨g1, g2⟩ | ⟨g1, g2⟩
  · rw [g]
  · rcases Nat.eq_zero_or_pos N with g | g
    · subst g; rw [rungD_zero_d, rungD_zero_d]
    · rw [rungD_inf g (by omega), rungD_inf g (by omega)]
  · rw [rungD_tiny2 (m := 1000) (Nat.le_of_lt hN) (by omega), rungD_tiny2 (m := 1000) (Nat.le_of_lt hN) (by omega)]
def dropZ (l : List Nat) : List Nat := l.dropWhile (fun d => d == 0)
theorem dropZ_nil : dropZ [] = [] := rfl
theorem dropZ_spec : ∀ l : List Nat, ∃ k, l = List.replicate k 0 ++ dropZ l
  | [] => ⟨0, rfl⟩
  | d :: l => by
    obtain ⟨k, hk⟩ := dropZ_spec l
    by_cases h : d = 0
    · refine ⟨k + 1, ?_⟩
      have e : dropZ (d :: l) = dropZ l := by unfold dropZ; rw [List.dropWhile_cons, if_pos (by simp [h])]
      rw [e, List.replicate_succ, List.cons_append, <- hk, h]
    · refine ⟨0, ?_⟩
      have e : dropZ (d :: l) = d :: l := by unfold dropZ; rw [List.dropWhile_cons, if_neg (by simp [h])]
      rw [e]; rfl
theorem dropZ_head : ∀ l : List Nat, (dropZ l).head? ≠ some 0
  | [] => by simp [dropZ]
  | d :: l => by
    by_cases h : d = 0
    · have e : dropZ (d :: l) = dropZ l := by unfold dropZ; rw [List.dropWhile_cons, if_pos (by simp [h])]
      rw [e]; exact dropZ_head l
    · have e : dropZ (d :: l) = d :: l := by unfold dropZ; rw [List.dropWhile_cons, if_neg (by simp [h])]
      rw [e]; simpa using h
theorem n10_dropZ (l : List Nat) : n10 (dropZ l) = n10 l := by
  obtain ⟨k, hk⟩ := dropZ_spec l
  conv => rhs; rw [hk]
  rw [n10_app, n10_zeros]; simp
theorem dropZ_len (l : List Nat) : (dropZ l).length <= l.length := by
  obtain ⟨k, hk⟩ := dropZ_spec l
  have := congrArg List.length hk
  rw [List.length_append] at this
  omega
theorem dropZ_dg {l : List Nat} (h : Dg l) : Dg (dropZ l) := by
  obtain ⟨k, hk⟩ := dropZ_spec l
  rw [hk] at h; exact h.right
theorem dropZ_snoc (l : List Nat) (d : Nat) : dropZ (l ++ [d]) = if dropZ l = [] /\ d = 0 then [] else dropZ l ++ [d] := by
  induction l with
  | nil =>
    by_cases h : d = 0
    · rw [if_pos ⟨rfl, h⟩, h]; rfl
    · rw [if_neg (fun e => h e.2), dropZ_nil]
      unfold dropZ
      rw [List.nil_append, List.dropWhile_cons, if_neg (by simp [h])]
  | cons x l ih =>
    by_cases h : x = 0
    · have e1 : dropZ (x :: l ++ [d]) = dropZ (l ++ [d]) := by unfold dropZ; rw [List.cons_append, List.dropWhile_cons, if_pos (by simp [h])]
      have e2 : dropZ (x :: l) = dropZ l := by unfold dropZ; rw [List.dropWhile_cons, if_pos (by simp [h])]
      rw [e1, e2]; exact ih
    · have e1 : dropZ (x :: l ++ [d]) = x :: l ++ [d] := by unfold dropZ; rw [List.cons_append, List.dropWhile_cons, if_neg (by simp [h])]
      have e2 : dropZ (x :: l) = x :: l := by unfold dropZ; rw [List.dropWhile_cons, if_neg (by simp [h])]
      rw [e1, e2, if_neg (fun e => by cases e.1)]
structure RD (ds : List Nat) (nd nm m : Nat) (tr : Bool) : Prop where
  hnd : nd = (dropZ ds).length
  hnm : nm = min nd 19
  rd : Read (n10 ds) m (nd - nm) tr
  lt : m < 10 ^ nm
  ge : 0 < nm -> 10 ^ (nm - 1) <= m
theorem RD.start : RD [] 0 0 0 false := ⟨rfl, rfl, Read.start, by decide, fun h => absurd h (by decide)⟩
theorem RD.zero {ds : List Nat} {nm m : Nat} {tr : Bool} (h : RD ds 0 nm m tr) : RD (ds ++ [0]) 0 nm m tr := by
  have e : dropZ ds = [] := List.length_eq_zero_iff.1 h.hnd.symm
  have hr := h.rd
  refine ⟨by rw [dropZ_snoc, if_pos ⟨e, rfl⟩]; rfl, h.hnm, ?_, h.lt, h.ge⟩
  have e0 : n10 ds = 0 := by rw [<- n10_dropZ, e, n10_nil]
  rw [n10_snoc]
  rw [e0] at hr ⊢
  exact hr
theorem RD.take {ds : List Nat} {nd nm m d : Nat} {tr : Bool} (h : RD ds nd nm m tr) (hd : d < 10) (h19 : nm < 19) (hz : ¬ (d = 0 /\ nd = 0)) : RD (ds ++ [d]) (nd + 1) (nm + 1) (m * 10 + d) tr := by
  have hnm := h.hnm
  have hnd := h.hnd
  have e : ¬ (dropZ ds = [] /\ d = 0) := fun e => hz ⟨e.2, by rw [hnd, e.1]; rfl⟩
  have hr := h.rd
  rw [show nd - nm = 0 by omega] at hr
  have hlt := h.lt
  have hp : 10 ^ nm <= 10 ^ 18 := Nat.pow_le_pow_right (by decide) (by omega)
  refine ⟨by rw [dropZ_snoc, if_neg e, List.length_append, <- hnd]; rfl, by omega, ?_, ?_, ?_⟩
  · rw [n10_snoc, show nd + 1 - (nm + 1) = 0 by omega, Nat.mul_comm m 10]
    exact hr.take (by omega) hd
  · rw [Nat.pow_succ]; omega
  · intro _
    rw [Nat.add_sub_cancel]
    rcases Nat.eq_zero_or_pos nm with g | g
    · rw [g, Nat.pow_zero]
      have : d ≠ 0 := fun e => hz ⟨e, by omega⟩
      omega
    · have := h.ge g
      have e2 : 10 ^ nm = 10 * 10 ^ (nm - 1) := by
        conv => lhs; rw [show nm = nm - 1 + 1 by omega]
        rw [Nat.pow_succ, Nat.mul_comm]
      omega
theorem RD.leave {ds : List Nat} {nd nm m d : Nat} {tr : Bool} (h : RD ds nd nm m tr) (hd : d < 10) (h19 : 19 <= nm) : RD (ds ++ [d]) (nd + 1) nm m (tr || decide (d ≠ 0)) := by
  have hnm := h.hnm
  have hnd := h.hnd
  have e : ¬ (dropZ ds = [] /\ d = 0) := fun e => by rw [e.1] at hnd; simp at hnd; omega
  have hg := h.ge (by omega)
  have hp : 10 ^ 18 <= 10 ^ (nm - 1) := Nat.pow_le_pow_right (by decide) (by omega)
  refine ⟨by rw [dropZ_snoc, if_neg e, List.length_append, <- hnd]; rfl, by omega, ?_, h.lt, h.ge⟩
  rw [n10_snoc, show nd + 1 - nm = nd - nm + 1 by omega]
  exact h.rd.leave (by omega) hd
theorem drop_cons {l : List UInt8} {i : Nat} {c : UInt8} {r : List UInt8} (h : l.drop i = c :: r) : i < l.length /\ l.getD i 0 = c /\ l.drop (i + 1) = r := by
  have h1 : i < l.length := by
    rcases Nat.lt_or_ge i l.length with g | g
    · exact g
    · rw [List.drop_eq_nil_of_le g] at h; cases h
  rw [List.drop_eq_getElem_cons h1] at h
  injection h with h2 h3
  refine ⟨h1, ?_, h3⟩
  rw [List.getD_eq_getElem?_getD, List.getElem?_eq_getElem h1, <- h2]; rfl
theorem drop_nil {l : List UInt8} {i : Nat} (h : l.drop i = []) : l.length <= i := by rwa [List.drop_eq_nil_iff] at h
end Go.AD.Fp
