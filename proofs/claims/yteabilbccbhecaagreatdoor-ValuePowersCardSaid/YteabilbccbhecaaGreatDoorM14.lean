import Derived.Test.YteabilbccbhecaaGreatDoorM13
set_option linter.unusedVariables false
set_option linter.unusedSimpArgs false
set_option maxRecDepth 100000
namespace Go.AD.Fl
open Go.Proofs RowKit Go.AD.Fp
def cheatOk (k : Nat) : Bool := match cheatsL[k]? with
  | some (dl, bs) => bs.all (fun b => decide (48 <= b.toNat) && decide (b.toNat <= 57)) && n10 (bs.map fun b => b.toNat - 48) == 5 ^ k && bs.length + dl == k + 1 && decide (1 <= dl) && decide (10 ^ (dl - 1) <= 2 ^ k) && decide (2 ^ k < 10 ^ dl) && (bs.getLast? != some 48) && decide (dl <= k)
  | none => false
theorem cheats_ok : ∀ k, k < 60 -> cheatOk (k + 1) = true := by decide +kernel
structure Cheat (k dl : Nat) (bs : List UInt8) : Prop where
  at_ : cheatsL[k]? = some (dl, bs)
  lo : ∀ x ∈ bs, 48 <= x.toNat
  dg : Dg (bs.map fun b => b.toNat - 48)
  n5 : n10 (bs.map fun b => b.toNat - 48) = 5 ^ k
  ln : bs.length + dl = k + 1
  d1 : 1 <= dl
  p1 : 10 ^ (dl - 1) <= 2 ^ k
  p2 : 2 ^ k < 10 ^ dl
  la : ∀ h : (bs.map fun b => b.toNat - 48) ≠ [], (bs.map fun b => b.toNat - 48).getLast h ≠ 0
  dk : dl <= k
theorem cheat_at {k : Nat} (h1 : 1 <= k) (h2 : k <= 60) : ∃ dl bs, Cheat k dl bs := by
  have h := cheats_ok (k - 1) (by omega)
  rw [show k - 1 + 1 = k by omega] at h
  unfold cheatOk at h
  cases e : cheatsL[k]? with
  | none => rw [e] at h; cases h
  | some x =>
    obtain ⟨dl, bs⟩ := x
    rw [e] at h
    simp only [Bool.and_eq_true, List.all_eq_true, decide_eq_true_eq, beq_iff_eq, bne_iff_ne, ne_eq] at h
    obtain ⟨⟨⟨⟨⟨⟨⟨a1, a2⟩, a3⟩, a4⟩, a5⟩, a6⟩, a7⟩, a8⟩ := h
    refine ⟨dl, bs, ⟨e, fun x hx => (a1 x hx).1, ?_, a2, a3, a4, a5, a6, ?_, a8⟩⟩
    · intro d hd
      obtain ⟨x, hx, rfl⟩ := List.mem_map.1 hd
      have := (a1 x hx).2
      omega
    · intro hne
      have hb : bs ≠ [] := fun e => hne (by rw [e]; rfl)
      rw [List.getLast_map]
      intro e
      have h1 := (a1 (bs.getLast hb) (List.getLast_mem hb)).1
      have h2 : bs.getLast hb = 48 := UInt8.toNat_inj.1 (by show _ = 48; omega)
      exact a7 (by rw [List.getLast?_eq_some_getLast hb, h2])
theorem pairs_get {α β : Type} (f g : α -> β) : ∀ (l : List α) (i : Nat), (l.flatMap fun x => [f x, g x])[2 * i]? = (l[i]?).map f /\ (l.flatMap fun x => [f x, g x])[2 * i + 1]? = (l[i]?).map g
  | [], i => by simp
  | x :: l, 0 => by simp
  | x :: l, i + 1 => by
    obtain ⟨h1, h2⟩ := pairs_get f g l i
    rw [show 2 * (i + 1) = 2 * i + 1 + 1 by omega]
    simp only [List.flatMap_cons, List.cons_append, List.nil_append, List.getElem?_cons_succ]
    exact ⟨h1, h2⟩
theorem tab_cheats_len : tabCheats.length = 61 * 2 := by decide +kernel
theorem g_cheats : known PS 17 = some [.lst 61 tabCheats] := g_known (s := "internal/strconv.leftcheats") (by kernel_rfl) rfl
section
variable {env : Env} {args : List AV} {σ0 σ τ : AS} {K : AV -> AS -> Prop} {X : PV -> AS -> Prop}
theorem ld_cheats {K : AV -> Prop} : loadD PS σ 257 (.glob 17 0) K = K (.pv (.lst 61 tabCheats)) := by
  rw [ld_glob T.hT257 T.ag257 g_cheats]; simp
theorem ix_cheats {k : Nat} (hk : k < 61) {K : AV -> Prop} {kk : IntKind} : indexAddrD PS 257 (.pv (.lst 61 tabCheats)) (.pv (.int kk (k : Int))) K = K (.elemP tabCheats (k * 2)) := T.ixl257 hk tab_cheats_len
theorem le_delta {k dl : Nat} {bs : List UInt8} (h : Cheat k dl bs) {K : AV -> Prop} : loadD PS σ 3 (.elemP tabCheats (k * 2 + 0)) K = K (i64 (dl : Int)) := by
  have e := (pairs_get (fun x : Nat × List UInt8 => PV.int .i64 (x.1 : Int)) (fun x => PV.str x.2) cheatsL k).1
  rw [T.le3, Nat.add_zero, Nat.mul_comm k 2, show tabCheats[2 * k]? = some (.int .i64 (dl : Int)) from e.trans (by rw [h.at_]; rfl)]
  simp
theorem le_cut {k dl : Nat} {bs : List UInt8} (h : Cheat k dl bs) {K : AV -> Prop} : loadD PS σ 9 (.elemP tabCheats (k * 2 + 1)) K = K (.pv (.str bs)) := by
  have e := (pairs_get (fun x : Nat × List UInt8 => PV.int .i64 (x.1 : Int)) (fun x => PV.str x.2) cheatsL k).2
  rw [T.le9, Nat.mul_comm k 2, show tabCheats[2 * k + 1]? = some (.str bs) from e.trans (by rw [h.at_]; rfl)]
  simp
def T_iLess : Tr := fun args σ K _ => ∃ (a : Nat) (b D : List Nat) (nd dp : Int) (neg tr : Bool) (mk : Option TypeId) (bs : List UInt8), args = [.msl a 0 D.length 1, .pv (.str bs)] /\ σ a = some (.cells (dC b nd dp neg tr) mk) /\ Dec b D /\ (∀ x ∈ bs, 48 <= x.toNat) /\ bs.length <= 100 /\
  K (.pv (.bool (lessL D (bs.map fun x => x.toNat - 48)))) σ
theorem T_iLess_ok (h : T_iLess args σ K X) : bodyD PS env an218 Tryz.f218 args σ K X := by
  obtain ⟨a, b, D, nd, dp, neg, tr, mk, bs, rfl, ha, hD, hlo, hl, hK⟩ := h
  have hb := hD.len
  have hf := hD.few
  rw [<- S218_eq env, S218]
  refine lp218_2 (fun (i : Nat) _ => bs.length - i) (fun i τ => i <= bs.length /\ i <= D.length /\ lessL D (bs.map fun x => x.toNat - 48) = lessL (D.drop i) ((bs.drop i).map fun x => x.toNat - 48) /\ τ = σ) (fun i => i64 (i : Int)) 0 ⟨Nat.zero_le _, Nat.zero_le _, rfl, rfl⟩ ?_
  rintro i τ ⟨hi1, hi2, he, hτ⟩
  obtain rfl := hτ.symm
  unfold L218_2
  simp only [lock_eq, T.ls9, bin_lss, cond_bool, T.lnm141, bin_geq]
  refine iteI (fun g => ?_) (fun g => ?_)
  · have g : i < bs.length := by
      have := of_decide_eq_true g
      omega
    have eb : bs.drop i = bs.getD i 0 :: bs.drop (i + 1) := by
      rw [List.drop_eq_getElem_cons g, List.getD_eq_getElem?_getD, List.getElem?_eq_getElem g]; rfl
    refine iteI (fun g2 => ?_) (fun g2 => ?_)
    · have g2 : i = D.length := by
        have := of_decide_eq_true g2
        omega
      have : lessL D (bs.map fun x => x.toNat - 48) = true := by rw [he, eb, List.drop_eq_nil_of_le (by omega)]; rfl
      rw [this] at hK
      exact retV_self hK
    · have g2 : i < D.length := by
        have : ¬ ((i : Int) ≥ (D.length : Int)) := fun e => g2 (decide_eq_true e)
        omega
      have ed : D.drop i = D.getD i 0 :: D.drop (i + 1) := by
        rw [List.drop_eq_getElem_cons g2, List.getD_eq_getElem?_getD, List.getElem?_eq_getElem g2]; rfl
      have h48 : 48 <= (bs.getD i 0).toNat := by
        rw [List.getD_eq_getElem?_getD, List.getElem?_eq_getElem g]
        exact hlo _ (List.getElem_mem g)
      rw [eb, ed, List.map_cons, lessL] at he
      simp only [T.ixm141 g2, Nat.zero_add, Nat.mul_one, ldDb ha hb (show i < 800 by omega), hD.get g2, T.is9 g, bin_neq, cond_bool, bin_lss]
      refine iteI (fun g3 => ?_) (fun g3 => ?_)
      · have g3 : D.getD i 0 ≠ (bs.getD i 0).toNat - 48 := by
          intro e
          have : ((D.getD i 0 + 48 : Nat) : Int) ≠ ((bs.getD i 0).toNat : Int) := by simpa using g3
          omega
        rw [if_neg g3] at he
        rw [he] at hK
        have e : decide (((D.getD i 0 + 48 : Nat) : Int) < ((bs.getD i 0).toNat : Int)) = decide (D.getD i 0 < (bs.getD i 0).toNat - 48) := by
          rw [decide_eq_decide]; omega
        rw [e]
        exact retV_self hK
      · have g3 : D.getD i 0 = (bs.getD i 0).toNat - 48 := by
          have : ((D.getD i 0 + 48 : Nat) : Int) = ((bs.getD i 0).toNat : Int) := by simpa using g3
          omega
        rw [if_pos g3] at he
        rw [bin_add, wrap64 (by omega) (by omega)]
        exact back (i + 1) rfl (by omega) ⟨g, g2, he, rfl⟩
  · have g : i = bs.length := by
      have : ¬ ((i : Int) < (bs.length : Int)) := fun e => g (decide_eq_true e)
      omega
    have : lessL D (bs.map fun x => x.toNat - 48) = false := by
      have e : bs.drop i = [] := List.drop_eq_nil_of_le (by omega)
      rw [he, e]
      cases D.drop i <;> rfl
    rw [this] at hK
    exact retV_self hK
theorem ptr800 : ptrArr PS 179 = some (800, 5) := by unfold ptrArr; rw [unB800]
theorem arrD {a n : Nat} {mk : Option TypeId} {b : List Nat} {nd dp : Int} {neg tr : Bool} {Q : AV -> Prop} (hg : σ a = some (.cells (dC b nd dp neg tr) mk)) (hb : b.length = 800) (h1 : 1 <= n) (h2 : n <= 800) : arrS PS σ 179 (.addr a 0) (some (.pv (.int .i64 0))) (some (i64 (n : Int))) Q = Q (.msl a 0 n 1) := by
  simp only [arrS, ptr800, hg, T.sz5, dC_len hb, cutAt, Int.toNat_natCast]
  refine propext ⟨fun h => ?_, fun h => ⟨by kernel_rfl, by decide, by decide, by omega, by omega, by omega, by omega, ?_⟩⟩
  · have := h.2.2.2.2.2.2.2
    rw [if_neg (by show ¬ (0 : Int).toNat = n; simp; omega)] at this
    simpa using this
  · rw [if_neg (by show ¬ (0 : Int).toNat = n; simp; omega)]
    simpa using h
theorem quoU {P : Program} {t : TypeId} {n d : Nat} (hd : 0 < d) (hn : n < 18446744073709551616) {Q : AV -> Prop} : binD P .quo t (u64 n) (u64 d) Q = Q (u64 (n / d)) := by
  rw [bin_quo, <- Int.ofNat_tdiv]
  have hle : n / d <= n := Nat.div_le_self ..
  rw [wU64n (by omega)]
  exact propext ⟨fun h => h.2, fun h => ⟨by omega, h⟩⟩
def T_iLeft : Tr := fun args σ K _ => ∃ (a : Nat) (b D : List Nat) (dp : Int) (neg tr : Bool) (mk : Option TypeId) (k : Nat), args = [.addr a 0, u64 k] /\ σ a = some (.cells (dC b D.length dp neg tr) mk) /\ Dec b D /\ Nrm0 D /\
  1 <= k /\ k <= 60 /\ -1000 <= dp /\ dp <= 2000 /\ Shifted σ a neg tr mk (fun Z => Z = sc D dp * 2 ^ k) (fun dp' => dp <= dp' /\ dp' <= dp + k) K
theorem T_iLeft_ok (hT : env 210 = T_iTrim) (hL : env 218 = T_iLess) (h : T_iLeft args σ K X) : bodyD PS env an200 Tryz.f200 args σ K X := by
  obtain ⟨a, b, D, dp, neg, tr, mk, k, rfl, ha, hD, hN, hk1, hk2, hd1, hd2, hK⟩ := h
  have hb := hD.len
  have hf := hD.few
  have h2k := k60 hk2
  have hp2 := two_pos k
  have hm : 1 <= D.length := List.length_pos_iff.2 hN.ne
  obtain ⟨dl, bs, hC⟩ := cheat_at hk1 hk2
  have hbl : bs.length <= 100 := by have := hC.ln; omega
  obtain ⟨v1, v2⟩ := more_digits hN hC.dg hC.la hC.n5 (by rw [List.length_map]; exact hC.ln) hC.d1 hC.p1 hC.p2
  obtain ⟨N, hNe⟩ : ∃ N, N = D.length + dl - (if lessL D (bs.map fun b => b.toNat - 48) = true then 1 else 0) := ⟨_, rfl⟩
  rw [<- hNe] at v1 v2
  have hd1' := hC.d1
  have hdk := hC.dk
  have hNm : D.length <= N /\ N <= D.length + dl := by rw [hNe]; split <;> omega
  have fin : ∀ (b : List Nat) (tr' : Bool) (j : Nat), LS D k N tr j 0 b tr' -> D.length <= j ->
      J200_30 env (.addr a 0) (i64 ((N : Int) - D.length)) (σ.set a (.cells (dC b ((min N 800 : Nat) : Int) dp neg tr') mk)) K X := by
    intro b tr' j hS hj
    obtain ⟨hjN, hsh, htr⟩ := hS.fin hj v1 (by omega)
    have hb := hS.len
    have hg : (σ.set a (.cells (dC b ((min N 800 : Nat) : Int) dp neg tr') mk)) a = some (.cells (dC b ((min N 800 : Nat) : Int) dp neg tr') mk) := set_same _ _ _
    unfold J200_30
    simp only [lock_eq, nil_addr, T.fa181_2, Nat.zero_add, ldDdp hg hb]
    rw [bin_add, wrap64 (by omega) (by omega), stDdp hg hb, set_set, hT]
    have hlen : ((digs N (n10 D * 2 ^ k)).take 800).length = min N 800 := by rw [List.length_take, digs_len]; omega
    have hDec : Dec b ((digs N (n10 D * 2 ^ k)).take 800) := by
      refine ⟨hb, by rw [hlen]; omega, fun d hd => digs_dg _ _ d (List.mem_of_mem_take hd), ?_⟩
      rw [hlen]; exact hsh
    have hcut := left_cut (dp := dp) (dp' := dp + ((N : Int) - D.length)) v1 v2 (by omega) (by omega) (by omega) (by omega) htr
    refine ⟨a, b, (digs N (n10 D * 2 ^ k)).take 800, dp + ((N : Int) - D.length), neg, tr', mk, rfl, by rw [set_same, hlen], hDec, ?_⟩
    rw [set_set, if_neg hcut.nrm.ne]
    refine retV_self (hK b _ _ tr' _ ?_ rfl ⟨by omega, by omega⟩ hcut)
    obtain ⟨z, hz⟩ := trimZ_spec ((digs N (n10 D * 2 ^ k)).take 800)
    refine ⟨hb, hcut.nrm.few, hcut.nrm.dg, ?_⟩
    have e := hDec.shows
    have hle : (trimZ ((digs N (n10 D * 2 ^ k)).take 800)).length <= ((digs N (n10 D * 2 ^ k)).take 800).length := by
      have := congrArg List.length hz
      rw [List.length_append] at this
      omega
    have e2 := congrArg (List.take (trimZ ((digs N (n10 D * 2 ^ k)).take 800)).length) e
    rw [List.take_take, Nat.min_eq_left hle, <- List.map_take] at e2
    rw [e2]
    congr 1
    have : ∀ T : List Nat, ((digs N (n10 D * 2 ^ k)).take 800) = T ++ List.replicate z 0 -> ((digs N (n10 D * 2 ^ k)).take 800).take T.length = T := fun T h => by rw [h, List.take_left' rfl]
    exact this _ hz
  have l18 : ∀ (b : List Nat) (tr' : Bool) (j n : Nat), LS D k N tr j n b tr' -> D.length <= j ->
      ∃ I18 : Nat -> List AV -> AS -> Prop, (∃ m, I18 m [.addr a 0, i64 ((N : Int) - D.length), i64 ((N : Int) - j), u64 n] (σ.set a (.cells (dC b D.length dp neg tr') mk))) /\ ∀ (m : Nat) (x0 x1 x2 x3 : AV), ∀ σ, I18 m [x0, x1, x2, x3] σ -> L200_18 env I18 m x0 x1 x2 x3 σ K X := by
    intro b tr' j n hS hj
    refine lp200_18 (α := List Nat × Bool × Nat × Nat) (fun s _ => N - s.2.2.1) (fun s τ => LS D k N tr s.2.2.1 s.2.2.2 s.1 s.2.1 /\ D.length <= s.2.2.1 /\ τ = σ.set a (.cells (dC s.1 D.length dp neg s.2.1) mk)) (fun s => i64 ((N : Int) - s.2.2.1)) (fun s => u64 s.2.2.2) (b, tr', j, n) ⟨hS, hj, rfl⟩ ?_
    rintro ⟨b, tr', j, n⟩ τ ⟨hS, hj, rfl⟩
    dsimp only at hS hj ⊢
    have hb := hS.len
    have hg : (σ.set a (.cells (dC b D.length dp neg tr') mk)) a = some (.cells (dC b D.length dp neg tr') mk) := set_same _ _ _
    have hnl := hS.lt hN.dg
    have hjN := hS.le
    unfold L200_18
    simp only [lock_eq, bin_gtr, cond_bool]
    refine iteI (fun g => ?_) (fun g => ?_)
    · have g : 0 < n := by simpa using g
      have hjlt : j < N := by
        rcases Nat.lt_or_ge j N with h | h
        · exact h
        · exfalso
          have e := hS.eq
          rw [show D.length - j = 0 by omega, List.drop_zero] at e
          have h1 : 10 ^ N <= 10 ^ j := Nat.pow_le_pow_right (by decide) h
          have h2 : 1 * 10 ^ j <= n * 10 ^ j := Nat.mul_le_mul_right _ g
          omega
      have hnx : n * 10 ^ j + n10 D * 2 ^ k % 10 ^ j = n10 (D.drop (D.length - (j + 1))) * 2 ^ k := by
        have e := hS.eq
        rwa [show D.length - j = D.length - (j + 1) by omega] at e
      have hst := hS.step hnx hNm.1 hjlt
      rw [show (AV.pv (.int .u64 10)) = u64 10 from rfl, quoU (by decide) (by omega), mulU (by omega), subU (by omega) (by omega), show n - 10 * (n / 10) = n % 10 by omega, bin_sub, wrap64 (by omega) (by omega), show (N : Int) - j - 1 = ((N - 1 - j : Nat) : Int) by omega, bin_lss, cond_bool]
      have ew : (((N - 1 - j : Nat) : Int)) = (N : Int) - ((j + 1 : Nat) : Int) := by omega
      refine iteI (fun g2 => ?_) (fun g2 => ?_)
      · have g2 : N - 1 - j < 800 := by
          have := of_decide_eq_true g2
          omega
        rw [if_pos g2, if_pos g2] at hst
        rw [addI (y := 48) _ 48 rfl (by omega), T.cv108_5, wU8 (by omega)]
        simp only [nil_addr, T.fa181_0, Nat.zero_add, ixD g2, stDb hg hb g2, set_set]
        exact back (b.set (N - 1 - j) (n % 10 + 48), tr', j + 1, n / 10) (by dsimp only; rw [ew]) (by dsimp only; omega) ⟨hst, by dsimp only; omega, rfl⟩
      · have g2 : ¬ N - 1 - j < 800 := fun e => g2 (decide_eq_true (by omega))
        rw [if_neg g2, if_neg g2] at hst
        rw [bin_neq, cond_bool]
        refine iteI (fun g3 => ?_) (fun g3 => ?_)
        · have g3 : n % 10 ≠ 0 := by
            intro e; rw [e] at g3; exact absurd g3 (by decide)
          rw [decide_eq_true g3, Bool.or_true] at hst
          simp only [nil_addr, T.fa181_4, Nat.zero_add, stDtr hg hb, set_set]
          exact back (b, true, j + 1, n / 10) (by dsimp only; rw [ew]) (by dsimp only; omega) ⟨hst, by dsimp only; omega, rfl⟩
        · have g3 : ¬ n % 10 ≠ 0 := by
            intro e; exact g3 (bne_iff_ne.2 (by omega))
          rw [decide_eq_false g3, Bool.or_false] at hst
          exact back (b, tr', j + 1, n / 10) (by dsimp only; rw [ew]) (by dsimp only; omega) ⟨hst, by dsimp only; omega, rfl⟩
    · have g : n = 0 := by
        have : ¬ 0 < n := by simpa using g
        omega
      subst g
      have h := fin b tr' j hS hj
      simp only [nil_addr, T.fa181_1, Nat.zero_add, ldDnd hg hb]
      rw [bin_add, wrap64 (by omega) (by omega), show (D.length : Int) + ((N : Int) - D.length) = (N : Int) by omega, stDnd hg hb, set_set]
      have hg2 : (σ.set a (.cells (dC b (N : Int) dp neg tr') mk)) a = some (.cells (dC b (N : Int) dp neg tr') mk) := set_same _ _ _
      simp only [ldDnd hg2 hb, bin_geq, cond_bool]
      refine iteI (fun g2 => ?_) (fun g2 => ?_)
      · have g2 : 800 <= N := by
          have := of_decide_eq_true g2
          omega
        rw [show (AV.pv (.int .i64 800)) = i64 ((min N 800 : Nat) : Int) by rw [Nat.min_eq_right g2]; rfl, stDnd hg2 hb, set_set]
        exact h
      · have g2 : N < 800 := by
          have : ¬ ((N : Int) ≥ 800) := fun e => g2 (decide_eq_true e)
          omega
        rw [show ((N : Nat) : Int) = ((min N 800 : Nat) : Int) by rw [Nat.min_eq_left (Nat.le_of_lt g2)]]
        rw [show ((min N 800 : Nat) : Int) - (D.length : Int) = (N : Int) - D.length by rw [Nat.min_eq_left (Nat.le_of_lt g2)]]
        exact h
  have j3 : J200_3 env (.addr a 0) (u64 k) (i64 ((N : Int) - D.length)) σ K X := by
    unfold J200_3
    simp only [lock_eq, nil_addr, T.fa181_1, Nat.zero_add, ldDnd ha hb]
    rw [bin_add, wrap64 (by omega) (by omega), bin_sub, wrap64 (by omega) (by omega), show (D.length : Int) + ((N : Int) - D.length) = (N : Int) - (0 : Nat) by omega, show (D.length : Int) - 1 = (D.length : Int) - 1 - (0 : Nat) by omega, show (AV.pv (.int .u64 0)) = u64 0 from rfl]
    refine lp200_7 (α := List Nat × Bool × Nat × Nat) (fun s _ => D.length - s.2.2.1) (fun s τ => LS D k N tr s.2.2.1 s.2.2.2 s.1 s.2.1 /\ s.2.2.1 <= D.length /\ τ = σ.set a (.cells (dC s.1 D.length dp neg s.2.1) mk)) (fun s => i64 ((D.length : Int) - 1 - s.2.2.1)) (fun s => i64 ((N : Int) - s.2.2.1)) (fun s => u64 s.2.2.2) (b, tr, 0, 0) ⟨LS.start hb fun i hi => hD.get hi, Nat.zero_le _, (set_self ha).symm⟩ ?_
    rintro ⟨b, tr', j, n⟩ τ ⟨hS, hj, rfl⟩
    dsimp only at hS hj ⊢
    have hb := hS.len
    have hg : (σ.set a (.cells (dC b D.length dp neg tr') mk)) a = some (.cells (dC b D.length dp neg tr') mk) := set_same _ _ _
    have hnl := hS.lt hN.dg
    unfold L200_7
    simp only [lock_eq, bin_geq, cond_bool]
    refine iteI (fun g => ?_) (fun g => ?_)
    · have g : j < D.length := by
        have := of_decide_eq_true g
        omega
      have hst := hS.step (hS.next g) hNm.1 (by omega)
      have hc := getD_lt hN.dg (D.length - 1 - j)
      have hlo := hS.lo (D.length - 1 - j) (by omega)
      have hsh : D.getD (D.length - 1 - j) 0 * 2 ^ k <= 9 * 2 ^ k := Nat.mul_le_mul_right _ (by omega)
      rw [show (D.length : Int) - 1 - j = ((D.length - 1 - j : Nat) : Int) by omega]
      simp only [nil_addr, T.fa181_0, Nat.zero_add, ixD (show D.length - 1 - j < 800 by omega), ldDb hg hb (show D.length - 1 - j < 800 by omega), hlo]
      generalize D.getD (D.length - 1 - j) 0 = d at *
      have e1 : d * 2 ^ k % 18446744073709551616 = d * 2 ^ k := Nat.mod_eq_of_lt (by omega)
      rw [T.cv5_108, wU64n (by omega), subI (y := 48) _ 48 rfl (by omega) (by omega), Nat.add_sub_cancel, shlU (by omega), e1, addU (by omega)]
      have htl : n + d * 2 ^ k < 18446744073709551616 := by omega
      generalize n + d * 2 ^ k = t at *
      rw [show (AV.pv (.int .u64 10)) = u64 10 from rfl, quoU (by decide) (by omega), mulU (by omega), subU (by omega) (by omega), show t - 10 * (t / 10) = t % 10 by omega, bin_sub, wrap64 (by omega) (by omega), show (N : Int) - j - 1 = ((N - 1 - j : Nat) : Int) by omega, bin_lss, cond_bool]
      have ew : (((N - 1 - j : Nat) : Int)) = (N : Int) - ((j + 1 : Nat) : Int) := by omega
      have er : ((D.length - 1 - j : Nat) : Int) - 1 = (D.length : Int) - 1 - ((j + 1 : Nat) : Int) := by omega
      refine iteI (fun g2 => ?_) (fun g2 => ?_)
      · have g2 : N - 1 - j < 800 := by
          have := of_decide_eq_true g2
          omega
        rw [if_pos g2, if_pos g2] at hst
        rw [addI (y := 48) _ 48 rfl (by omega), T.cv108_5, wU8 (by omega)]
        simp only [ixD g2, stDb hg hb g2, set_set]
        rw [bin_sub, wrap64 (by omega) (by omega)]
        exact back (b.set (N - 1 - j) (t % 10 + 48), tr', j + 1, t / 10) (by dsimp only; rw [ew, er]) (by dsimp only; omega) ⟨hst, g, rfl⟩
      · have g2 : ¬ N - 1 - j < 800 := fun e => g2 (decide_eq_true (by omega))
        rw [if_neg g2, if_neg g2] at hst
        rw [bin_neq, cond_bool]
        refine iteI (fun g3 => ?_) (fun g3 => ?_)
        · have g3 : t % 10 ≠ 0 := by
            intro e; rw [e] at g3; exact absurd g3 (by decide)
          rw [decide_eq_true g3, Bool.or_true] at hst
          simp only [T.fa181_4, Nat.zero_add, stDtr hg hb, set_set]
          rw [bin_sub, wrap64 (by omega) (by omega)]
          exact back (b, true, j + 1, t / 10) (by dsimp only; rw [ew, er]) (by dsimp only; omega) ⟨hst, g, rfl⟩
        · have g3 : ¬ t % 10 ≠ 0 := by
            intro e; exact g3 (bne_iff_ne.2 (by omega))
          rw [decide_eq_false g3, Bool.or_false] at hst
          rw [bin_sub, wrap64 (by omega) (by omega)]
          exact back (b, tr', j + 1, t / 10) (by dsimp only; rw [ew, er]) (by dsimp only; omega) ⟨hst, g, rfl⟩
    · have g : j = D.length := by
        have : ¬ ((D.length : Int) - 1 - j ≥ 0) := fun e => g (decide_eq_true e)
        omega
      exact l18 b tr' j n hS (by omega)
  rw [<- S200_eq env, S200]
  simp only [lock_eq, ld_cheats, ix_cheats (show k < 61 by omega), T.fe256_0, le_delta hC, nil_addr, T.fa181_0, T.fa181_1, Nat.zero_add, ldDnd ha hb]
  rw [arrD ha hb hm hf]
  simp only [T.fe256_1, le_cut hC]
  rw [hL]
  refine ⟨a, b, D, _, dp, neg, tr, mk, bs, rfl, ha, hD, hC.lo, hbl, ?_⟩
  dsimp only
  rw [cond_bool]
  refine iteI (fun g => ?_) (fun g => ?_)
  · rw [if_pos g] at hNe
    rw [bin_sub, wrap64 (by omega) (by omega), show (dl : Int) - 1 = (N : Int) - D.length by omega]
    exact j3
  · rw [if_neg g] at hNe
    rw [show (dl : Int) = (N : Int) - D.length by omega]
    exact j3
end
end Go.AD.Fl

set_option maxRecDepth 100000
set_option linter.unusedSimpArgs false
namespace Go.AD.Fp
theorem Inv.low {A0 : Nat} {D : List Nat} {dp : Int} {tr : Bool} {s C : Int} (h : Inv A0 D dp tr s C) (h1 : -2000 <= dp) : 10 ^ (dp + 5999).toNat * 2 ^ (-s).toNat <= A0 * 2 ^ s.toNat := by
  obtain ⟨Y, e1, e2, _, _⟩ := h.ex
  rw [<- e1]
  exact Nat.mul_le_mul_right _ (Nat.le_trans (h.nrm.sc_ge h1) e2)
set_option exponentiation.threshold 10000 in
theorem Inv.high {A0 : Nat} {D : List Nat} {dp : Int} {tr : Bool} {s C : Int} (h : Inv A0 D dp tr s C) (h1 : -2000 <= dp) (h0 : dp <= 0) (hs : s <= C) : A0 * 2 ^ s.toNat < e6000 * 2 ^ (-s).toNat := by
  obtain ⟨Y, e1, e2, _, e4⟩ := h.ex
  rw [<- e1]
  refine Nat.mul_lt_mul_of_pos_right ?_ (two_pos _)
  apply Classical.byContradiction
  intro hc
  have a := e4 s hs 1
  rw [Int.sub_self, show (0 : Int).toNat = 0 from rfl, Nat.pow_zero, Nat.mul_one, Nat.mul_one, Nat.mul_one, Nat.one_mul] at a
  have b := a (by unfold e6000 at hc; omega)
  have c := h.nrm.sc_lt h1
  have d : 10 ^ (dp + 6000).toNat <= 10 ^ 6000 := Nat.pow_le_pow_right (by decide) (by omega)
  omega
theorem first_digit {D : List Nat} (h : Nrm0 D) : D.getD 0 0 * 10 ^ (D.length - 1) <= n10 D /\ n10 D < (D.getD 0 0 + 1) * 10 ^ (D.length - 1) := by
  cases D with
  | nil => exact absurd rfl h.ne
  | cons d l =>
    have := n10_lt (l := l) (fun x hx => h.dg x (List.mem_cons_of_mem _ hx))
    rw [n10_cons]
    show d * 10 ^ l.length <= _ /\ _ < (d + 1) * 10 ^ l.length
    rw [Nat.add_mul]
    omega
theorem sc_first {D : List Nat} (h : Nrm0 D) : D.getD 0 0 * 10 ^ 5999 <= sc D 0 /\ sc D 0 < (D.getD 0 0 + 1) * 10 ^ 5999 := by
  obtain ⟨h1, h2⟩ := first_digit h
  have hf := h.few
  have hl : 0 < D.length := List.length_pos_iff.2 h.ne
  have e : 10 ^ (D.length - 1) * 10 ^ ((0 : Int) + 6000 - D.length).toNat = 10 ^ 5999 := by rw [tw]; congr 1; omega
  unfold sc
  rw [<- e, <- Nat.mul_assoc, <- Nat.mul_assoc]
  exact ⟨Nat.mul_le_mul_right _ h1, Nat.mul_lt_mul_of_pos_right h2 (ten_pos _)⟩
theorem ten6000 : e6000 = 10 * 10 ^ 5999 := by
  unfold e6000
  generalize hk : 5999 = k
  rw [show 6000 = k + 1 by omega, Nat.pow_succ, Nat.mul_comm]
set_option exponentiation.threshold 10000 in
theorem Inv.half {A0 : Nat} {D : List Nat} {tr : Bool} {s C : Int} (h : Inv A0 D 0 tr s C) (hd : 5 <= D.getD 0 0) : e6000 * 2 ^ (-s).toNat <= 2 * (A0 * 2 ^ s.toNat) := by
  obtain ⟨Y, e1, e2, _, _⟩ := h.ex
  rw [<- e1, <- Nat.mul_assoc]
  refine Nat.mul_le_mul_right _ ?_
  have a := (sc_first h.nrm).1
  have b : 5 * 10 ^ 5999 <= D.getD 0 0 * 10 ^ 5999 := Nat.mul_le_mul_right _ hd
  have c := ten6000
  generalize 10 ^ 5999 = M at *
  generalize sc D 0 = S at *
  omega
theorem dp_le {D' : List Nat} {dp' : Int} {n m : Nat} (h' : Nrm0 D') (hp : -2000 <= dp') (h : sc D' dp' <= n) (hn : n < 10 ^ m) : dp' + 5999 < m := by
  have a := h'.sc_ge hp
  have b := (Nat.pow_lt_pow_iff_right (a := 10) (by decide)).1 (Nat.lt_of_le_of_lt a (Nat.lt_of_le_of_lt h hn))
  omega
def pt (i : Nat) : Nat := if 9 <= i then 27 else [1, 3, 6, 9, 13, 16, 19, 23, 26].getD i 0
theorem pt_cases {i : Nat} (P : Nat -> Nat -> Prop) (h9 : 9 <= i -> P i 27) (h : ∀ j, j < 9 -> P j ([1, 3, 6, 9, 13, 16, 19, 23, 26].getD j 0)) : P i (pt i) := by
  unfold pt
  split
  · rename_i g; exact h9 g
  · rename_i g; exact h i (by omega)
theorem pt_pos (i : Nat) : 1 <= pt i := pt_cases (fun _ n => 1 <= n) (fun _ => by decide) (by decide)
theorem pt_le (i : Nat) : pt i <= 27 := pt_cases (fun _ n => n <= 27) (fun _ => by decide) (by decide)
theorem pt_pow (i : Nat) (h : 1 <= i) : 2 ^ pt i <= 10 ^ i :=
  pt_cases (fun i n => 1 <= i -> 2 ^ n <= 10 ^ i) (fun g _ => Nat.le_trans (show 2 ^ 27 <= 10 ^ 9 by decide) (Nat.pow_le_pow_right (by decide) g)) (by decide) h
set_option exponentiation.threshold 10000 in
theorem up_lt {D : List Nat} {dp : Int} (h : Nrm0 D) (h1 : -2000 <= dp) (h0 : dp <= 0) (hd : dp < 0 \/ D.getD 0 0 < 5) : sc D dp * 2 ^ pt (-dp).toNat < 10 ^ 6000 := by
  rcases (show dp < 0 \/ 0 <= dp by omega) with g | g
  · have a := h.sc_lt h1
    have b := pt_pow (-dp).toNat (by omega)
    have c : 10 ^ (dp + 6000).toNat * 10 ^ (-dp).toNat = 10 ^ 6000 := by rw [tw]; congr 1; omega
    rw [<- c]
    exact Nat.lt_of_lt_of_le (Nat.mul_lt_mul_of_pos_right a (two_pos _)) (Nat.mul_le_mul_left _ b)
  · obtain rfl : dp = 0 := by omega
    have hd : D.getD 0 0 < 5 := by rcases hd with hd | hd <;> omega
    have a := (sc_first h).2
    have b : (D.getD 0 0 + 1) * 10 ^ 5999 <= 5 * 10 ^ 5999 := Nat.mul_le_mul_right _ (by omega)
    have e : pt (-(0 : Int)).toNat = 1 := by decide
    rw [e]
    have c := ten6000
    unfold e6000 at c
    rw [c]
    generalize 10 ^ 5999 = M at *
    omega
theorem dbl_few {A0 x : Nat} {s : Int} (hA : 10 ^ (5999 - x) <= A0) (hx : x <= 5999) (h : A0 * 2 ^ s.toNat < e6000 * 2 ^ (-s).toNat) : s < 10 * (((x : Int) + 3) / 3) := by
  apply Classical.byContradiction
  intro hc
  have hs : 0 <= s := by omega
  rw [show (-s).toNat = 0 by omega, Nat.pow_zero, Nat.mul_one] at h
  have a : 10 ^ (5999 - x) * 2 ^ (10 * ((x + 3) / 3)) <= A0 * 2 ^ s.toNat := Nat.mul_le_mul hA (Nat.pow_le_pow_right (by decide) (by omega))
  have b : 10 ^ (x + 1) <= 2 ^ (10 * ((x + 3) / 3)) := by
    rw [Nat.pow_mul]
    refine Nat.le_trans (Nat.pow_le_pow_right (by decide) (show x + 1 <= 3 * ((x + 3) / 3) by omega)) ?_
    rw [Nat.pow_mul]
    exact Nat.pow_le_pow_left (by decide) _
  have c : 10 ^ (5999 - x) * 10 ^ (x + 1) = e6000 := by unfold e6000; rw [tw]; congr 1; omega
  have d := Nat.mul_le_mul_left (10 ^ (5999 - x)) b
  omega
set_option exponentiation.threshold 10000 in
theorem dbl_330 {A0 x : Nat} {s : Int} (hA : 10 ^ (5999 - x) <= A0) (hx : x <= 330) (h : A0 * 2 ^ s.toNat < e6000 * 2 ^ (-s).toNat) : s <= 1099 := by
  apply Classical.byContradiction
  intro hc
  rw [show (-s).toNat = 0 by omega, Nat.pow_zero, Nat.mul_one] at h
  have a : 10 ^ (5999 - 330) * 2 ^ 1100 <= A0 * 2 ^ s.toNat := Nat.mul_le_mul (Nat.le_trans (Nat.pow_le_pow_right (by decide) (by omega)) hA) (Nat.pow_le_pow_right (by decide) (by omega))
  have b : 10 ^ 331 <= 2 ^ 1100 := by decide +kernel
  have c : 10 ^ (5999 - 330) * 10 ^ 331 = e6000 := by unfold e6000; rw [tw]
  have d := Nat.mul_le_mul_left (10 ^ (5999 - 330)) b
  generalize 10 ^ (5999 - 330) = M at *
  generalize 2 ^ 1100 = N at *
  omega
def UpOk (A0 : Nat) (C : Int) : Prop := ∀ s : Int, A0 * 2 ^ s.toNat < e6000 * 2 ^ (-s).toNat -> s + 27 <= C /\ min (s + 53) 1074 + 1 <= C /\ s <= 1099
theorem upOk_small {D : List Nat} {dp : Int} (h : Nrm0 D) (h1 : -330 <= dp) (h0 : dp <= 0) : UpOk (sc D dp) (800 - dp) := by
  intro s hs
  obtain ⟨x, rfl⟩ : ∃ x : Nat, dp = -(x : Int) := ⟨(-dp).toNat, by omega⟩
  have a : 10 ^ (5999 - x) <= sc D (-(x : Int)) := by
    have := h.sc_ge (dp := -(x : Int)) (by omega)
    rwa [show (-(x : Int) + 5999).toNat = 5999 - x by omega] at this
  have b := dbl_few a (by omega) hs
  have c := dbl_330 a (by omega) hs
  omega
set_option exponentiation.threshold 10000 in
theorem upOk_after {A0 : Nat} {D : List Nat} {dp : Int} {tr : Bool} {s : Int} (h : Inv A0 D dp tr s (s + 470)) (h1 : -40 <= dp) (h0 : dp <= 0) (hs : s <= 0) : UpOk A0 (s + 470) := by
  intro s' hs'
  have a := h.low (by omega)
  have b : 10 ^ 5959 <= 10 ^ (dp + 5999).toNat := Nat.pow_le_pow_right (by decide) (by omega)
  have key : s' < s + 140 := by
    apply Classical.byContradiction
    intro hc
    have c : 10 ^ 5959 * 2 ^ (-s).toNat <= A0 * 2 ^ s.toNat := Nat.le_trans (Nat.mul_le_mul_right _ b) a
    have d : 10 ^ 5959 * 2 ^ ((-s').toNat + 140) <= A0 * 2 ^ s'.toNat := by
      have e1 : 10 ^ 5959 * 2 ^ ((-s).toNat) <= A0 * 2 ^ s.toNat := c
      rcases (show s' < 0 \/ 0 <= s' by omega) with g | g
      · have e2 := lepow (a' := (-s').toNat + (s' - s).toNat) (b' := s'.toNat) e1 (by omega)
        exact Nat.le_trans (Nat.mul_le_mul_left _ (Nat.pow_le_pow_right (by decide) (by omega))) e2
      · have e2 := lepow (a' := (s' - s).toNat) (b' := s'.toNat) e1 (by omega)
        exact Nat.le_trans (Nat.mul_le_mul_left _ (Nat.pow_le_pow_right (by decide) (by omega))) e2
    have f : 10 ^ 5959 * 2 ^ 140 ≥ e6000 := by
      have : (10 : Nat) ^ 41 <= 2 ^ 140 := by decide
      have g : 10 ^ 5959 * 10 ^ 41 = e6000 := by unfold e6000; rw [tw]
      rw [<- g]
      exact Nat.mul_le_mul_left _ this
    rw [Nat.add_comm, <- pw, <- Nat.mul_assoc] at d
    have := Nat.mul_le_mul_right (2 ^ (-s').toNat) f
    omega
  omega
set_option exponentiation.threshold 10000 in
theorem halved_few {A0 : Nat} {D : List Nat} {dp : Int} {tr : Bool} {s C : Int} (h : Inv A0 D dp tr s C) (hA : A0 < 10 ^ 6310) (h0 : 0 < dp) (h1 : dp <= 2000) : -1030 < s := by
  apply Classical.byContradiction
  intro hc
  have a := h.low (by omega)
  rw [show s.toNat = 0 by omega, Nat.pow_zero, Nat.mul_one] at a
  have b : 10 ^ 6000 * 2 ^ 1030 <= 10 ^ (dp + 5999).toNat * 2 ^ (-s).toNat := Nat.mul_le_mul (Nat.pow_le_pow_right (by decide) (by omega)) (Nat.pow_le_pow_right (by decide) (by omega))
  have c : 10 ^ 310 <= 2 ^ 1030 := by decide +kernel
  have d : 10 ^ 6000 * 10 ^ 310 = 10 ^ 6310 := tw _ _
  have e := Nat.mul_le_mul_left (10 ^ 6000) c
  rw [d] at e
  omega
set_option exponentiation.threshold 10000 in
theorem sc_dvd {D : List Nat} {dp : Int} (h : D.length <= 800) (h1 : -330 <= dp) : 2 ^ 3000 ∣ sc D dp := by
  unfold sc
  refine Nat.dvd_trans ?_ (Nat.dvd_mul_left ..)
  have e : (10 : Nat) ^ (dp + 6000 - D.length).toNat = 2 ^ (dp + 6000 - D.length).toNat * 5 ^ (dp + 6000 - D.length).toNat := by rw [<- Nat.mul_pow]
  rw [e]
  exact Nat.dvd_trans (Nat.pow_dvd_pow 2 (by omega)) (Nat.dvd_mul_right ..)
set_option exponentiation.threshold 10000 in
theorem sc_6310 {D : List Nat} {dp : Int} (h : Nrm0 D) (h1 : -2000 <= dp) (h2 : dp <= 310) : sc D dp < 10 ^ 6310 := Nat.lt_of_lt_of_le (h.sc_lt h1) (Nat.pow_le_pow_right (by decide) (by omega))
end Go.AD.Fp

set_option maxRecDepth 100000
set_option linter.unusedSimpArgs false
namespace Go.AD.Fp
def upB (D : List Nat) (nd : Int) (tr : Bool) : Bool :=
  if nd < 0 \/ (D.length : Int) <= nd then false
  else if D.getD nd.toNat 0 = 5 /\ nd + 1 = D.length then (if tr = true then true else decide (0 < nd) && decide (D.getD (nd.toNat - 1) 0 % 2 ≠ 0))
  else decide (5 <= D.getD nd.toNat 0)
theorem pn_odd (D : List Nat) (r : Nat) : pn D r % 2 = if 0 < r then D.getD (r - 1) 0 % 2 else 0 := by
  cases r with
  | zero => rw [pn_zero]; rfl
  | succ r => rw [pn_succ, if_pos (by omega), Nat.add_sub_cancel]; omega
theorem rneT_digit {n f m r : Nat} {tr : Bool} (hf : f < 10) (hr : r < 10 ^ m) : rneT ((n * 10 ^ (m + 1) + f * 10 ^ m + r) * 10 ^ 1) (10 ^ (m + 2)) tr = n + if 5 < f \/ (f = 5 /\ (r ≠ 0 \/ (tr = true \/ n % 2 = 1))) then 1 else 0 := by
  have hp := ten_pos m
  have e1 : 10 ^ (m + 2) = 100 * 10 ^ m := by rw [show m + 2 = m + 1 + 1 by omega, Nat.pow_succ, Nat.pow_succ]; omega
  have e0 : 10 ^ (m + 1) = 10 * 10 ^ m := by rw [Nat.pow_succ]; omega
  have hlt : (f * 10 ^ m + r) * 10 < 100 * 10 ^ m := by
    have : f * 10 ^ m <= 9 * 10 ^ m := Nat.mul_le_mul_right _ (by omega)
    omega
  have e2 : (n * 10 ^ (m + 1) + f * 10 ^ m + r) * 10 ^ 1 = (f * 10 ^ m + r) * 10 + 100 * 10 ^ m * n := by
    rw [e0, Nat.pow_one, show n * (10 * 10 ^ m) = 10 * 10 ^ m * n from Nat.mul_comm _ _, show 100 * 10 ^ m * n = 10 * (10 * 10 ^ m * n) by rw [<- Nat.mul_assoc, <- Nat.mul_assoc]]
    omega
  unfold rneT
  rw [e2, e1, Nat.add_mul_div_left _ _ (by omega), Nat.add_mul_mod_self_left, Nat.div_eq_of_lt hlt, Nat.mod_eq_of_lt hlt, Nat.zero_add]
  congr 1
  have : f = 0 \/ f = 1 \/ f = 2 \/ f = 3 \/ f = 4 \/ f = 5 \/ f = 6 \/ f = 7 \/ f = 8 \/ f = 9 := by omega
  generalize 10 ^ m = M at *
  by_cases hq : (tr = true \/ n % 2 = 1) <;> rcases this with rfl | rfl | rfl | rfl | rfl | rfl | rfl | rfl | rfl | rfl <;> simp only [hq, and_true, and_false, or_true, or_false] <;> (split <;> split <;> first | omega | (simp at *; done) | (simp at *; omega))
theorem rneT_scale {a b : Nat} {tr : Bool} (k : Nat) (hk : 0 < k) (hb : 0 < b) : rneT (a * k) (b * k) tr = rneT a b tr := by
  have key : ∀ n, n + 1 <= rneT (a * k) (b * k) tr ↔ n + 1 <= rneT a b tr := by
    intro n
    rw [le_rneT (Nat.mul_pos hb hk), le_rneT hb, <- Nat.mul_assoc, <- Nat.mul_assoc, Nat.mul_lt_mul_right hk, Nat.mul_left_inj (by omega)]
  have k1 := fun n => (key n).1
  have k2 := fun n => (key n).2
  generalize rneT (a * k) (b * k) tr = x at *
  generalize rneT a b tr = y at *
  rcases Nat.lt_trichotomy x y with g | g | g
  · have := k2 x g; omega
  · exact g
  · have := k1 y g; omega
set_option exponentiation.threshold 10000 in
theorem rneT_upB {D : List Nat} {dp : Int} {tr : Bool} (h : Nrm D) (h1 : -2000 <= dp) : rneT (sc D dp) (10 ^ 6000) tr = pn D dp.toNat + if upB D dp tr = true then 1 else 0 := by
  have hf := h.few
  have hl : 0 < D.length := List.length_pos_iff.2 h.ne
  rcases (show dp < 0 \/ (D.length : Int) <= dp \/ 0 <= dp /\ dp < D.length by omega) with g | g | ⟨g, g2⟩
  · have e : upB D dp tr = false := by unfold upB; rw [if_pos (.inl g)]
    rw [e, show dp.toNat = 0 by omega, pn_zero]
    have a := h.sc_lt h1
    have b : 10 ^ (dp + 6000).toNat <= 10 ^ 5999 := Nat.pow_le_pow_right (by decide) (by omega)
    have c := ten6000
    unfold e6000 at c
    unfold rneT
    rw [c]
    have p := ten_pos 5999
    generalize 10 ^ 5999 = M at *
    rw [Nat.div_eq_of_lt (by omega), Nat.mod_eq_of_lt (by omega), if_neg (by omega)]
    rfl
  · have e : upB D dp tr = false := by unfold upB; rw [if_pos (.inr g)]
    have e2 : sc D dp = pn D dp.toNat * 10 ^ 6000 := by
      unfold sc
      rw [pn_all (by omega), Nat.mul_assoc, tw]
      congr 2
      omega
    unfold rneT
    rw [e, e2, Nat.mul_div_cancel _ (ten_pos _), Nat.mul_mod_left, if_neg (by have := ten_pos 6000; omega)]
    rfl
  · obtain ⟨p, rfl⟩ : ∃ p : Nat, dp = (p : Int) := ⟨dp.toNat, by omega⟩
    rw [Int.toNat_natCast]
    have hp : p < D.length := by omega
    obtain ⟨m, hm⟩ : ∃ m, D.length = p + 1 + m := ⟨D.length - p - 1, by omega⟩
    have hc : n10 D = pn D p * 10 ^ (m + 1) + D.getD p 0 * 10 ^ m + n10 (D.drop (p + 1)) := by
      conv => lhs; rw [<- List.take_append_drop p D]
      rw [n10_app, List.drop_eq_getElem_cons hp, n10_cons, List.length_cons, List.length_drop, show D.length - (p + 1) = m by omega]
      unfold pn
      rw [show p - D.length = 0 by omega, Nat.pow_zero, Nat.mul_one, List.getD_eq_getElem?_getD, List.getElem?_eq_getElem hp]
      simp only [Option.getD_some]
      omega
    have hr : n10 (D.drop (p + 1)) < 10 ^ m := by
      have := n10_lt (l := D.drop (p + 1)) (by have := h.dg; rw [<- List.take_append_drop (p + 1) D] at this; exact this.right)
      rwa [List.length_drop, show D.length - (p + 1) = m by omega] at this
    have hfd : D.getD p 0 < 10 := by
      rw [List.getD_eq_getElem?_getD, List.getElem?_eq_getElem hp]
      exact h.dg _ (List.getElem_mem hp)
    have hz : n10 (D.drop (p + 1)) ≠ 0 ↔ p + 1 < D.length := by
      constructor
      · intro h2
        rcases Nat.lt_or_ge (p + 1) D.length with g | g
        · exact g
        · rw [List.drop_eq_nil_of_le g] at h2; exact absurd rfl h2
      · intro h2 h3
        have hne : D.drop (p + 1) ≠ [] := fun e => by rw [List.drop_eq_nil_iff] at e; omega
        have hlast := h.la
        rw [<- List.take_append_drop (p + 1) D, List.getLast?_append, List.getLast?_eq_some_getLast hne] at hlast
        have hd : (D.drop (p + 1)).getLast hne ≠ 0 := fun e => hlast (by rw [e]; rfl)
        have e := List.dropLast_concat_getLast hne
        rw [<- e, n10_snoc] at h3
        omega
    have e1 : sc D (p : Int) * 10 = (pn D p * 10 ^ (m + 1) + D.getD p 0 * 10 ^ m + n10 (D.drop (p + 1))) * 10 ^ 1 * 10 ^ (5999 - m) := by
      unfold sc
      rw [hc, Nat.pow_one, Nat.mul_assoc, Nat.mul_assoc]
      congr 1
      rw [Nat.mul_comm]
      congr 2
      omega
    have e2 : 10 ^ 6000 * 10 = 10 ^ (m + 2) * 10 ^ (5999 - m) := by rw [tw, <- Nat.pow_succ]; congr 1; omega
    rw [<- rneT_scale 10 (by decide) (ten_pos _), e1, e2, rneT_scale _ (ten_pos _) (ten_pos _), rneT_digit hfd hr]
    congr 1
    have e3 := pn_odd D p
    have eu : upB D (p : Int) tr = if D.getD p 0 = 5 /\ (p : Int) + 1 = D.length then (if tr = true then true else decide (0 < (p : Int)) && decide (D.getD (p - 1) 0 % 2 ≠ 0)) else decide (5 <= D.getD p 0) := by
      unfold upB
      rw [if_neg (show ¬ ((p : Int) < 0 \/ (D.length : Int) <= (p : Int)) by omega), Int.toNat_natCast]
    rw [eu]
    by_cases g5 : D.getD p 0 = 5
    · by_cases gl : (p : Int) + 1 = D.length
      · have hz0 : n10 (D.drop (p + 1)) = 0 := Classical.byContradiction fun e => by have := hz.1 e; omega
        rw [show (if D.getD p 0 = 5 /\ (p : Int) + 1 = D.length then (if tr = true then true else decide (0 < (p : Int)) && decide (D.getD (p - 1) 0 % 2 ≠ 0)) else decide (5 <= D.getD p 0)) = _ from if_pos ⟨g5, gl⟩]
        cases tr with
        | true => rw [if_pos (.inr ⟨g5, .inr (.inl rfl)⟩)]; rfl
        | false =>
          by_cases g0 : 0 < p
          · rw [if_pos g0] at e3
            by_cases g1 : D.getD (p - 1) 0 % 2 = 0
            · rw [if_neg (fun hh => by rcases hh with hh | ⟨_, hh | hh | hh⟩ <;> first | omega | cases hh), decide_eq_false (show ¬ D.getD (p - 1) 0 % 2 ≠ 0 by omega), Bool.and_false]; rfl
            · rw [if_pos (.inr ⟨g5, .inr (.inr (by omega))⟩), decide_eq_true (show D.getD (p - 1) 0 % 2 ≠ 0 by omega), decide_eq_true (show 0 < (p : Int) by omega)]; rfl
          · rw [if_neg g0] at e3
            rw [if_neg (fun hh => by rcases hh with hh | ⟨_, hh | hh | hh⟩ <;> first | omega | cases hh), decide_eq_false (show ¬ 0 < (p : Int) by omega)]; rfl
      · have hz0 : n10 (D.drop (p + 1)) ≠ 0 := hz.2 (by omega)
        rw [show (if D.getD p 0 = 5 /\ (p : Int) + 1 = D.length then (if tr = true then true else decide (0 < (p : Int)) && decide (D.getD (p - 1) 0 % 2 ≠ 0)) else decide (5 <= D.getD p 0)) = _ from if_neg (fun e => gl e.2)]
        rw [if_pos (.inr ⟨g5, .inl hz0⟩), decide_eq_true (show 5 <= D.getD p 0 by omega)]; rfl
    · rw [show (if D.getD p 0 = 5 /\ (p : Int) + 1 = D.length then (if tr = true then true else decide (0 < (p : Int)) && decide (D.getD (p - 1) 0 % 2 ≠ 0)) else decide (5 <= D.getD p 0)) = _ from if_neg (fun e => g5 e.1)]
      by_cases g6 : 5 <= D.getD p 0
      · rw [if_pos (.inl (by omega)), decide_eq_true g6]; rfl
      · rw [if_neg (by omega), decide_eq_false g6]; rfl
end Go.AD.Fp

set_option linter.unusedVariables false
set_option linter.unusedSimpArgs false
set_option maxRecDepth 100000
namespace Go.AD.Fl
open Go.Proofs RowKit Go.AD.Fp
theorem pn_lt {D : List Nat} (h : Dg D) : ∀ i, pn D i < 10 ^ i
  | 0 => by rw [pn_zero]; decide
  | i + 1 => by
    have := pn_lt h i
    have := getD_lt h i
    rw [pn_succ, Nat.pow_succ]; omega
section
variable {env : Env} {args : List AV} {σ0 σ τ : AS} {K : AV -> AS -> Prop} {X : PV -> AS -> Prop}
def Moved (σ : AS) (a : Nat) (neg : Bool) (mk : Option TypeId) (A0 : Nat) (s C : Int) (P : Nat -> Int -> Prop) (K : AV -> AS -> Prop) : Prop :=
  ∀ (b D : List Nat) (dp : Int) (tr : Bool), Dec b D -> Nrm D -> Fp.Inv A0 D dp tr s C -> P (sc D dp) dp -> K (.tuple []) (σ.set a (.cells (dC b D.length dp neg tr) mk))
def T_iShift : Tr := fun args σ K _ => ∃ (a : Nat) (b D : List Nat) (dp : Int) (neg tr : Bool) (mk : Option TypeId) (k : Int) (A0 : Nat) (s C : Int), args = [.addr a 0, i64 k] /\ σ a = some (.cells (dC b D.length dp neg tr) mk) /\ Dec b D /\ Fp.Inv A0 D dp tr s C /\
  2 ^ 3000 ∣ A0 /\ k ≠ 0 /\ -120 <= k /\ k <= 60 /\ -400 <= dp /\ dp <= 600 /\ -2500 <= s /\ C <= s + min k 0 + 800 - dp /\
  Moved σ a neg mk A0 (s + k) C (fun Z dp' => Z * 2 ^ (-k).toNat <= sc D dp * 2 ^ k.toNat /\ dp - 40 <= dp' /\ (0 < k -> dp <= dp') /\ dp' <= dp + max k 0) K
theorem T_iShift_ok (hL : env 200 = T_iLeft) (hR : env 201 = T_iRight) (h : T_iShift args σ K X) : bodyD PS env an178 Tryz.f178 args σ K X := by
  obtain ⟨a, b, D, dp, neg, tr, mk, k, A0, s, C, rfl, ha, hD, hI, hA, hk0, hk1, hk2, hd1, hd2, hs, hC, hK⟩ := h
  have hb := hD.len
  have hN := hI.nrm
  have hm : 1 <= D.length := List.length_pos_iff.2 hN.ne
  rw [<- S178_eq env, S178]
  simp only [lock_eq, nil_addr, T.fa181_1, Nat.zero_add, ldDnd ha hb, bin_eql, bin_gtr, bin_lss, cond_bool]
  refine iteI (fun g => ?_) (fun _ => ?_)
  · exfalso
    have : (D.length : Int) = 0 := by simpa using g
    omega
  refine iteI (fun g => ?_) (fun g => ?_)
  · have g : 0 < k := of_decide_eq_true g
    refine lp178_2 (α := Unit) (fun _ _ => 0) (fun _ τ => τ = σ) (fun _ => i64 k) () rfl ?_
    rintro ⟨⟩ τ rfl
    unfold L178_2
    simp only [lock_eq, bin_gtr, cond_bool]
    refine iteI (fun g2 => ?_) (fun _ => ?_)
    · have := of_decide_eq_true g2
      omega
    obtain ⟨n, rfl⟩ : ∃ n : Nat, k = (n : Int) := ⟨k.toNat, by omega⟩
    rw [T.cv3_108, wU64n (by omega), hL]
    refine ⟨a, b, D, dp, neg, tr, mk, n, rfl, ha, hD, hN, by omega, by omega, by omega, by omega, ?_⟩
    intro b' D' dp' tr' Z hD' hZ hdp hcut
    have hX : Z * 2 ^ (-(n : Int)).toNat = sc D dp * 2 ^ ((n : Int)).toNat := by
      rw [show (-(n : Int)).toNat = 0 by omega, Nat.pow_zero, Nat.mul_one, Int.toNat_natCast, hZ]
    have hI' := hI.step (n : Int) hX hcut hA (by omega) (by omega) (by omega) (Int.le_refl C) (by omega)
    refine retV_self (hK b' D' dp' tr' hD' hcut.nrm hI' ⟨?_, by omega, by omega, by omega⟩)
    rw [<- hX]
    exact Nat.mul_le_mul_right _ hcut.lo
  have g : k < 0 := by
    have : ¬ k > 0 := fun e => g (decide_eq_true e)
    omega
  refine iteI (fun _ => ?_) (fun g2 => absurd (decide_eq_true g) g2)
  refine lp178_7 (α := List Nat × List Nat × Int × Bool × Int) (fun s _ => (-s.2.2.2.2).toNat)
    (fun x τ => Dec x.1 x.2.1 /\ Fp.Inv A0 x.2.1 x.2.2.1 x.2.2.2.1 (s + (k - x.2.2.2.2)) C /\ x.2.2.2.2 < 0 /\ (x.2.2.2.2 = k /\ x.2.2.1 = dp \/ x.2.2.2.2 = k + 60 /\ k < -60) /\ sc x.2.1 x.2.2.1 * 2 ^ (x.2.2.2.2 - k).toNat <= sc D dp /\ dp - 20 <= x.2.2.1 /\ x.2.2.1 <= dp /\
      τ = σ.set a (.cells (dC x.1 x.2.1.length x.2.2.1 neg x.2.2.2.1) mk)) (fun x => i64 x.2.2.2.2) (b, D, dp, tr, k) ⟨hD, by dsimp only; rw [Int.sub_self, Int.add_zero]; exact hI, g, .inl ⟨rfl, rfl⟩, by dsimp only; rw [Int.sub_self]; simp, by dsimp only; omega, Int.le_refl _, (set_self ha).symm⟩ ?_
  rintro ⟨b1, D1, dp1, tr1, r⟩ τ ⟨hD1, hI1, hr, hrk, hle, hp1, hp2, rfl⟩
  dsimp only at hD1 hI1 hr hrk hle hp1 hp2 ⊢
  have hg : (σ.set a (.cells (dC b1 D1.length dp1 neg tr1) mk)) a = some (.cells (dC b1 D1.length dp1 neg tr1) mk) := set_same _ _ _
  unfold L178_7
  simp only [lock_eq, bin_lss, cond_bool]
  refine iteI (fun g2 => ?_) (fun g2 => ?_)
  · have g2 : r < -60 := of_decide_eq_true g2
    obtain rfl : r = k := by omega
    obtain rfl : dp1 = dp := by omega
    rw [hR]
    refine ⟨a, b1, D1, dp1, neg, tr1, mk, 60, rfl, hg, hD1, hI1.nrm, by omega, by omega, by omega, ?_⟩
    intro b' D' dp' tr' Z hD' hZ hdp hcut
    have hX : Z * 2 ^ (-(-60 : Int)).toNat = sc D1 dp1 * 2 ^ ((-60 : Int)).toNat := by
      rw [show (-(-60 : Int)).toNat = 60 from rfl, show ((-60 : Int)).toNat = 0 from rfl, Nat.pow_zero, Nat.mul_one, hZ]
    have hI' := hI1.step (-60 : Int) hX hcut hA (by omega) (by omega) (by omega) (Int.le_refl C) (by omega)
    rw [bin_add, wrap64 (by omega) (by omega), set_set]
    refine back (b', D', dp', tr', r + 60) rfl (by dsimp only; omega) ⟨hD', ?_, by dsimp only; omega, .inr ⟨rfl, g2⟩, ?_, by dsimp only; omega, by dsimp only; omega, rfl⟩
    · dsimp only
      rw [show s + (r - (r + 60)) = s + (r - r) + -60 by omega]
      exact hI'
    · dsimp only
      rw [Int.sub_self, show (0 : Int).toNat = 0 from rfl, Nat.pow_zero, Nat.mul_one] at hle
      rw [show (r + 60 - r).toNat = 60 by omega]
      have := Nat.mul_le_mul_right (2 ^ 60) hcut.lo
      omega
  · have g2 : -60 <= r := by
      have : ¬ r < -60 := fun e => g2 (decide_eq_true e)
      omega
    obtain ⟨n, hn⟩ : ∃ n : Nat, r = -(n : Int) := ⟨(-r).toNat, by omega⟩
    subst hn
    rw [un_neg, wrap64 (by omega) (by omega), T.cv3_108, show (0 : Int) - -(n : Int) = (n : Int) by omega, wU64n (by omega), hR]
    refine ⟨a, b1, D1, dp1, neg, tr1, mk, n, rfl, hg, hD1, hI1.nrm, by omega, by omega, by omega, ?_⟩
    intro b' D' dp' tr' Z hD' hZ hdp hcut
    have hX : Z * 2 ^ (-(-(n : Int))).toNat = sc D1 dp1 * 2 ^ (-(n : Int)).toNat := by
      rw [show (-(-(n : Int))).toNat = n by omega, show (-(n : Int)).toNat = 0 by omega, Nat.pow_zero, Nat.mul_one, hZ]
    have hI' := hI1.step (-(n : Int)) hX hcut hA (by omega) (by omega) (by omega) (Int.le_refl C) (by omega)
    rw [show s + (k - -(n : Int)) + -(n : Int) = s + k by omega] at hI'
    rw [set_set]
    refine retV_self (hK b' D' dp' tr' hD' hcut.nrm hI' ⟨?_, by omega, by omega, by omega⟩)
    rw [show k.toNat = 0 by omega, Nat.pow_zero, Nat.mul_one, show (-k).toNat = n + (-(n : Int) - k).toNat by omega, <- pw, <- Nat.mul_assoc]
    refine Nat.le_trans (Nat.mul_le_mul_right _ ?_) hle
    rw [<- hZ]
    exact Nat.mul_le_mul_right _ hcut.lo
def T_iShould : Tr := fun args σ K _ => ∃ (a : Nat) (b D : List Nat) (dp : Int) (neg tr : Bool) (mk : Option TypeId) (nd : Int), args = [.addr a 0, i64 nd] /\ σ a = some (.cells (dC b D.length dp neg tr) mk) /\ Dec b D /\
  -10000 <= nd /\ nd <= 10000 /\ K (.pv (.bool (upB D nd tr))) σ
theorem T_iShould_ok (h : T_iShould args σ K X) : bodyD PS env an202 Tryz.f202 args σ K X := by
  obtain ⟨a, b, D, dp, neg, tr, mk, nd, rfl, ha, hD, h1, h2, hK⟩ := h
  have hb := hD.len
  have hf := hD.few
  unfold upB at hK
  rw [<- S202_eq env, S202]
  simp only [lock_eq, bin_lss, guard_false]
  refine iteI (fun g => ?_) (fun g => ?_)
  · have g : nd < 0 := of_decide_eq_true g
    rw [if_pos (.inl g)] at hK
    exact retV_self hK
  have g : 0 <= nd := by
    have : ¬ nd < 0 := fun e => g (decide_eq_true e)
    omega
  simp only [nil_addr, T.fa181_1, Nat.zero_add, ldDnd ha hb, bin_geq, cond_bool]
  refine iteI (fun g2 => ?_) (fun g2 => ?_)
  · have g2 : nd ≥ D.length := of_decide_eq_true g2
    rw [if_pos (.inr g2)] at hK
    exact retV_self hK
  have g2 : nd < D.length := by
    have : ¬ nd ≥ D.length := fun e => g2 (decide_eq_true e)
    omega
  obtain ⟨n, rfl⟩ : ∃ n : Nat, nd = (n : Int) := ⟨nd.toNat, by omega⟩
  rw [if_neg (by omega), Int.toNat_natCast] at hK
  have hn : n < D.length := by omega
  have hc := getD_lt hD.dg n
  have last : ¬ (D.getD n 0 = 5 /\ (n : Int) + 1 = D.length) -> J202_4 env (.addr a 0) (i64 (n : Int)) (.pv (.bool false)) σ K X := by
    intro hne
    rw [if_neg hne] at hK
    unfold J202_4
    simp only [lock_eq, cond_bool, nil_addr, T.fa181_0, Nat.zero_add, ixD (show n < 800 by omega), ldDb ha hb (show n < 800 by omega), hD.get hn, bin_geq]
    rw [if_neg (by decide)]
    refine retV_self ?_
    rw [show decide (((D.getD n 0 + 48 : Nat) : Int) ≥ 53) = decide (5 <= D.getD n 0) from by rw [decide_eq_decide]; omega]
    exact hK
  unfold J202_3
  simp only [lock_eq, nil_addr, T.fa181_0, T.fa181_1, Nat.zero_add, ixD (show n < 800 by omega), ldDb ha hb (show n < 800 by omega), hD.get hn, bin_eql, guard_true, ldDnd ha hb]
  refine iteI (fun g3 => ?_) (fun g3 => ?_)
  · have g3 : D.getD n 0 = 5 := by
      have : ((D.getD n 0 + 48 : Nat) : Int) = 53 := by simpa using g3
      omega
    rw [bin_add, wrap64 (by omega) (by omega)]
    by_cases g4 : (n : Int) + 1 = D.length
    · rw [bin_eql, beq_iff_eq.2 g4]
      rw [if_pos ⟨g3, g4⟩] at hK
      unfold J202_4
      simp only [lock_eq, cond_bool, nil_addr, T.fa181_4, Nat.zero_add, ldDtr ha hb, bin_gtr, guard_true]
      rw [if_pos trivial]
      cases tr with
      | true => exact retV_self hK
      | false =>
        rw [if_neg (by decide)] at hK
        rw [if_neg (by decide)]
        refine iteI (fun g5 => ?_) (fun g5 => ?_)
        · have g5' := of_decide_eq_true g5
          obtain ⟨m, rfl⟩ : ∃ m, n = m + 1 := ⟨n - 1, by omega⟩
          have hm : m < D.length := by omega
          have hcm := getD_lt hD.dg m
          rw [bin_sub, wrap64 (by omega) (by omega), show (((m + 1 : Nat) : Int) - 1) = (m : Int) by omega]
          simp only [T.fa181_0, Nat.zero_add, ixD (show m < 800 by omega), ldDb ha hb (show m < 800 by omega), hD.get hm]
          rw [bin_sub, show (((D.getD m 0 + 48 : Nat) : Int) - 48) = ((D.getD m 0 : Nat) : Int) by omega, wU8 (by omega), bin_rem]
          refine ⟨by decide, ?_⟩
          rw [bin_neq]
          refine retV_self ?_
          rw [decide_eq_true g5', Bool.true_and, Nat.add_sub_cancel] at hK
          rw [show ((((D.getD m 0 : Nat) : Int).tmod 2 != 0)) = decide (D.getD m 0 % 2 ≠ 0) from ?_]
          · exact hK
          · rw [show (2 : Int) = ((2 : Nat) : Int) from rfl, <- Int.ofNat_tmod]
            rcases Nat.mod_two_eq_zero_or_one (D.getD m 0) with e | e <;> rw [e] <;> rfl
        · rw [decide_eq_false (fun e => g5 (decide_eq_true e)), Bool.false_and] at hK
          exact retV_self hK
    · rw [bin_eql, show ((n : Int) + 1 == (D.length : Int)) = false from by rw [beq_eq_false_iff_ne]; exact g4]
      exact last fun e => g4 e.2
  · exact last fun e => g3 (by rw [e.1]; rfl)
def T_iInteger : Tr := fun args σ K _ => ∃ (a : Nat) (b D : List Nat) (dp : Int) (neg tr : Bool) (mk : Option TypeId), args = [.addr a 0] /\ σ a = some (.cells (dC b D.length dp neg tr) mk) /\ Dec b D /\ Nrm D /\
  -2000 <= dp /\ dp <= 19 /\ K (u64 (rneT (sc D dp) (10 ^ 6000) tr)) σ
theorem T_iInteger_ok (hS : env 202 = T_iShould) (h : T_iInteger args σ K X) : bodyD PS env an179 Tryz.f179 args σ K X := by
  obtain ⟨a, b, D, dp, neg, tr, mk, rfl, ha, hD, hN, h1, h2, hK⟩ := h
  have hb := hD.len
  have hf := hD.few
  rw [rneT_upB hN h1] at hK
  have big : ∀ i : Nat, (i : Int) <= max dp 0 -> pn D i < 10000000000000000000 := by
    intro i hi
    refine Nat.lt_of_lt_of_le (pn_lt hD.dg i) (Nat.le_trans (Nat.pow_le_pow_right (by decide) (show i <= 19 by omega)) (by decide))
  have l9 : ∀ i : Nat, (i : Int) <= max dp 0 -> (D.length <= i \/ dp <= i) -> J179_9 env (.addr a 0) (i64 (i : Int)) (u64 (pn D i)) σ K X := by
    intro i hi hor
    unfold J179_9
    refine lp179_9 (α := Nat) (fun i _ => (dp - i).toNat) (fun i τ => (i : Int) <= max dp 0 /\ (D.length <= i \/ dp <= i) /\ τ = σ) (fun i => i64 (i : Int)) (fun i => u64 (pn D i)) i ⟨hi, hor, rfl⟩ ?_
    rintro i τ ⟨hi, hor, hτ⟩
    obtain rfl := hτ.symm
    unfold L179_9
    simp only [lock_eq, nil_addr, T.fa181_2, Nat.zero_add, ldDdp ha hb, bin_lss, cond_bool]
    refine iteI (fun g => ?_) (fun g => ?_)
    · have g : (i : Int) < dp := of_decide_eq_true g
      have hz : D.getD i 0 = 0 := by rw [List.getD_eq_getElem?_getD, List.getElem?_eq_none (by omega)]; rfl
      have e : pn D (i + 1) = pn D i * 10 := by rw [pn_succ, hz]; omega
      have hbig := big (i + 1) (by omega)
      rw [show (AV.pv (.int .u64 10)) = u64 10 from rfl, mulU (by omega), bin_add, wrap64 (by omega) (by omega), <- e]
      exact back (i + 1) rfl (by omega) ⟨by omega, by omega, rfl⟩
    · have g : ¬ (i : Int) < dp := fun e => g (decide_eq_true e)
      have hi' : i = dp.toNat := by omega
      have hbig := big i hi
      rw [hS]
      refine ⟨a, b, D, dp, neg, tr, mk, dp, rfl, ha, hD, by omega, by omega, ?_⟩
      dsimp only
      rw [cond_bool]
      rw [<- hi'] at hK
      refine iteI (fun g2 => ?_) (fun g2 => ?_)
      · rw [if_pos g2] at hK
        rw [show (AV.pv (.int .u64 1)) = u64 1 from rfl, addU (by omega)]
        exact retV_self hK
      · rw [if_neg g2] at hK
        exact retV_self hK
  rw [<- S179_eq env, S179]
  simp only [lock_eq, nil_addr, T.fa181_2, Nat.zero_add, ldDdp ha hb, bin_gtr, cond_bool]
  refine iteI (fun g => ?_) (fun _ => ?_)
  · have := of_decide_eq_true g
    omega
  rw [show (AV.pv (.int .u64 0)) = u64 (pn D 0) from by rw [pn_zero]; rfl]
  refine lp179_6 (α := Nat) (fun i _ => D.length - i) (fun i τ => (i : Int) <= max dp 0 /\ τ = σ) (fun i => i64 (i : Int)) (fun i => u64 (pn D i)) 0 ⟨by omega, rfl⟩ ?_
  rintro i τ ⟨hi, hτ⟩
  obtain rfl := hτ.symm
  unfold L179_6
  simp only [lock_eq, nil_addr, T.fa181_2, T.fa181_1, Nat.zero_add, ldDdp ha hb, ldDnd ha hb, bin_lss, guard_true, cond_bool]
  refine iteI (fun g => ?_) (fun g => ?_)
  · have g : (i : Int) < dp := of_decide_eq_true g
    refine iteI (fun g2 => ?_) (fun g2 => ?_)
    · have g2 : i < D.length := by
        have := of_decide_eq_true g2
        omega
      have hbig := big (i + 1) (by omega)
      have hc := getD_lt hD.dg i
      rw [pn_succ] at hbig
      unfold J179_8
      simp only [lock_eq, nil_addr, T.fa181_0, Nat.zero_add, ixD (show i < 800 by omega), ldDb ha hb (show i < 800 by omega), hD.get g2]
      rw [show (AV.pv (.int .u64 10)) = u64 10 from rfl, mulU (by omega), bin_sub, show (((D.getD i 0 + 48 : Nat) : Int) - 48) = ((D.getD i 0 : Nat) : Int) by omega, wU8 (by omega), T.cv5_37, wU64n (by omega), addU (by omega), bin_add, wrap64 (by omega) (by omega), show pn D i * 10 + D.getD i 0 = pn D (i + 1) by rw [pn_succ]; omega]
      exact back (i + 1) rfl (by omega) ⟨by omega, rfl⟩
    · have g2 : D.length <= i := by
        have : ¬ (i : Int) < D.length := fun e => g2 (decide_eq_true e)
        omega
      exact l9 i hi (.inl g2)
  · have g : ¬ (i : Int) < dp := fun e => g (decide_eq_true e)
    exact l9 i hi (.inr (by omega))
end
end Go.AD.Fl
