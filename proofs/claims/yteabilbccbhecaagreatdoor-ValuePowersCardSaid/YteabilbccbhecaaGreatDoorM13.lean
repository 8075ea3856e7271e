import Derived.Test.YteabilbccbhecaaGreatDoorM12
import Derived.Test.YteabilbccbhecaaGreatDoorM10
set_option linter.unusedVariables false
set_option linter.unusedSimpArgs false
set_option maxRecDepth 100000
namespace Go.AD.Fl
open Go.Proofs RowKit Go.AD.Fp
abbrev u8n (n : Nat) : AV := .pv (.int .u8 (n : Int))
abbrev tail4 (nd dp : Int) (neg tr : Bool) : List AV := [i64 nd, i64 dp, .pv (.bool neg), .pv (.bool tr)]
def dC (b : List Nat) (nd dp : Int) (neg tr : Bool) : List AV := b.map u8n ++ tail4 nd dp neg tr
section
variable {b : List Nat} {nd dp x : Int} {neg tr y : Bool} {i n : Nat}
theorem dC_len (hb : b.length = 800) : (dC b nd dp neg tr).length = 804 := by simp [dC, hb]
theorem dC_b (hb : b.length = 800) (hi : i < 800) : (dC b nd dp neg tr)[i]? = some (u8n (b.getD i 0)) := by
  unfold dC
  rw [List.getElem?_append_left (by simp; omega), List.getElem?_map, List.getD_eq_getElem?_getD, List.getElem?_eq_getElem (by omega)]
  rfl
theorem dC_t (hb : b.length = 800) : (dC b nd dp neg tr)[800 + i]? = (tail4 nd dp neg tr)[i]? := by
  unfold dC
  rw [List.getElem?_append_right (by simp; omega)]
  congr 1
  simp; omega
theorem dC_nd (hb : b.length = 800) : (dC b nd dp neg tr)[800]? = some (i64 nd) := dC_t (i := 0) hb
theorem dC_dp (hb : b.length = 800) : (dC b nd dp neg tr)[801]? = some (i64 dp) := dC_t (i := 1) hb
theorem dC_neg (hb : b.length = 800) : (dC b nd dp neg tr)[802]? = some (.pv (.bool neg)) := dC_t (i := 2) hb
theorem dC_tr (hb : b.length = 800) : (dC b nd dp neg tr)[803]? = some (.pv (.bool tr)) := dC_t (i := 3) hb
theorem dC_sb (hb : b.length = 800) (hi : i < 800) : (dC b nd dp neg tr).set i (u8n n) = dC (b.set i n) nd dp neg tr := by
  unfold dC
  rw [List.set_append_left _ _ (by simp; omega), List.map_set]
theorem dC_st (hb : b.length = 800) {v : AV} : (dC b nd dp neg tr).set (800 + i) v = b.map u8n ++ (tail4 nd dp neg tr).set i v := by
  unfold dC
  rw [List.set_append_right _ _ (by simp; omega)]
  congr 2
  simp; omega
theorem dC_snd (hb : b.length = 800) : (dC b nd dp neg tr).set 800 (i64 x) = dC b x dp neg tr := dC_st (i := 0) hb
theorem dC_sdp (hb : b.length = 800) : (dC b nd dp neg tr).set 801 (i64 x) = dC b nd x neg tr := dC_st (i := 1) hb
theorem dC_sneg (hb : b.length = 800) : (dC b nd dp neg tr).set 802 (.pv (.bool y)) = dC b nd dp y tr := dC_st (i := 2) hb
theorem dC_str (hb : b.length = 800) : (dC b nd dp neg tr).set 803 (.pv (.bool y)) = dC b nd dp neg y := dC_st (i := 3) hb
end
structure Dec (b D : List Nat) : Prop where
  len : b.length = 800
  few : D.length <= 800
  dg : Dg D
  shows : b.take D.length = D.map (· + 48)
theorem Dec.get {b D : List Nat} (h : Dec b D) {i : Nat} (hi : i < D.length) : b.getD i 0 = D.getD i 0 + 48 := by
  have h1 := congrArg (fun l => l[i]?) h.shows
  simp only [List.getElem?_map, List.getElem?_take, if_pos hi] at h1
  have hb : i < b.length := by have := h.few; have := h.len; omega
  rw [List.getElem?_eq_getElem hb, List.getElem?_eq_getElem hi] at h1
  rw [List.getD_eq_getElem?_getD, List.getD_eq_getElem?_getD, List.getElem?_eq_getElem hb, List.getElem?_eq_getElem hi]
  exact Option.some.inj h1
theorem getD_lt {D : List Nat} (h : Dg D) (i : Nat) : D.getD i 0 < 10 := by
  rw [List.getD_eq_getElem?_getD]
  cases e : D[i]? with
  | none => decide
  | some d => exact h d (List.mem_of_getElem? e)
section
variable {env : Env} {args : List AV} {σ0 σ τ : AS} {K : AV -> AS -> Prop} {X : PV -> AS -> Prop} {a i n : Nat} {mk : Option TypeId} {b : List Nat} {nd dp x : Int} {neg tr y : Bool} {Q : AV -> Prop} {QS : AS -> Prop} {kk : IntKind}
theorem unB800 : PS.underlying 179 = some (.array 800 5) := by kernel_rfl
theorem ixD (hi : i < 800) : indexAddrD PS 179 (.addr a 0) (.pv (.int kk (i : Int))) Q = Q (.addr a i) := by
  simp only [indexAddrD, unB800, T.sz5, Nat.mul_one, Int.toNat_natCast, Nat.zero_add]
  exact propext ⟨fun h => h.2.2.2, fun h => ⟨by kernel_rfl, by omega, by omega, h⟩⟩
theorem ldDb (hg : σ a = some (.cells (dC b nd dp neg tr) mk)) (hb : b.length = 800) (hi : i < 800) : loadD PS σ 5 (.addr a i) Q = Q (u8n (b.getD i 0)) := by
  rw [T.ld5, hg, ldM_cells, dC_b hb hi, someEx]
theorem ldDnd (hg : σ a = some (.cells (dC b nd dp neg tr) mk)) (hb : b.length = 800) : loadD PS σ 3 (.addr a 800) Q = Q (i64 nd) := by
  rw [T.ld3, hg, ldM_cells, dC_nd hb, someEx]
theorem ldDdp (hg : σ a = some (.cells (dC b nd dp neg tr) mk)) (hb : b.length = 800) : loadD PS σ 3 (.addr a 801) Q = Q (i64 dp) := by
  rw [T.ld3, hg, ldM_cells, dC_dp hb, someEx]
theorem ldDneg (hg : σ a = some (.cells (dC b nd dp neg tr) mk)) (hb : b.length = 800) : loadD PS σ 4 (.addr a 802) Q = Q (.pv (.bool neg)) := by
  rw [T.ld4, hg, ldM_cells, dC_neg hb, someEx]
theorem ldDtr (hg : σ a = some (.cells (dC b nd dp neg tr) mk)) (hb : b.length = 800) : loadD PS σ 4 (.addr a 803) Q = Q (.pv (.bool tr)) := by
  rw [T.ld4, hg, ldM_cells, dC_tr hb, someEx]
theorem stDb (hg : σ a = some (.cells (dC b nd dp neg tr) mk)) (hb : b.length = 800) (hi : i < 800) : storeD PS σ 5 (.addr a i) (u8n n) QS = QS (σ.set a (.cells (dC (b.set i n) nd dp neg tr) mk)) := by
  rw [T.stp5, hg, stM_cells, dC_sb hb hi, dC_len hb]
  exact propext ⟨fun h => h.2, fun h => ⟨by omega, h⟩⟩
theorem stDnd (hg : σ a = some (.cells (dC b nd dp neg tr) mk)) (hb : b.length = 800) : storeD PS σ 3 (.addr a 800) (i64 x) QS = QS (σ.set a (.cells (dC b x dp neg tr) mk)) := by
  rw [T.stp3, hg, stM_cells, dC_snd hb, dC_len hb]
  exact propext ⟨fun h => h.2, fun h => ⟨by omega, h⟩⟩
theorem stDdp (hg : σ a = some (.cells (dC b nd dp neg tr) mk)) (hb : b.length = 800) : storeD PS σ 3 (.addr a 801) (i64 x) QS = QS (σ.set a (.cells (dC b nd x neg tr) mk)) := by
  rw [T.stp3, hg, stM_cells, dC_sdp hb, dC_len hb]
  exact propext ⟨fun h => h.2, fun h => ⟨by omega, h⟩⟩
theorem stDneg (hg : σ a = some (.cells (dC b nd dp neg tr) mk)) (hb : b.length = 800) : storeD PS σ 4 (.addr a 802) (.pv (.bool y)) QS = QS (σ.set a (.cells (dC b nd dp y tr) mk)) := by
  rw [T.stp4, hg, stM_cells, dC_sneg hb, dC_len hb]
  exact propext ⟨fun h => h.2, fun h => ⟨by omega, h⟩⟩
theorem stDtr (hg : σ a = some (.cells (dC b nd dp neg tr) mk)) (hb : b.length = 800) : storeD PS σ 4 (.addr a 803) (.pv (.bool y)) QS = QS (σ.set a (.cells (dC b nd dp neg y) mk)) := by
  rw [T.stp4, hg, stM_cells, dC_str hb, dC_len hb]
  exact propext ⟨fun h => h.2, fun h => ⟨by omega, h⟩⟩
theorem set_self {o : AObj} (h : σ a = some o) : σ.set a o = σ := by
  funext j
  by_cases e : j = a
  · subst e; rw [set_same, h]
  · rw [set_ne _ _ e]
theorem trimZ_nil : trimZ [] = [] := rfl
theorem trimZ_zero (l : List Nat) : trimZ (l ++ [0]) = trimZ l := by simp [trimZ]
theorem trimZ_digit (l : List Nat) {d : Nat} (h : d ≠ 0) : trimZ (l ++ [d]) = l ++ [d] := by
  have : (d == 0) = false := by simp [h]
  simp [trimZ, List.dropWhile_cons, this]
theorem take_last {D : List Nat} {n : Nat} (h : n < D.length) : D.take (n + 1) = D.take n ++ [D.getD n 0] := by
  rw [List.take_add_one, List.getD_eq_getElem?_getD, List.getElem?_eq_getElem h]; rfl
def T_iTrim : Tr := fun args σ K _ => ∃ (a : Nat) (b D : List Nat) (dp : Int) (neg tr : Bool) (mk : Option TypeId), args = [.addr a 0] /\ σ a = some (.cells (dC b D.length dp neg tr) mk) /\ Dec b D /\
  K (.tuple []) (σ.set a (.cells (dC b (trimZ D).length (if trimZ D = [] then 0 else dp) neg tr) mk))
theorem T_iTrim_ok (h : T_iTrim args σ K X) : bodyD PS env an210 Tryz.f210 args σ K X := by
  obtain ⟨a, b, D, dp, neg, tr, mk, rfl, ha, hD, hK⟩ := h
  have hb := hD.len
  have hf := hD.few
  rw [<- S210_eq env, S210]
  refine lp210_0 (fun (n : Nat) _ => n) (fun n τ => n <= D.length /\ trimZ (D.take n) = trimZ D /\ τ = σ.set a (.cells (dC b n dp neg tr) mk)) D.length ⟨Nat.le_refl _, by rw [List.take_length], (set_self ha).symm⟩ ?_
  rintro n τ ⟨hn, ht, rfl⟩
  have hg : (σ.set a (.cells (dC b n dp neg tr) mk)) a = some (.cells (dC b n dp neg tr) mk) := set_same _ _ _
  have fin : trimZ D = D.take n -> J210_2 env (.addr a 0) (σ.set a (.cells (dC b n dp neg tr) mk)) K X := by
    intro e
    unfold J210_2
    simp only [lock_eq, nil_addr, T.fa181_1, T.fa181_2, Nat.zero_add, ldDnd hg hb, bin_eql, cond_bool, stDdp hg hb, set_set]
    have hl : (trimZ D).length = n := by rw [e, List.length_take]; omega
    refine iteI (fun g => ?_) (fun g => ?_)
    · have g : n = 0 := by simpa using g
      have e0 : trimZ D = [] := List.length_eq_zero_iff.1 (by omega)
      rw [if_pos e0, hl] at hK
      exact retV_self hK
    · have g : ¬ n = 0 := by simpa using g
      have e0 : ¬ trimZ D = [] := fun e => g (by rw [e] at hl; exact hl.symm)
      rw [if_neg e0, hl] at hK
      exact retV_self hK
  unfold L210_0
  simp only [lock_eq, nil_addr, T.fa181_1, T.fa181_0, Nat.zero_add, ldDnd hg hb, bin_gtr, guard_true]
  refine iteI (fun g => ?_) (fun g => ?_)
  · have g : 0 < n := by simpa using g
    obtain ⟨m, rfl⟩ : ∃ m, n = m + 1 := ⟨n - 1, by omega⟩
    have hm : m < D.length := hn
    rw [bin_sub, wrap64 (by omega) (by omega), show (((m + 1 : Nat) : Int) - 1) = (m : Int) from by omega, ixD (by omega), ldDb hg hb (by omega), hD.get hm, bin_eql, cond_bool]
    rw [take_last hm] at ht
    refine iteI (fun g => ?_) (fun g => ?_)
    · have g : D.getD m 0 = 0 := by
        have : (((D.getD m 0 + 48 : Nat) : Int)) = 48 := by simpa using g
        omega
      unfold J210_1
      simp only [lock_eq, nil_addr, T.fa181_1, Nat.zero_add, ldDnd hg hb]
      rw [bin_sub, wrap64 (by omega) (by omega), show (((m + 1 : Nat) : Int) - 1) = (m : Int) from by omega, stDnd hg hb, set_set]
      rw [g, trimZ_zero] at ht
      exact back m rfl (by omega) ⟨by omega, ht, rfl⟩
    · have g : D.getD m 0 ≠ 0 := by
        intro e
        rw [e] at g
        exact g rfl
      rw [trimZ_digit _ g] at ht
      exact fin (by rw [take_last hm]; exact ht.symm)
  · have g : n = 0 := by
      have : ¬ 0 < n := by simpa using g
      omega
    subst g
    rw [List.take_zero, trimZ_nil] at ht
    exact fin (by rw [<- ht, List.take_zero])
end
end Go.AD.Fl

set_option maxRecDepth 100000
set_option linter.unusedSimpArgs false
namespace Go.AD.Fp
def pn (D : List Nat) (r : Nat) : Nat := n10 (D.take r) * 10 ^ (r - D.length)
theorem pn_zero (D : List Nat) : pn D 0 = 0 := by simp [pn, n10_nil]
theorem pn_succ (D : List Nat) (r : Nat) : pn D (r + 1) = 10 * pn D r + D.getD r 0 := by
  unfold pn
  rcases Nat.lt_or_ge r D.length with h | h
  · rw [List.take_add_one, List.getD_eq_getElem?_getD, List.getElem?_eq_getElem h]
    show n10 (D.take r ++ [D[r]]) * _ = _
    rw [n10_snoc, show r + 1 - D.length = 0 by omega, show r - D.length = 0 by omega, Nat.pow_zero, Nat.mul_one, Nat.mul_one]
    rfl
  · have e : D.getD r 0 = 0 := by rw [List.getD_eq_getElem?_getD, List.getElem?_eq_none h]; rfl
    rw [e, List.take_of_length_le (by omega), List.take_of_length_le h, show r + 1 - D.length = r - D.length + 1 by omega, Nat.pow_succ]
    simp only [Nat.mul_assoc, Nat.mul_left_comm, Nat.mul_comm, Nat.add_zero]
theorem pn_all {D : List Nat} {r : Nat} (h : D.length <= r) : pn D r = n10 D * 10 ^ (r - D.length) := by unfold pn; rw [List.take_of_length_le h]
structure RS (D : List Nat) (k r : Nat) (out : List Nat) (n : Nat) : Prop where
  eq : pn D r = 10 * n10 out * 2 ^ k + n
  dg : Dg out
  lt : n < 10 * 2 ^ k
  hd : out.head? ≠ some 0
  st : out = [] -> 2 ^ k <= n
theorem RS.start {D : List Nat} {k r : Nat} (h : 2 ^ k <= pn D r) (h2 : pn D r < 10 * 2 ^ k) : RS D k r [] (pn D r) :=
  ⟨by rw [n10_nil]; simp, fun d hd => (by cases hd), h2, by simp, fun _ => h⟩
theorem RS.step {D : List Nat} {k r : Nat} {out : List Nat} {n : Nat} (hD : Dg D) (h : RS D k r out n) : RS D k (r + 1) (out ++ [n / 2 ^ k]) (n % 2 ^ k * 10 + D.getD r 0) := by
  have hp : 0 < 2 ^ k := two_pos k
  have hc : D.getD r 0 < 10 := by
    rw [List.getD_eq_getElem?_getD]
    cases e : D[r]? with
    | none => decide
    | some d => exact hD d (List.mem_of_getElem? e)
  have hm := Nat.mod_lt n hp
  have hq := Nat.div_add_mod n (2 ^ k)
  have hdig : n / 2 ^ k < 10 := (Nat.div_lt_iff_lt_mul hp).2 h.lt
  refine ⟨?_, ?_, by omega, ?_, ?_⟩
  · rw [pn_succ, h.eq, n10_snoc]
    have e1 : 10 * (10 * n10 out + n / 2 ^ k) * 2 ^ k = 10 * (10 * n10 out * 2 ^ k) + 10 * (2 ^ k * (n / 2 ^ k)) := by
      rw [Nat.mul_assoc, Nat.add_mul, Nat.mul_add, Nat.mul_comm (n / 2 ^ k)]
    rw [e1]
    generalize 10 * n10 out * 2 ^ k = a at *
    generalize 2 ^ k * (n / 2 ^ k) = c at *
    omega
  · exact h.dg.app (fun d hd => by rw [List.mem_singleton] at hd; rw [hd]; exact hdig)
  · cases ho : out with
    | nil =>
      have h1 := h.st ho
      have : 0 < n / 2 ^ k := Nat.div_pos h1 hp
      intro e
      simp only [List.nil_append, List.head?_cons, Option.some.injEq] at e
      omega
    | cons d l =>
      have := h.hd
      rw [ho] at this
      exact this
  · intro e; simp at e
theorem RS.done {D : List Nat} {k r : Nat} {out : List Nat} {dp : Int} (h : RS D k r out 0) (hr : D.length <= r) (h2 : (r : Int) <= dp + 6000) (hl : out.length <= r) :
    out ≠ [] /\ sc out (dp - ((r - out.length : Nat) : Int) + 1) * 2 ^ k = sc D dp := by
  have hne : out ≠ [] := fun e => by have := h.st e; have := two_pos k; omega
  refine ⟨hne, ?_⟩
  have e := h.eq
  rw [pn_all hr, Nat.add_zero] at e
  unfold sc
  have e1 : (dp - ((r - out.length : Nat) : Int) + 1 + 6000 - (out.length : Int)).toNat = (dp + 6000 - r).toNat + 1 := by omega
  have e2 : (dp + 6000 - (D.length : Int)).toNat = (r - D.length) + (dp + 6000 - r).toNat := by omega
  rw [e1, e2, Nat.pow_succ, <- tw, <- Nat.mul_assoc (n10 D), e]
  simp only [Nat.mul_assoc, Nat.mul_left_comm, Nat.mul_comm]
theorem keep_lt {out : List Nat} {d : Nat} (h : out.length < 800) : (out ++ [d]).take 800 = out.take 800 ++ [d] /\ n10 ((out ++ [d]).drop 800) = n10 (out.drop 800) := by
  constructor
  · rw [List.take_of_length_le (by simp; omega), List.take_of_length_le (by omega)]
  · rw [List.drop_eq_nil_of_le (by simp; omega), List.drop_eq_nil_of_le (by omega)]
theorem keep_ge {out : List Nat} {d : Nat} (h : 800 <= out.length) : (out ++ [d]).take 800 = out.take 800 /\ n10 ((out ++ [d]).drop 800) = 10 * n10 (out.drop 800) + d := by
  constructor
  · rw [List.take_append_of_le_length h]
  · rw [List.drop_append_of_le_length h, n10_snoc]
end Go.AD.Fp

set_option linter.unusedVariables false
set_option linter.unusedSimpArgs false
set_option maxRecDepth 100000
namespace Go.AD.Fl
open Go.Proofs RowKit Go.AD.Fp
theorem wU8 {n : Nat} (h : n < 256) : IntKind.wrap .u8 (n : Int) = (n : Int) := by
  have e : IntKind.wrap .u8 (n : Int) = (n : Int) % 256 := by simp [IntKind.wrap, IntKind.bits, IntKind.signed]
  rw [e]; omega
theorem take_setLast {b : List Nat} {w v : Nat} (h : w < b.length) : (b.set w v).take (w + 1) = b.take w ++ [v] := by
  rw [take_last (by simpa using h), List.take_set_of_le (Nat.le_refl _)]
  congr 2
  rw [List.getD_eq_getElem?_getD, List.getElem?_set_self h]; rfl
theorem getD_set {b : List Nat} {w v i : Nat} (h : w ≠ i) : (b.set w v).getD i 0 = b.getD i 0 := by
  rw [List.getD_eq_getElem?_getD, List.getD_eq_getElem?_getD, List.getElem?_set_ne h]
theorem and_mask (n k : Nat) : n &&& (2 ^ k - 1) = n % 2 ^ k := Nat.and_two_pow_sub_one_eq_mod n k
theorem ten_lt {i : Nat} (h : 10 ^ i < 10 ^ 20) : i < 20 := (Nat.pow_lt_pow_iff_right (a := 10) (by decide)).1 h
theorem k60 {k : Nat} (h : k <= 60) : 2 ^ k <= 1152921504606846976 := Nat.le_trans (Nat.pow_le_pow_right (by decide) h) (by decide)
section
variable {env : Env} {args : List AV} {σ0 σ τ : AS} {K : AV -> AS -> Prop} {X : PV -> AS -> Prop}
def Shifted (σ : AS) (a : Nat) (neg tr : Bool) (mk : Option TypeId) (Y : Nat -> Prop) (P : Int -> Prop) (K : AV -> AS -> Prop) : Prop :=
  ∀ (b D : List Nat) (dp : Int) (tr' : Bool) (Z : Nat), Dec b D -> Y Z -> P dp -> Cut Z D dp tr' tr -> K (.tuple []) (σ.set a (.cells (dC b D.length dp neg tr') mk))
def T_iRight : Tr := fun args σ K _ => ∃ (a : Nat) (b D : List Nat) (dp : Int) (neg tr : Bool) (mk : Option TypeId) (k : Nat), args = [.addr a 0, u64 k] /\ σ a = some (.cells (dC b D.length dp neg tr) mk) /\ Dec b D /\ Nrm0 D /\
  k <= 60 /\ -1000 <= dp /\ dp <= 2000 /\ Shifted σ a neg tr mk (fun Z => Z * 2 ^ k = sc D dp) (fun dp' => dp - 20 <= dp' /\ dp' <= dp) K
theorem T_iRight_ok (hT : env 210 = T_iTrim) (h : T_iRight args σ K X) : bodyD PS env an201 Tryz.f201 args σ K X := by
  obtain ⟨a, b, D, dp, neg, tr, mk, k, rfl, ha, hD, hN, hk, hd1, hd2, hK⟩ := h
  have hb := hD.len
  have hf := hD.few
  have h2k := k60 hk
  have hp2 := two_pos k
  have hn0 : 0 < n10 D := Nat.lt_of_lt_of_le (Nat.pow_pos (by decide)) hN.ge
  have l23 : ∀ (r0 r : Nat) (out : List Nat) (n : Nat) (b : List Nat), RS D k r out n -> D.length <= r -> out.length + r0 = r -> 1 <= r0 -> r0 <= 20 -> r <= D.length + 20 -> b.length = 800 -> out.length <= 800 -> b.take out.length = out.map (· + 48) ->
      ∃ I23 : Nat -> List AV -> AS -> Prop, (∃ m, I23 m [.addr a 0, u64 k, i64 (out.length : Int), u64 n, u64 (2 ^ k - 1)] (σ.set a (.cells (dC b D.length (dp - r0 + 1) neg tr) mk))) /\ ∀ (m : Nat) (x0 x1 x2 x3 x4 : AV), ∀ σ, I23 m [x0, x1, x2, x3, x4] σ -> L201_23 env I23 m x0 x1 x2 x3 x4 σ K X := by
    intro r0 r out n b hR hr hor hr1 hr0 hr2 hb hol hbt
    rw [show (out.length : Int) = ((min out.length 800 : Nat) : Int) from by omega]
    refine lp201_23 (α := Nat × List Nat × Nat × Nat × List Nat × Bool) (fun s _ => if s.2.2.1 = 0 then 0 else k + 1 - s.2.2.2.1)
      (fun s τ => RS D k s.1 s.2.1 s.2.2.1 /\ D.length <= s.1 /\ s.2.1.length + r0 = s.1 /\ s.2.2.2.1 <= k /\ 2 ^ s.2.2.2.1 ∣ s.2.2.1 /\ (s.1 + (if s.2.2.1 = 0 then 0 else k + 1 - s.2.2.2.1) <= D.length + 21 + k) /\ s.2.2.2.2.1.length = 800 /\
        s.2.2.2.2.1.take (min s.2.1.length 800) = (s.2.1.take 800).map (· + 48) /\ s.2.2.2.2.2 = (tr || decide (n10 (s.2.1.drop 800) ≠ 0)) /\ τ = σ.set a (.cells (dC s.2.2.2.2.1 D.length (dp - r0 + 1) neg s.2.2.2.2.2) mk))
      (fun s => i64 ((min s.2.1.length 800 : Nat) : Int)) (fun s => u64 s.2.2.1) (r, out, n, 0, b, tr) ⟨hR, hr, hor, Nat.zero_le _, by simp, by dsimp only; split <;> omega, hb, ?_, ?_, rfl⟩ ?_
    · dsimp only
      rw [Nat.min_eq_left hol, List.take_of_length_le hol]; exact hbt
    · dsimp only
      rw [List.drop_eq_nil_of_le hol, n10_nil]; simp
    · rintro ⟨r, out, n, t, b, tr'⟩ τ ⟨hR, hr, hor, ht, htn, hrb, hb, hbt, htr, rfl⟩
      dsimp only at hR hr hor ht htn hrb hb hbt htr ⊢
      have hg : (σ.set a (.cells (dC b D.length (dp - r0 + 1) neg tr') mk)) a = some (.cells (dC b D.length (dp - r0 + 1) neg tr') mk) := set_same _ _ _
      have hnl := hR.lt
      unfold L201_23
      simp only [lock_eq, bin_gtr, cond_bool]
      refine iteI (fun g => ?_) (fun g => ?_)
      · have g : 0 < n := by simpa using g
        rw [if_neg (by omega)] at hrb
        have hm := Nat.mod_lt n hp2
        have hdig : n / 2 ^ k < 10 := (Nat.div_lt_iff_lt_mul hp2).2 hnl
        have hst := hR.step hD.dg
        have hz : D.getD r 0 = 0 := by rw [List.getD_eq_getElem?_getD, List.getElem?_eq_none hr]; rfl
        rw [hz, Nat.add_zero] at hst
        have hnew : (if n % 2 ^ k * 10 = 0 then 0 else k + 1 - (if t < k then t + 1 else t)) < k + 1 - t /\ (if t < k then t + 1 else t) <= k /\ 2 ^ (if t < k then t + 1 else t) ∣ n % 2 ^ k * 10 := by
          by_cases htk : t < k
          · rw [if_pos htk]
            have hdm : 2 ^ t ∣ n % 2 ^ k := (Nat.dvd_mod_iff (Nat.pow_dvd_pow 2 (by omega))).2 htn
            refine ⟨by split <;> omega, htk, ?_⟩
            obtain ⟨c, hc⟩ := hdm
            rw [hc]
            exact ⟨5 * c, by rw [Nat.pow_succ, Nat.mul_assoc, Nat.mul_assoc]; congr 1; omega⟩
          · rw [if_neg htk]
            obtain rfl : t = k := by omega
            rw [Nat.mod_eq_zero_of_dvd htn]
            exact ⟨by simp, Nat.le_refl _, by simp⟩
        obtain ⟨q1, q2, q3⟩ := hnew
        rw [shrU (by omega), andU (by omega) (by omega), and_mask]
        rw [bin_lss, cond_bool]
        have hmul : ∀ Q : AV -> Prop, binD PS .mul 108 (u64 (n % 2 ^ k)) (.pv (.int .u64 10)) Q = Q (u64 (n % 2 ^ k * 10)) := fun Q => by
          rw [show (AV.pv (.int .u64 10)) = u64 10 from rfl, mulU (by omega)]
        refine iteI (fun g2 => ?_) (fun g2 => ?_)
        · have g2 : out.length < 800 := by
            have := of_decide_eq_true g2
            omega
          have hw : min out.length 800 = out.length := by omega
          rw [hw]
          obtain ⟨k1, k2⟩ := keep_lt (d := n / 2 ^ k) g2
          rw [addI (y := 48) _ 48 rfl (by omega), T.cv108_5, wU8 (by omega)]
          simp only [nil_addr, T.fa181_0, Nat.zero_add, ixD g2, stDb hg hb g2, set_set]
          rw [bin_add, wrap64 (by omega) (by omega), hmul]
          refine back (r + 1, out ++ [n / 2 ^ k], n % 2 ^ k * 10, (if t < k then t + 1 else t), b.set out.length (n / 2 ^ k + 48), tr') ?_ (by dsimp only; rw [if_neg (show ¬ n = 0 by omega)]; exact q1) ⟨hst, by dsimp only; omega, by dsimp only; rw [List.length_append, List.length_singleton]; omega, q2, q3, by dsimp only; omega, by dsimp only; rw [List.length_set]; exact hb, ?_, ?_, rfl⟩
          · dsimp only
            rw [List.length_append, List.length_singleton, Nat.min_eq_left (by omega)]
            rfl
          · dsimp only
            rw [List.length_append, List.length_singleton, Nat.min_eq_left (by omega), take_setLast (by omega), k1, List.map_append, <- hbt, hw]
            rfl
          · dsimp only; rw [k2]; exact htr
        · have g2 : 800 <= out.length := by
            have : ¬ ((min out.length 800 : Nat) : Int) < 800 := fun e => g2 (decide_eq_true e)
            omega
          have hw : min out.length 800 = 800 := by omega
          rw [hw]
          obtain ⟨k1, k2⟩ := keep_ge (d := n / 2 ^ k) g2
          rw [bin_gtr, cond_bool]
          have c1 : min (out ++ [n / 2 ^ k]).length 800 = 800 := by rw [List.length_append, List.length_singleton]; omega
          have c2 : b.take (min (out ++ [n / 2 ^ k]).length 800) = ((out ++ [n / 2 ^ k]).take 800).map (· + 48) := by rw [c1, k1, <- hbt, hw]
          have c3 : (out ++ [n / 2 ^ k]).length + r0 = r + 1 := by rw [List.length_append, List.length_singleton]; omega
          have c4 : r + 1 + (if n % 2 ^ k * 10 = 0 then 0 else k + 1 - (if t < k then t + 1 else t)) <= D.length + 21 + k := by omega
          have c5 : (if n % 2 ^ k * 10 = 0 then 0 else k + 1 - (if t < k then t + 1 else t)) < (if n = 0 then 0 else k + 1 - t) := by rw [if_neg (show ¬ n = 0 by omega)]; exact q1
          have c6 : [AV.addr a 0, u64 k, i64 ((800 : Nat) : Int), u64 (n % 2 ^ k * 10), u64 (2 ^ k - 1)] = [AV.addr a 0, u64 k, i64 ((min (out ++ [n / 2 ^ k]).length 800 : Nat) : Int), u64 (n % 2 ^ k * 10), u64 (2 ^ k - 1)] := by rw [c1]
          refine iteI (fun g3 => ?_) (fun g3 => ?_)
          · have g3 : 0 < n / 2 ^ k := Int.natCast_pos.1 (of_decide_eq_true g3)
            simp only [nil_addr, T.fa181_4, Nat.zero_add, stDtr hg hb, set_set]
            rw [hmul]
            refine back (r + 1, out ++ [n / 2 ^ k], n % 2 ^ k * 10, (if t < k then t + 1 else t), b, true) c6 c5 ⟨hst, Nat.le_succ_of_le hr, c3, q2, q3, c4, hb, c2, ?_, rfl⟩
            dsimp only
            rw [k2, decide_eq_true (by omega), Bool.or_true]
          · have g3 : n / 2 ^ k = 0 := Nat.eq_zero_of_not_pos fun e => g3 (decide_eq_true (Int.natCast_pos.2 e))
            rw [hmul]
            refine back (r + 1, out ++ [n / 2 ^ k], n % 2 ^ k * 10, (if t < k then t + 1 else t), b, tr') c6 c5 ⟨hst, Nat.le_succ_of_le hr, c3, q2, q3, c4, hb, c2, ?_, rfl⟩
            dsimp only
            rw [k2, htr, g3]
            congr 1
            rw [decide_eq_decide]
            omega
      · have g : n = 0 := by
          have : ¬ 0 < n := by simpa using g
          omega
        subst g
        rw [if_pos rfl] at hrb
        obtain ⟨hne, hsc⟩ := hR.done (dp := dp) hr (by omega) (by omega)
        have hr0' : r - out.length = r0 := by omega
        rw [hr0'] at hsc
        simp only [nil_addr, T.fa181_1, Nat.zero_add, stDnd hg hb, set_set]
        rw [hT]
        have hlen : (out.take 800).length = min out.length 800 := by rw [List.length_take, Nat.min_comm]
        have hdec : Dec b (out.take 800) := ⟨hb, by omega, fun d hd => hR.dg d (List.mem_of_mem_take hd), by rw [hlen]; exact hbt⟩
        have hcut := cut_full (dp := dp - (r0 : Int) + 1) (tr := tr') (tr0 := tr) hR.dg hR.hd hne (by omega) (by omega) htr
        refine ⟨a, b, out.take 800, dp - r0 + 1, neg, tr', mk, rfl, ?_, hdec, ?_⟩
        · rw [set_same, hlen]
        · rw [if_neg hcut.nrm.ne, set_set]
          refine retV_self (hK b (trimZ (out.take 800)) (dp - r0 + 1) tr' (sc out (dp - r0 + 1)) ?_ hsc ⟨by omega, by omega⟩ hcut)
          obtain ⟨z, hz⟩ := trimZ_spec (out.take 800)
          have hl2 := congrArg List.length hz
          rw [List.length_append, List.length_replicate] at hl2
          refine ⟨hb, by omega, fun d hd => hdec.dg d (by rw [hz]; exact List.mem_append_left _ hd), ?_⟩
          have h3 := congrArg (List.take (trimZ (out.take 800)).length) hdec.shows
          rw [List.take_take, Nat.min_eq_left (by omega), <- List.map_take] at h3
          rw [h3]
          congr 1
          have : ∀ T : List Nat, out.take 800 = T ++ List.replicate z 0 -> (out.take 800).take T.length = T := fun T h => by rw [h, List.take_left' rfl]
          exact this _ hz
  have l15 : ∀ (r : Nat), 2 ^ k <= pn D r -> pn D r < 10 * 2 ^ k -> 1 <= r -> r <= 20 ->
      ∃ I15 : Nat -> List AV -> AS -> Prop, (∃ m, I15 m [.addr a 0, u64 k, i64 (r : Int), i64 0, u64 (pn D r), u64 (2 ^ k - 1)] (σ.set a (.cells (dC b D.length (dp - r + 1) neg tr) mk))) /\ ∀ (m : Nat) (x0 x1 x2 x3 x4 x5 : AV), ∀ σ, I15 m [x0, x1, x2, x3, x4, x5] σ -> L201_15 env I15 m x0 x1 x2 x3 x4 x5 σ K X := by
    intro r0 hge hlt hr1 hr2
    refine lp201_15 (α := Nat × List Nat × Nat × List Nat) (fun s _ => D.length - s.1)
      (fun s τ => RS D k s.1 s.2.1 s.2.2.1 /\ s.2.1.length + r0 = s.1 /\ (s.1 <= D.length \/ s.1 = r0) /\ s.2.2.2.length = 800 /\ s.2.2.2.take s.2.1.length = s.2.1.map (· + 48) /\ (∀ i, s.1 <= i -> i < D.length -> s.2.2.2.getD i 0 = D.getD i 0 + 48) /\ τ = σ.set a (.cells (dC s.2.2.2 D.length (dp - r0 + 1) neg tr) mk))
      (fun s => i64 (s.1 : Int)) (fun s => i64 (s.2.1.length : Int)) (fun s => u64 s.2.2.1) (r0, [], pn D r0, b) ⟨RS.start hge hlt, by simp, .inr rfl, hb, by simp, fun i _ hi => hD.get hi, rfl⟩ ?_
    rintro ⟨r, out, n, b⟩ τ ⟨hR, hor, hrr, hb, hbt, hrest, rfl⟩
    dsimp only at hR hor hrr hb hbt hrest ⊢
    have hg : (σ.set a (.cells (dC b D.length (dp - r0 + 1) neg tr) mk)) a = some (.cells (dC b D.length (dp - r0 + 1) neg tr) mk) := set_same _ _ _
    have hnl := hR.lt
    unfold L201_15
    simp only [lock_eq, nil_addr, T.fa181_1, Nat.zero_add, ldDnd hg hb, bin_lss, cond_bool]
    refine iteI (fun g => ?_) (fun g => ?_)
    · have g : r < D.length := by
        have := of_decide_eq_true g
        omega
      have hm := Nat.mod_lt n hp2
      have hdig : n / 2 ^ k < 10 := (Nat.div_lt_iff_lt_mul hp2).2 hnl
      have hst := hR.step hD.dg
      have hc := getD_lt hD.dg r
      have hw : out.length < 800 := by omega
      have mul10 : ∀ Q : AV -> Prop, binD PS .mul 108 (u64 (n % 2 ^ k)) (.pv (.int .u64 10)) Q = Q (u64 (n % 2 ^ k * 10)) := fun Q => by
        rw [show (AV.pv (.int .u64 10)) = u64 10 from rfl, mulU (by omega)]
      simp only [nil_addr, T.fa181_0, Nat.zero_add, ixD (show r < 800 by omega), ldDb hg hb (show r < 800 by omega), hrest r (Nat.le_refl _) g]
      rw [T.cv5_108, wU64n (by omega), shrU (by omega), andU (by omega) (by omega), and_mask, addI (y := 48) _ 48 rfl (by omega), T.cv108_5, wU8 (by omega)]
      simp only [ixD hw, stDb hg hb hw, set_set]
      rw [bin_add, wrap64 (by omega) (by omega), mul10, addU (by omega), subI (y := 48) _ 48 rfl (by omega) (by omega), bin_add, wrap64 (by omega) (by omega), show n % 2 ^ k * 10 + (D.getD r 0 + 48) - 48 = n % 2 ^ k * 10 + D.getD r 0 from by omega]
      refine back (r + 1, out ++ [n / 2 ^ k], n % 2 ^ k * 10 + D.getD r 0, b.set out.length (n / 2 ^ k + 48)) ?_ (by dsimp only; omega) ⟨hst, by dsimp only; rw [List.length_append, List.length_singleton]; omega, .inl g, by dsimp only; rw [List.length_set]; exact hb, ?_, ?_, rfl⟩
      · dsimp only
        rw [List.length_append, List.length_singleton]
        rfl
      · dsimp only
        rw [List.length_append, List.length_singleton, take_setLast (by omega), List.map_append, <- hbt]
        rfl
      · dsimp only
        intro i h1 h2
        rw [getD_set (by omega)]
        exact hrest i (by omega) h2
    · have g : D.length <= r := by
        have : ¬ ((r : Int) < (D.length : Int)) := fun e => g (decide_eq_true e)
        omega
      exact l23 r0 r out n b hR g hor hr1 hr2 (by omega) hb (by omega) hbt
  have j13 : ∀ (r : Nat), 2 ^ k <= pn D r -> pn D r < 10 * 2 ^ k -> 1 <= r -> r <= 20 -> J201_13 env (.addr a 0) (u64 k) (i64 (r : Int)) (i64 0) (u64 (pn D r)) σ K X := by
    intro r hge hlt h1 h2
    unfold J201_13
    simp only [lock_eq, nil_addr, T.fa181_2, Nat.zero_add, ldDdp ha hb]
    rw [bin_sub, wrap64 (by omega) (by omega), bin_sub, wrap64 (by omega) (by omega), stDdp ha hb, show (AV.pv (.int .u64 1)) = u64 1 from rfl, shlU (by omega), Nat.one_mul, Nat.mod_eq_of_lt (by omega), subU (by omega) (by omega), show dp - ((r : Int) - 1) = dp - r + 1 from by omega]
    exact l15 r hge hlt h1 h2
  have hlow : ∀ r, 10 ^ r <= pn D (r + 1) := by
    intro r
    induction r with
    | zero =>
      rw [pn_succ, pn_zero]
      cases hDD : D with
      | nil => exact absurd hDD hN.ne
      | cons d l =>
        have := hN.hd
        rw [hDD] at this
        have : d ≠ 0 := fun e => this (by rw [e]; rfl)
        simp [List.getD_eq_getElem?_getD]; omega
    | succ r ih => rw [pn_succ, Nat.pow_succ]; omega
  have hr20 : ∀ r, pn D r < 10 * 2 ^ k -> r <= 20 := by
    intro r h
    rcases Nat.eq_zero_or_pos r with h0 | h0
    · omega
    · have h1 := hlow (r - 1)
      rw [show r - 1 + 1 = r by omega] at h1
      have h2 : 10 ^ (r - 1) < 10 ^ 20 := by
        refine Nat.lt_of_le_of_lt h1 (Nat.lt_of_lt_of_le h ?_)
        exact Nat.le_trans (Nat.mul_le_mul_left 10 h2k) (by decide)
      have := ten_lt h2
      omega
  have shrZ : ∀ (n : Nat) (Q : AV -> Prop), binD PS .shr 108 (u64 n) (u64 k) Q = Q (u64 (n / 2 ^ k)) := fun n Q => shrU (by omega)
  have div0 : ∀ n : Nat, n / 2 ^ k = 0 ↔ n < 2 ^ k := fun n => Nat.div_eq_zero_iff_lt hp2
  have mul10 : ∀ (n : Nat) (Q : AV -> Prop), n < 2 ^ k -> binD PS .mul 108 (u64 n) (.pv (.int .u64 10)) Q = Q (u64 (n * 10)) := fun n Q hn => by
    rw [show (AV.pv (.int .u64 10)) = u64 10 from rfl, mulU (by omega)]
  rw [<- S201_eq env, S201, show (AV.pv (.int .u64 0)) = u64 (pn D 0) from by rw [pn_zero]; rfl]
  refine lp201_3 (α := Nat) (fun r _ => D.length - r) (fun r τ => r <= D.length /\ pn D r < 10 * 2 ^ k /\ τ = σ) (fun r => i64 (r : Int)) (fun r => u64 (pn D r)) 0 ⟨Nat.zero_le _, by rw [pn_zero]; omega, rfl⟩ ?_
  rintro r τ ⟨hr, hlt, hτ⟩
  obtain rfl := hτ.symm
  unfold L201_3
  simp only [lock_eq, shrZ, bin_eql, cond_bool]
  have hz : ∀ n : Nat, (((n / 2 ^ k : Nat) : Int) == 0) = true ↔ n < 2 ^ k := fun n => by
    rw [beq_iff_eq, <- div0]; omega
  refine iteI (fun g => ?_) (fun g => ?_)
  · have g := (hz _).1 g
    simp only [nil_addr, T.fa181_1, T.fa181_0, Nat.zero_add, ldDnd ha hb, bin_geq, cond_bool]
    refine iteI (fun g2 => ?_) (fun g2 => ?_)
    · have g2 : r = D.length := by
        have := of_decide_eq_true g2
        omega
      have hpos : 0 < pn D r := by
        rw [g2, pn_all (Nat.le_refl _)]
        exact Nat.mul_pos hn0 (Nat.pow_pos (by decide))
      refine iteI (fun g3 => ?_) (fun g3 => ?_)
      · exfalso
        have : ((pn D r : Nat) : Int) = 0 := by simpa using g3
        omega
      · refine lp201_8 (α := Nat) (fun r _ => 10 * 2 ^ k - pn D r) (fun r τ => D.length <= r /\ pn D r < 10 * 2 ^ k /\ 0 < pn D r /\ τ = σ) (fun r => i64 (r : Int)) (fun r => u64 (pn D r)) r ⟨by omega, hlt, hpos, rfl⟩ ?_
        rintro r τ ⟨hr, hlt, hpos, hτ⟩
        obtain rfl := hτ.symm
        unfold L201_8
        simp only [lock_eq, shrZ, bin_eql, cond_bool]
        have h20 := hr20 r hlt
        refine iteI (fun g => ?_) (fun g => ?_)
        · have g := (hz _).1 g
          have e : pn D (r + 1) = pn D r * 10 := by
            rw [pn_succ, List.getD_eq_getElem?_getD, List.getElem?_eq_none hr]
            show 10 * pn D r + 0 = _
            omega
          rw [mul10 _ _ g, bin_add, wrap64 (by omega) (by omega), <- e]
          exact back (r + 1) rfl (by omega) ⟨by omega, by omega, by omega, rfl⟩
        · have g : 2 ^ k <= pn D r := Nat.le_of_not_lt fun e => g ((hz _).2 e)
          have hr1 : 1 <= r := by
            have := hN.ne
            have := List.length_pos_iff.2 this
            omega
          exact j13 r g hlt hr1 h20
    · have g2 : r < D.length := by
        have : ¬ ((r : Int) ≥ (D.length : Int)) := fun e => g2 (decide_eq_true e)
        omega
      have hc := getD_lt hD.dg r
      simp only [ixD (show r < 800 by omega), ldDb ha hb (show r < 800 by omega), hD.get g2]
      rw [T.cv5_108, wU64n (by omega), mul10 _ _ g, addU (by omega), subI (y := 48) _ 48 rfl (by omega) (by omega), bin_add, wrap64 (by omega) (by omega), show pn D r * 10 + (D.getD r 0 + 48) - 48 = pn D (r + 1) from by rw [pn_succ]; omega]
      exact back (r + 1) rfl (by omega) ⟨by omega, by rw [pn_succ]; omega, rfl⟩
  · have g : 2 ^ k <= pn D r := Nat.le_of_not_lt fun e => g ((hz _).2 e)
    have hr1 : 1 <= r := by
      rcases Nat.eq_zero_or_pos r with h | h
      · rw [h, pn_zero] at g; omega
      · exact h
    exact j13 r g hlt hr1 (hr20 r hlt)
end
end Go.AD.Fl

set_option maxRecDepth 100000
set_option linter.unusedSimpArgs false
namespace Go.AD.Fp
def digs : Nat -> Nat -> List Nat
  | 0, _ => []
  | n + 1, v => digs n (v / 10) ++ [v % 10]
theorem digs_len : ∀ n v, (digs n v).length = n
  | 0, _ => rfl
  | n + 1, v => by rw [digs, List.length_append, digs_len n]; rfl
theorem digs_dg : ∀ n v, Dg (digs n v)
  | 0, _ => fun d hd => by cases hd
  | n + 1, v => (digs_dg n (v / 10)).app fun d hd => by rw [List.mem_singleton] at hd; omega
theorem digs_get : ∀ (n v i : Nat), i < n -> (digs n v).getD i 0 = v / 10 ^ (n - 1 - i) % 10
  | 0, _, _, h => by omega
  | n + 1, v, i, h => by
    rw [digs, List.getD_eq_getElem?_getD]
    rcases Nat.lt_or_ge i n with h1 | h1
    · rw [List.getElem?_append_left (by rw [digs_len]; exact h1), <- List.getD_eq_getElem?_getD, digs_get n _ i h1, Nat.div_div_eq_div_mul]
      congr 2
      rw [show n + 1 - 1 - i = (n - 1 - i) + 1 by omega, Nat.pow_succ, Nat.mul_comm]
    · obtain rfl : i = n := by omega
      rw [List.getElem?_append_right (by rw [digs_len]; exact Nat.le_refl _), digs_len, Nat.sub_self]
      show v % 10 = _
      rw [show i + 1 - 1 - i = 0 by omega, Nat.pow_zero, Nat.div_one]
theorem digs_n10 : ∀ n v, n10 (digs n v) = v % 10 ^ n
  | 0, v => by rw [digs, n10_nil, Nat.pow_zero, Nat.mod_one]
  | n + 1, v => by
    rw [digs, n10_snoc, digs_n10 n, Nat.pow_succ, Nat.mul_comm (10 ^ n) 10, Nat.mod_mul]
    omega
theorem drop_n10 {o : List Nat} (h : Dg o) (c : Nat) : n10 (o.drop c) = n10 o % 10 ^ (o.length - c) := by
  have h1 : n10 o = n10 (o.take c) * 10 ^ (o.drop c).length + n10 (o.drop c) := by
    conv => lhs; rw [<- List.take_append_drop c o]
    exact n10_app _ _
  have h2 : n10 (o.drop c) < 10 ^ (o.drop c).length := n10_lt (by
    have := h; rw [<- List.take_append_drop c o] at this; exact this.right)
  rw [List.length_drop] at h1 h2
  rw [h1, Nat.add_comm, Nat.add_mul_mod_self_right, Nat.mod_eq_of_lt h2]
theorem mod_more (v j : Nat) : v % 10 ^ (j + 1) = v % 10 ^ j + 10 ^ j * (v / 10 ^ j % 10) := by rw [Nat.pow_succ, Nat.mod_mul]
theorem mod_ne (v j : Nat) : v % 10 ^ (j + 1) ≠ 0 ↔ v % 10 ^ j ≠ 0 \/ v / 10 ^ j % 10 ≠ 0 := by
  rw [mod_more]
  have hp := ten_pos j
  constructor
  · intro h
    apply Classical.byContradiction
    intro hc
    rw [not_or, Classical.not_not, Classical.not_not] at hc
    rw [hc.1, hc.2] at h
    exact h (by simp)
  · rintro (h | h) e
    · omega
    · have : 0 < 10 ^ j * (v / 10 ^ j % 10) := Nat.mul_pos hp (by omega)
      omega
def lessL : List Nat -> List Nat -> Bool
  | _, [] => false
  | [], _ :: _ => true
  | x :: xs, y :: ys => if x = y then lessL xs ys else decide (x < y)
theorem lessL_iff : ∀ {D E : List Nat}, Dg D -> Dg E -> (∀ h : E ≠ [], E.getLast h ≠ 0) -> (lessL D E = true ↔ n10 D * 10 ^ E.length < n10 E * 10 ^ D.length)
  | D, [], _, _, _ => by
    rw [show lessL D [] = false by cases D <;> rfl, n10_nil]; simp
  | [], y :: ys, _, hE, hl => by
    rw [show lessL [] (y :: ys) = true from rfl, n10_nil]
    have h1 := hl (by simp)
    have : 0 < n10 (y :: ys) := by
      have e := List.dropLast_concat_getLast (l := y :: ys) (by simp)
      rw [<- e, n10_snoc]
      omega
    simp only [Nat.zero_mul, List.length_nil, Nat.pow_zero, Nat.mul_one, this]
  | x :: xs, y :: ys, hD, hE, hl => by
    have hD' : Dg xs := fun d hd => hD d (List.mem_cons_of_mem _ hd)
    have hE' : Dg ys := fun d hd => hE d (List.mem_cons_of_mem _ hd)
    have ih := lessL_iff (D := xs) (E := ys) hD' hE' (fun h => by
      have := hl (by simp)
      rwa [List.getLast_cons h] at this)
    have hA := n10_lt hD'
    have hB := n10_lt hE'
    rw [n10_cons, n10_cons, List.length_cons, List.length_cons]
    generalize n10 xs = A at *
    generalize n10 ys = B at *
    generalize xs.length = a at *
    generalize ys.length = b at *
    have e1 : (x * 10 ^ a + A) * 10 ^ (b + 1) = 10 * (x * (10 ^ a * 10 ^ b) + A * 10 ^ b) := by rw [Nat.pow_succ]; grind
    have e2 : (y * 10 ^ b + B) * 10 ^ (a + 1) = 10 * (y * (10 ^ a * 10 ^ b) + B * 10 ^ a) := by rw [Nat.pow_succ]; grind
    rw [e1, e2]
    have a1 : A * 10 ^ b < 10 ^ a * 10 ^ b := Nat.mul_lt_mul_of_pos_right hA (ten_pos b)
    have b1 : B * 10 ^ a < 10 ^ a * 10 ^ b := by rw [Nat.mul_comm (10 ^ a)]; exact Nat.mul_lt_mul_of_pos_right hB (ten_pos a)
    generalize 10 ^ a * 10 ^ b = M at *
    generalize A * 10 ^ b = A' at *
    generalize B * 10 ^ a = B' at *
    rw [lessL]
    by_cases hxy : x = y
    · subst hxy
      rw [if_pos rfl, ih]
      generalize x * M = c
      omega
    · rw [if_neg hxy, decide_eq_true_eq]
      rcases Nat.lt_or_gt_of_ne hxy with h | h
      · have : (x + 1) * M <= y * M := Nat.mul_le_mul_right _ h
        rw [Nat.add_mul] at this
        simp only [h, true_iff]
        omega
      · have : (y + 1) * M <= x * M := Nat.mul_le_mul_right _ h
        rw [Nat.add_mul] at this
        constructor
        · intro h2; omega
        · intro h2; omega
theorem more_digits {D E : List Nat} {k dl : Nat} (hD : Nrm0 D) (hE : Dg E) (hl : ∀ h : E ≠ [], E.getLast h ≠ 0) (h5 : n10 E = 5 ^ k) (hL : E.length + dl = k + 1) (hdl : 1 <= dl) (h1 : 10 ^ (dl - 1) <= 2 ^ k) (h2 : 2 ^ k < 10 ^ dl) :
    10 ^ (D.length + dl - (if lessL D E = true then 1 else 0) - 1) <= n10 D * 2 ^ k /\ n10 D * 2 ^ k < 10 ^ (D.length + dl - (if lessL D E = true then 1 else 0)) := by
  have hm : 1 <= D.length := List.length_pos_iff.2 hD.ne
  have hge := hD.ge
  have hlt := n10_lt hD.dg
  have hp5 : 0 < 5 ^ k := Nat.pow_pos (by decide)
  have h10 : (10 : Nat) ^ k = 2 ^ k * 5 ^ k := by rw [<- Nat.mul_pow]
  have hk : k = E.length + (dl - 1) := by omega
  have hV : n10 D * 2 ^ k * 5 ^ k = n10 D * 10 ^ E.length * 10 ^ (dl - 1) := by
    rw [Nat.mul_assoc, <- h10, Nat.mul_assoc, tw, <- hk]
  have hiff := lessL_iff hD.dg hE hl
  rw [h5] at hiff
  by_cases hless : lessL D E = true
  · rw [if_pos hless]
    have h := hiff.1 hless
    constructor
    · rw [show D.length + dl - 1 - 1 = (D.length - 1) + (dl - 1) by omega, <- tw]
      exact Nat.mul_le_mul hge h1
    · refine Nat.lt_of_mul_lt_mul_right (a := 5 ^ k) ?_
      rw [hV, show D.length + dl - 1 = D.length + (dl - 1) by omega, <- tw]
      have := Nat.mul_lt_mul_of_pos_right h (ten_pos (dl - 1))
      refine Nat.lt_of_lt_of_le this (Nat.le_of_eq ?_)
      rw [Nat.mul_assoc, Nat.mul_comm]
  · rw [if_neg hless, Nat.sub_zero]
    have h : 5 ^ k * 10 ^ D.length <= n10 D * 10 ^ E.length := Nat.le_of_not_lt fun e => hless (hiff.2 e)
    constructor
    · refine Nat.le_of_mul_le_mul_right ?_ hp5
      rw [hV, show D.length + dl - 1 = D.length + (dl - 1) by omega, <- tw]
      have := Nat.mul_le_mul_right (10 ^ (dl - 1)) h
      refine Nat.le_trans (Nat.le_of_eq ?_) this
      rw [Nat.mul_assoc (5 ^ k), Nat.mul_comm (5 ^ k)]
    · rw [<- tw]
      exact Nat.mul_lt_mul'' hlt h2
end Go.AD.Fp

set_option maxRecDepth 100000
set_option linter.unusedSimpArgs false
namespace Go.AD.Fp
structure LS (D : List Nat) (k N : Nat) (tr0 : Bool) (j n : Nat) (b : List Nat) (tr : Bool) : Prop where
  eq : n * 10 ^ j + n10 D * 2 ^ k % 10 ^ j = n10 (D.drop (D.length - j)) * 2 ^ k
  le : j <= N
  len : b.length = 800
  hi : ∀ i, N - j <= i -> i < N -> i < 800 -> b.getD i 0 = n10 D * 2 ^ k / 10 ^ (N - 1 - i) % 10 + 48
  lo : ∀ i, i < D.length - j -> b.getD i 0 = D.getD i 0 + 48
  tr : tr = (tr0 || decide (n10 D * 2 ^ k % 10 ^ (min j (N - 800)) ≠ 0))
theorem LS.start {D b : List Nat} {k N : Nat} {tr0 : Bool} (hb : b.length = 800) (h : ∀ i, i < D.length -> b.getD i 0 = D.getD i 0 + 48) : LS D k N tr0 0 0 b tr0 :=
  ⟨by rw [Nat.sub_zero, List.drop_length, n10_nil, Nat.pow_zero, Nat.mod_one]; simp, Nat.zero_le _, hb, fun i h1 h2 _ => by omega, fun i hi => h i (by omega), by rw [Nat.zero_min, Nat.pow_zero, Nat.mod_one]; simp⟩
theorem LS.lt {D b : List Nat} {k N j n : Nat} {tr0 tr : Bool} (hD : Dg D) (h : LS D k N tr0 j n b tr) : n < 2 ^ k := by
  have h1 : n10 (D.drop (D.length - j)) < 10 ^ (D.drop (D.length - j)).length := n10_lt (by
    have := hD; rw [<- List.take_append_drop (D.length - j) D] at this; exact this.right)
  have h2 : (D.drop (D.length - j)).length <= j := by rw [List.length_drop]; omega
  have h3 : 10 ^ (D.drop (D.length - j)).length <= 10 ^ j := Nat.pow_le_pow_right (by decide) h2
  have h4 : n * 10 ^ j < 2 ^ k * 10 ^ j := by
    have e := h.eq
    have := Nat.mul_lt_mul_of_pos_right (Nat.lt_of_lt_of_le h1 h3) (two_pos k)
    rw [Nat.mul_comm (10 ^ j)] at this
    omega
  exact Nat.lt_of_mul_lt_mul_right h4
theorem LS.next {D b : List Nat} {k N j n : Nat} {tr0 tr : Bool} (h : LS D k N tr0 j n b tr) (hj : j < D.length) :
    (n + D.getD (D.length - 1 - j) 0 * 2 ^ k) * 10 ^ j + n10 D * 2 ^ k % 10 ^ j = n10 (D.drop (D.length - (j + 1))) * 2 ^ k := by
  have hi : D.length - (j + 1) < D.length := by omega
  have e : D.drop (D.length - (j + 1)) = D.getD (D.length - 1 - j) 0 :: D.drop (D.length - j) := by
    rw [List.drop_eq_getElem_cons hi, List.getD_eq_getElem?_getD, show D.length - 1 - j = D.length - (j + 1) by omega, List.getElem?_eq_getElem hi]
    congr 2
    omega
  rw [e, n10_cons, List.length_drop, show D.length - (D.length - j) = j by omega, Nat.add_mul, Nat.add_mul]
  have := h.eq
  rw [Nat.mul_right_comm _ (2 ^ k)]
  omega
theorem LS.step {D b : List Nat} {k N j n t : Nat} {tr0 tr : Bool} (h : LS D k N tr0 j n b tr) (ht : t * 10 ^ j + n10 D * 2 ^ k % 10 ^ j = n10 (D.drop (D.length - (j + 1))) * 2 ^ k) (hm : D.length <= N) (hj : j < N) :
    LS D k N tr0 (j + 1) (t / 10) (if N - 1 - j < 800 then b.set (N - 1 - j) (t % 10 + 48) else b) (if N - 1 - j < 800 then tr else (tr || decide (t % 10 ≠ 0))) := by
  have hp := ten_pos j
  have hq : n10 D * 2 ^ k / 10 ^ j % 10 = t % 10 := by
    have hc : n10 D = n10 (D.take (D.length - (j + 1))) * 10 ^ (D.drop (D.length - (j + 1))).length + n10 (D.drop (D.length - (j + 1))) := by
      conv => lhs; rw [<- List.take_append_drop (D.length - (j + 1)) D]
      exact n10_app _ _
    have hV : ∃ c, n10 D * 2 ^ k = (c * 10 + t) * 10 ^ j + n10 D * 2 ^ k % 10 ^ j := by
      rcases Nat.lt_or_ge j D.length with g | g
      · refine ⟨n10 (D.take (D.length - (j + 1))) * 2 ^ k, ?_⟩
        have el : (D.drop (D.length - (j + 1))).length = j + 1 := by rw [List.length_drop]; omega
        conv => lhs; rw [hc]
        rw [el, Nat.add_mul, <- ht, Nat.add_mul (_ * 10)]
        have e2 : n10 (D.take (D.length - (j + 1))) * 10 ^ (j + 1) * 2 ^ k = n10 (D.take (D.length - (j + 1))) * 2 ^ k * 10 * 10 ^ j := by
          rw [Nat.pow_succ]; simp only [Nat.mul_assoc, Nat.mul_left_comm, Nat.mul_comm]
        omega
      · refine ⟨0, ?_⟩
        rw [show D.length - (j + 1) = 0 by omega, List.drop_zero] at ht
        rw [Nat.zero_mul, Nat.zero_add]
        exact ht.symm
    obtain ⟨c, hc⟩ := hV
    have hr := Nat.mod_lt (n10 D * 2 ^ k) hp
    generalize n10 D * 2 ^ k % 10 ^ j = r at *
    rw [hc, Nat.add_comm, Nat.add_mul_div_right _ _ hp, Nat.div_eq_of_lt hr]
    omega
  refine ⟨?_, hj, ?_, ?_, ?_, ?_⟩
  · rw [mod_more, hq, <- ht, Nat.pow_succ]
    have e := Nat.div_add_mod t 10
    have e2 : t * 10 ^ j = t / 10 * (10 ^ j * 10) + 10 ^ j * (t % 10) := by
      conv => lhs; rw [<- e]
      rw [Nat.add_mul]
      simp only [Nat.mul_assoc, Nat.mul_left_comm, Nat.mul_comm]
    omega
  · split
    · rw [List.length_set]; exact h.len
    · exact h.len
  · intro i h1 h2 h3
    rcases Nat.eq_or_lt_of_le h1 with g | g
    · have e : N - 1 - j = i := by omega
      rw [e, if_pos h3, List.getD_eq_getElem?_getD, List.getElem?_set_self (by rw [h.len]; exact h3), show N - 1 - i = j by omega, hq]
      rfl
    · rw [<- h.hi i (by omega) h2 h3]
      split
      · rw [List.getD_eq_getElem?_getD, List.getElem?_set_ne (by omega), <- List.getD_eq_getElem?_getD]
      · rfl
  · intro i hi
    rw [<- h.lo i (by omega)]
    split
    · rw [List.getD_eq_getElem?_getD, List.getElem?_set_ne (by omega), <- List.getD_eq_getElem?_getD]
    · rfl
  · split
    · rw [show min (j + 1) (N - 800) = min j (N - 800) by omega]; exact h.tr
    · rw [h.tr, show min j (N - 800) = j by omega, show min (j + 1) (N - 800) = j + 1 by omega, Bool.or_assoc]
      congr 1
      rw [<- Bool.decide_or, decide_eq_decide, <- hq]
      exact (mod_ne _ _).symm
theorem LS.fin {D b : List Nat} {k N j : Nat} {tr0 tr : Bool} (h : LS D k N tr0 j 0 b tr) (h1 : D.length <= j) (h2 : 10 ^ (N - 1) <= n10 D * 2 ^ k) (h3 : 1 <= N) :
    j = N /\ b.take (min N 800) = ((digs N (n10 D * 2 ^ k)).take 800).map (· + 48) /\ tr = (tr0 || decide (n10 ((digs N (n10 D * 2 ^ k)).drop 800) ≠ 0)) := by
  have e := h.eq
  rw [Nat.zero_mul, Nat.zero_add, show D.length - j = 0 by omega, List.drop_zero] at e
  have hlt : n10 D * 2 ^ k < 10 ^ j := by rw [<- e]; exact Nat.mod_lt _ (ten_pos j)
  have hjN : j = N := by
    have := Nat.lt_of_le_of_lt h2 hlt
    have := (Nat.pow_lt_pow_iff_right (a := 10) (by decide)).1 this
    have := h.le
    omega
  subst hjN
  refine ⟨rfl, ?_, ?_⟩
  · apply List.ext_getElem?
    intro i
    rw [List.getElem?_map, List.getElem?_take, List.getElem?_take]
    by_cases g : i < min j 800
    · rw [if_pos g, if_pos (by omega), List.getElem?_eq_getElem (by rw [h.len]; omega), List.getElem?_eq_getElem (by rw [digs_len]; omega)]
      have a1 := h.hi i (by omega) (by omega) (by omega)
      rw [List.getD_eq_getElem?_getD, List.getElem?_eq_getElem (by rw [h.len]; omega)] at a1
      have a2 := digs_get j (n10 D * 2 ^ k) i (by omega)
      rw [List.getD_eq_getElem?_getD, List.getElem?_eq_getElem (by rw [digs_len]; omega)] at a2
      simp only [Option.getD_some] at a1 a2
      rw [a1, Option.map_some, a2]
    · rw [if_neg g]
      split
      · rw [List.getElem?_eq_none (by rw [digs_len]; omega)]; rfl
      · rfl
  · rw [h.tr, drop_n10 (digs_dg _ _), digs_n10, digs_len, Nat.mod_eq_of_lt hlt, show min j (j - 800) = j - 800 by omega]
theorem left_cut {D : List Nat} {k N : Nat} {dp dp' : Int} {tr tr0 : Bool} (h2 : 10 ^ (N - 1) <= n10 D * 2 ^ k) (h2' : n10 D * 2 ^ k < 10 ^ N) (h3 : 1 <= N) (hd : dp' - N = dp - D.length) (hdp : -2000 <= dp') (hN : (N : Int) <= dp' + 6000)
    (ht : tr = (tr0 || decide (n10 ((digs N (n10 D * 2 ^ k)).drop 800) ≠ 0))) : Cut (sc D dp * 2 ^ k) (trimZ ((digs N (n10 D * 2 ^ k)).take 800)) dp' tr tr0 := by
  have hs : sc D dp * 2 ^ k = sc (digs N (n10 D * 2 ^ k)) dp' := by
    unfold sc
    rw [digs_n10, digs_len, Nat.mod_eq_of_lt h2', Nat.mul_right_comm]
    congr 2
    omega
  rw [hs]
  refine cut_full (digs_dg _ _) ?_ ?_ hdp (by rw [digs_len]; exact hN) ht
  · have e := digs_get N (n10 D * 2 ^ k) 0 (by omega)
    have : n10 D * 2 ^ k / 10 ^ (N - 1 - 0) % 10 ≠ 0 := by
      rw [Nat.sub_zero]
      have p := ten_pos (N - 1)
      have a : 0 < n10 D * 2 ^ k / 10 ^ (N - 1) := Nat.div_pos h2 p
      have b : n10 D * 2 ^ k / 10 ^ (N - 1) < 10 := by
        rw [Nat.div_lt_iff_lt_mul p]
        have : 10 ^ N = 10 * 10 ^ (N - 1) := by
          conv => lhs; rw [show N = N - 1 + 1 by omega]
          rw [Nat.pow_succ, Nat.mul_comm]
        omega
      omega
    rw [<- e] at this
    rw [List.getD_eq_getElem?_getD, <- List.head?_eq_getElem?] at this
    intro hh
    rw [hh] at this
    exact this rfl
  · intro e
    have := digs_len N (n10 D * 2 ^ k)
    rw [e] at this
    simp at this
    omega
end Go.AD.Fp
