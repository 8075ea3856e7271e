import Derived.Test.YteabilbccbhecaaGreatDoorM12
import Derived.Test.YteabilbccbhecaaGreatDoorM16
import Derived.Test.YteabilbccbhecaaGreatDoorG8
set_option linter.unusedVariables false
set_option linter.unusedSimpArgs false
set_option maxRecDepth 100000
namespace Go.AD.Fl
open Go.Proofs RowKit Go.AD.Fp
section
variable {env : Env} {args : List AV} {σ0 σ τ : AS} {K : AV -> AS -> Prop} {X : PV -> AS -> Prop}
abbrev u8a (n : Nat) : AV := .pv (.int .u8 (n : Int))
abbrev bo (b : Bool) : AV := .pv (.bool b)
abbrev st (l : List UInt8) : AV := .pv (.str l)
theorem unBool : PS.underlying 4 = some .bool := by kernel_rfl
theorem wU8' {n : Nat} (h : n < 256) : IntKind.wrap .u8 (n : Int) = (n : Int) := by
  have e : IntKind.wrap .u8 (n : Int) = (n : Int) % 256 := by simp [IntKind.wrap, IntKind.bits, IntKind.signed]
  rw [e]; omega
theorem or8 {P : Program} {t : TypeId} {a b : Nat} (ha : a < 256) (hb : b < 256) {Q : AV -> Prop} : binD P .or t (u8a a) (u8a b) Q = Q (u8a (a ||| b)) := by
  rw [bin_or]
  have e : (BitVec.ofInt 8 (a : Int) ||| BitVec.ofInt 8 (b : Int)).toNat = a ||| b := by
    rw [BitVec.ofInt_natCast, BitVec.ofInt_natCast, BitVec.toNat_or, BitVec.toNat_ofNat, BitVec.toNat_ofNat, Nat.mod_eq_of_lt ha, Nat.mod_eq_of_lt hb]
  show Q (.pv (.int .u8 (IntKind.wrap .u8 ((BitVec.ofInt 8 (a : Int) ||| BitVec.ofInt 8 (b : Int)).toNat : Int)))) = _
  rw [e, wU8' (show a ||| b < 2 ^ 8 from Nat.or_lt_two_pow ha hb)]
def T_iLower : Tr := fun args σ K _ => ∃ c : UInt8, args = [u8a c.toNat] /\ K (u8a (c.toNat ||| 32)) σ
theorem T_iLower_ok (h : T_iLower args σ K X) : bodyD PS env an170 Tryz.f170 args σ K X := by
  obtain ⟨c, rfl, hK⟩ := h
  have hc := c.toNat_lt
  rw [<- S170_eq env, S170]
  simp only [lock_eq]
  rw [show (AV.pv (.int .u8 32)) = u8a 32 from rfl, or8 (by omega) (by decide)]
  exact retV_self hK
def restB (n : Num) (dot : Bool) : List UInt8 := if dot = true then expB n.E else dotB n.P ++ expB n.E
structure RS0 (n : Num) (dot : Bool) (ds R : List Nat) (nd nm m : Nat) (tr : Bool) (dp : Int) (i : Nat) : Prop where
  rd : RD ds nd nm m tr
  le : i <= n.text.length
  drop : n.text.drop i = R.map dB ++ restB n dot
  a : dot = false -> ds ++ R = n.W /\ -(ds.length : Int) <= dp /\ dp <= 0
  b : dot = true -> n.P = some n.Q /\ ds ++ R = n.ds /\ dp = (nd : Int) - ((ds.length : Int) - n.W.length)
def T_iRead : Tr := fun args σ K _ => ∃ n : Num, args = [st n.text] /\ n.Ok /\ n.text.length <= 800 /\
  ∀ (m j : Nat) (tr : Bool) (e : Int), Fp.Read (n10 n.ds) m j tr -> Capped e n.ex -> j <= 1000 -> K (.tuple [u64 m, i64 (if m = 0 then 0 else e - n.Q.length + j), bo n.neg, bo tr, bo false, i64 (n.text.length : Int), bo true]) σ
theorem rest_head {n : Num} {dot : Bool} : restB n dot = [] \/ (∃ q, dot = false /\ n.P = some q /\ restB n dot = 46 :: (q.map dB ++ expB n.E)) \/ (∃ c s d, n.E = some (c, s, d) /\ restB n dot = (if c = true then 69 else 101) :: (sgB s ++ d.map dB) /\ (dot = false -> n.P = none)) := by
  unfold restB
  cases dot with
  | true =>
    rw [if_pos rfl]
    cases hE : n.E with
    | none => exact .inl rfl
    | some x => obtain ⟨c, s, d⟩ := x; exact .inr (.inr ⟨c, s, d, rfl, rfl, fun h => by cases h⟩)
  | false =>
    rw [if_neg (by decide)]
    cases hP : n.P with
    | some q => exact .inr (.inl ⟨q, rfl, rfl, rfl⟩)
    | none =>
      cases hE : n.E with
      | none => exact .inl rfl
      | some x => obtain ⟨c, s, d⟩ := x; exact .inr (.inr ⟨c, s, d, rfl, rfl, fun _ => rfl⟩)
theorem or32 : ∀ d, d < 10 -> (d + 48 ||| 32) ≠ 120 := by decide
theorem no_x {n : Num} (h : n.Ok) {c : UInt8} (hc : c ∈ n.text) : (c.toNat ||| 32) ≠ 120 := by
  have hd : ∀ l : List Nat, Dg l -> c ∈ l.map dB -> (c.toNat ||| 32) ≠ 120 := by
    intro l hl hm
    obtain ⟨d, hd, rfl⟩ := List.mem_map.1 hm
    rw [dB_nat (hl d hd)]
    exact or32 d (hl d hd)
  have hs : ∀ s, c ∈ sgB s -> (c.toNat ||| 32) ≠ 120 := by
    intro s hm
    rcases s with _ | _ | _ <;> simp only [sgB, List.mem_singleton, List.not_mem_nil] at hm <;> subst hm <;> decide
  unfold Num.text at hc
  rcases List.mem_append.1 hc with hc | hc
  · exact hs _ hc
  rcases List.mem_append.1 hc with hc | hc
  · exact hd _ h.w hc
  rcases List.mem_append.1 hc with hc | hc
  · have hq := h.q
    unfold Num.Q at hq
    cases hP : n.P with
    | none => rw [hP] at hc; simp [dotB] at hc
    | some q =>
      rw [hP] at hc hq
      rcases List.mem_cons.1 hc with rfl | hc
      · decide
      · exact hd q hq hc
  · cases hE : n.E with
    | none => rw [hE] at hc; simp [expB] at hc
    | some x =>
      obtain ⟨b, s, d⟩ := x
      rw [hE] at hc
      rcases List.mem_cons.1 hc with rfl | hc
      · cases b <;> decide
      rcases List.mem_append.1 hc with hc | hc
      · exact hs _ hc
      · exact hd d (h.e _ _ _ hE).1 hc
theorem getD_mem {l : List UInt8} {i : Nat} (h : i < l.length) : l.getD i 0 ∈ l := by
  rw [List.getD_eq_getElem?_getD, List.getElem?_eq_getElem h]
  exact List.getElem_mem h
theorem bq {b : Bool} {Q : AV -> Prop} : binD PS .eql 4 (.pv (.bool true)) (.pv (.bool b)) Q = Q (.pv (.bool b)) := by
  rw [bin_beql unBool]; cases b <;> rfl
theorem eq8 {a b : Int} {t : TypeId} {k : IntKind} {Q : AV -> Prop} : binD PS .eql t (.pv (.int k a)) (.pv (.int k b)) Q = Q (.pv (.bool (decide (a = b)))) := by
  rw [bin_eql]
  congr 3
theorem ne8 {a b : Int} {t : TypeId} {k : IntKind} {Q : AV -> Prop} : binD PS .neq t (.pv (.int k a)) (.pv (.int k b)) Q = Q (.pv (.bool (decide (a ≠ b)))) := by
  rw [bin_neq]
  congr 3
  rw [Bool.eq_iff_iff, bne_iff_ne, decide_eq_true_eq]
theorem nod {p : Prop} [Decidable p] (h : ¬ p) : ¬ decide p = true := fun e => h (of_decide_eq_true e)
theorem T_iRead_ok (hLo : env 170 = T_iLower) (h : T_iRead args σ K X) : bodyD PS env an136 Tryz.f136 args σ K X := by
  obtain ⟨n, rfl, hn, hlen, hK⟩ := h
  have hdg := hn.dg
  have hQl : n.W.length + n.Q.length <= 800 := by
    have e : n.text.length = (sgB n.sg).length + (n.W.length + ((dotB n.P).length + (expB n.E).length)) := by
      unfold Num.text; simp only [List.length_append, List.length_map]
    have e2 : n.Q.length <= (dotB n.P).length := by
      unfold Num.Q
      cases n.P with
      | none => exact Nat.zero_le _
      | some q => simp [dotB]
    omega
  have hds : n.ds.length = n.W.length + n.Q.length := List.length_append
  have j77 : ∀ (nd nm m : Nat) (tr : Bool) (e dp : Int), RD n.ds nd nm m tr -> Capped e n.ex -> dp = (nd : Int) - n.Q.length + e -> J136_77 env (st n.text) (u64 m) (i64 0) (bo n.neg) (bo tr) (bo false) (i64 (n.text.length : Int)) (bo false) (bo false) (i64 (nm : Int)) (i64 dp) σ K X := by
    intro nd nm m tr e dp hR hc hdp
    have h1 := hR.hnd
    have h2 := hR.hnm
    have h3 := dropZ_len n.ds
    have h4 := hc.lo
    have h5 := hc.hi
    have hres := hK m (nd - nm) tr e hR.rd hc (by omega)
    unfold J136_77
    simp only [lock_eq, bin_neq]
    unfold J136_78
    simp only [lock_eq, cond_bool]
    refine iteI (fun g => ?_) (fun g => ?_)
    · have g : m ≠ 0 := by
        intro e; rw [e] at g; exact absurd g (by decide)
      rw [if_neg g] at hres
      rw [bin_sub, wrap64 (by omega) (by omega)]
      unfold J136_79
      simp only [lock_eq, guard_true]
      rw [if_neg (by decide), show dp - (nm : Int) = e - n.Q.length + ((nd - nm : Nat) : Int) by omega]
      exact retV_self hres
    · have g : m = 0 := by
        apply Classical.byContradiction
        intro e; exact g (bne_iff_ne.2 (by omega))
      rw [if_pos g] at hres
      unfold J136_79
      simp only [lock_eq, guard_true]
      rw [if_neg (by decide)]
      exact retV_self hres
  have j67 : ∀ (c : Bool) (s : Option Bool) (d : List Nat) (i nd nm m : Nat) (tr : Bool) (dp : Int), n.E = some (c, s, d) -> n.text.drop i = d.map dB -> RD n.ds nd nm m tr -> dp = (nd : Int) - n.Q.length ->
      J136_67 env (st n.text) (u64 m) (i64 0) (bo n.neg) (bo tr) (bo false) (i64 (i : Int)) (bo false) (bo false) (i64 (nm : Int)) (i64 dp) (i64 (if s = some true then -1 else 1)) σ K X := by
    intro c s d i nd nm m tr dp hE hdr hR hdp
    obtain ⟨hdd, hdne⟩ := hn.e _ _ _ hE
    have h1 := hR.hnd
    have h3 := dropZ_len n.ds
    obtain ⟨x, d', rfl⟩ : ∃ x d', d = x :: d' := by
      cases d with
      | nil => exact absurd rfl hdne
      | cons x d' => exact ⟨x, d', rfl⟩
    have hx : x < 10 := hdd x (List.mem_cons_self ..)
    obtain ⟨g1, g2, g3⟩ := drop_cons (hdr.trans (List.map_cons ..))
    unfold J136_67
    simp only [lock_eq, T.ls9, bin_geq, guard_false]
    rw [if_neg (nod (by omega)), T.is9 g1, g2, dB_nat hx, bin_lss, guard_false, if_neg (nod (by omega)), T.is9 g1, g2, dB_nat hx, bin_gtr, cond_bool, if_neg (nod (by omega))]
    unfold J136_68 J136_69
    refine lp136_69 (α := List Nat × List Nat × Nat) (fun y _ => n.text.length - y.2.2) (fun y τ => y.1 ++ y.2.1 = x :: d' /\ n.text.drop y.2.2 = y.2.1.map dB /\ y.2.2 <= n.text.length /\ τ = σ) (fun y => i64 (y.2.2 : Int)) (fun _ => bo false) (fun y => i64 ((capE y.1 : Nat) : Int)) ([], x :: d', i) ⟨rfl, hdr, by dsimp only; omega, rfl⟩ ?_
    rintro ⟨seen, R, i⟩ τ ⟨hsR, hdr, hil, hτ⟩
    obtain rfl := hτ.symm
    dsimp only at hsR hdr hil ⊢
    have hsd : Dg seen := by have := hdd; rw [<- hsR] at this; exact this.left
    have hRd : Dg R := by have := hdd; rw [<- hsR] at this; exact this.right
    have hcap := capE_spec seen hsd
    unfold L136_69
    simp only [lock_eq, T.ls9, bin_lss, guard_true]
    cases R with
    | nil =>
      have hi : i = n.text.length := by have := drop_nil hdr; omega
      subst hi
      rw [if_neg (nod (by omega))]
      rw [List.append_nil] at hsR
      subst hsR
      have hcp := capped_of (c := c) (s := s) hdd
      have hb : -100000 <= ((capE (x :: d') : Nat) : Int) * (if s = some true then -1 else 1) /\ ((capE (x :: d') : Nat) : Int) * (if s = some true then -1 else 1) <= 100000 := ⟨hcp.lo, hcp.hi⟩
      unfold J136_75
      simp only [lock_eq]
      rw [bin_mul, wrap64 (by omega) (by omega), bin_add, wrap64 (by omega) (by omega)]
      exact j77 nd nm m tr _ _ hR (by unfold Num.ex; rw [hE]; exact hcp) (by rw [hdp])
    | cons y R' =>
      obtain ⟨g1, g2, g3⟩ := drop_cons (hdr.trans (List.map_cons ..))
      have hy : y < 10 := hRd y (List.mem_cons_self ..)
      rw [if_pos (decide_eq_true (by omega)), T.is9 g1, g2, dB_nat hy, bin_leq, guard_true, if_pos (decide_eq_true (by omega)), T.is9 g1, g2, dB_nat hy, bin_leq, guard_false, if_pos (decide_eq_true (by omega))]
      unfold J136_71
      simp only [lock_eq]
      rw [T.is9 g1, g2, dB_nat hy, eq8, cond_bool, if_neg (nod (by omega))]
      unfold J136_73
      simp only [lock_eq, bin_lss]
      unfold J136_74
      simp only [lock_eq, cond_bool]
      have hcs := capE_snoc seen y
      refine iteI (fun g => ?_) (fun g => ?_)
      · have g := of_decide_eq_true g
        rw [if_pos (by omega)] at hcs
        rw [bin_mul, wrap64 (by omega) (by omega), T.is9 g1, g2, dB_nat hy, T.cv5_3, wrap64 (by omega) (by omega), bin_add, wrap64 (by omega) (by omega), bin_sub, wrap64 (by omega) (by omega), bin_add, wrap64 (by omega) (by omega)]
        exact back (seen ++ [y], R', i + 1) (by dsimp only; rw [hcs, show ((capE seen : Int) * 10 + ((y + 48 : Nat) : Int) - 48) = ((10 * capE seen + y : Nat) : Int) by omega]; rfl) (by dsimp only; omega) ⟨by dsimp only; rw [List.append_assoc]; exact hsR, g3, by dsimp only; omega, rfl⟩
      · have g : ¬ ((capE seen : Int) < 10000) := fun e => g (decide_eq_true e)
        rw [if_neg (by omega)] at hcs
        rw [bin_add, wrap64 (by omega) (by omega)]
        exact back (seen ++ [y], R', i + 1) (by dsimp only; rw [hcs]; rfl) (by dsimp only; omega) ⟨by dsimp only; rw [List.append_assoc]; exact hsR, g3, by dsimp only; omega, rfl⟩
  have j57 : ∀ (i nd nm m : Nat) (tr : Bool) (dp : Int), n.text.drop i = expB n.E -> i <= n.text.length -> RD n.ds nd nm m tr -> dp = (nd : Int) - n.Q.length ->
      J136_57 env (st n.text) (u64 m) (i64 0) (bo n.neg) (bo tr) (bo false) (i64 (i : Int)) (bo false) (bo false) (u64 10) (u8a 101) (i64 (nm : Int)) (i64 dp) σ K X := by
    intro i nd nm m tr dp hdr hil hR hdp
    have h1 := hR.hnd
    have h3 := dropZ_len n.ds
    unfold J136_57
    simp only [lock_eq, T.ls9, bin_lss, guard_true]
    cases hE : n.E with
    | none =>
      rw [hE] at hdr
      have hi : i = n.text.length := by have := drop_nil hdr; omega
      subst hi
      rw [if_neg (nod (by omega))]
      unfold J136_58
      simp only [lock_eq, cond_bool, bin_eql]
      rw [if_neg (by decide), if_neg (by decide)]
      exact j77 nd nm m tr 0 dp hR (by unfold Num.ex; rw [hE]; exact ⟨.inl rfl, by decide, by decide⟩) (by omega)
    | some y =>
      obtain ⟨c, s, d⟩ := y
      rw [hE] at hdr
      obtain ⟨hdd, hdne⟩ := hn.e _ _ _ hE
      obtain ⟨g1, g2, g3⟩ := drop_cons hdr
      rw [if_pos (decide_eq_true (by omega)), T.is9 g1, g2, hLo]
      refine ⟨_, rfl, ?_⟩
      dsimp only
      have hc : ((if c = true then (69 : UInt8) else 101).toNat ||| 32) = 101 := by cases c <;> decide
      rw [hc, eq8]
      unfold J136_58
      simp only [lock_eq, cond_bool]
      rw [if_pos (by decide), bin_add, wrap64 (by omega) (by omega), show ((i : Int) + 1) = ((i + 1 : Nat) : Int) by omega]
      unfold J136_59
      simp only [lock_eq, T.ls9, bin_geq, cond_bool]
      obtain ⟨x, d', rfl⟩ : ∃ x d', d = x :: d' := by
        cases d with
        | nil => exact absurd rfl hdne
        | cons x d' => exact ⟨x, d', rfl⟩
      have hx : x < 10 := hdd x (List.mem_cons_self ..)
      have hi1 : i + 1 < n.text.length := by
        rcases Nat.lt_or_ge (i + 1) n.text.length with g | g
        · exact g
        · rw [List.drop_eq_nil_of_le g] at g3
          have := congrArg List.length g3
          simp at this
      rw [if_neg (nod (by omega))]
      unfold J136_60 J136_61
      simp only [lock_eq]
      rw [T.is9 hi1]
      unfold J136_62
      simp only [lock_eq]
      rcases s with _ | _ | _
      ·
        obtain ⟨k1, k2, k3⟩ := drop_cons (g3.trans (List.map_cons ..))
        rw [k2, dB_nat hx, eq8]
        unfold J136_63
        simp only [lock_eq, cond_bool]
        rw [if_neg (nod (by omega)), eq8]
        unfold J136_65
        simp only [lock_eq, cond_bool]
        rw [if_neg (nod (by omega))]
        exact j67 c none (x :: d') (i + 1) nd nm m tr dp hE g3 hR hdp
      · obtain ⟨k1, k2, k3⟩ := drop_cons (g3.trans (List.cons_append ..))
        rw [k2, show UInt8.toNat 43 = 43 from rfl, eq8]
        unfold J136_63
        simp only [lock_eq, cond_bool]
        rw [if_pos (by decide), bin_add, wrap64 (by omega) (by omega)]
        exact j67 c (some false) (x :: d') (i + 1 + 1) nd nm m tr dp hE k3 hR hdp
      · obtain ⟨k1, k2, k3⟩ := drop_cons (g3.trans (List.cons_append ..))
        rw [k2, show UInt8.toNat 45 = 45 from rfl, eq8]
        unfold J136_63
        simp only [lock_eq, cond_bool]
        rw [if_neg (by decide), eq8]
        unfold J136_65
        simp only [lock_eq, cond_bool]
        rw [if_pos (by decide), bin_add, wrap64 (by omega) (by omega)]
        exact j67 c (some true) (x :: d') (i + 1 + 1) nd nm m tr dp hE k3 hR hdp
  have j51 : ∀ (dot : Bool) (ds : List Nat) (nd nm m : Nat) (tr : Bool) (dp : Int) (i : Nat), RS0 n dot ds [] nd nm m tr dp i -> (dot = false -> n.P = none) ->
      J136_51 env (st n.text) (u64 m) (i64 0) (bo n.neg) (bo tr) (bo false) (i64 (i : Int)) (bo false) (bo false) (u64 10) (u8a 101) (bo dot) (bo (decide (ds ≠ []))) (i64 (nd : Int)) (i64 (nm : Int)) (i64 dp) σ K X := by
    intro dot ds nd nm m tr dp i hS hP
    have hds2 : ds = n.ds := by
      cases dot with
      | true => have := (hS.b rfl).2.1; rwa [List.append_nil] at this
      | false =>
        have := (hS.a rfl).1
        rw [List.append_nil] at this
        rw [this]; unfold Num.ds Num.Q; rw [hP rfl]; simp
    subst hds2
    have hdr : n.text.drop i = expB n.E := by
      have := hS.drop
      rw [List.map_nil, List.nil_append] at this
      rw [this]; unfold restB
      cases dot with
      | true => rfl
      | false => rw [hP rfl]; rfl
    unfold J136_51
    simp only [lock_eq, un_not, cond_bool]
    rw [decide_eq_true hn.ne, if_neg (by decide)]
    unfold J136_52
    simp only [lock_eq, un_not, cond_bool]
    cases dot with
    | true =>
      rw [if_neg (by decide)]
      have h2 := (hS.b rfl).2.2
      unfold J136_54
      simp only [lock_eq, bin_eql]
      unfold J136_55
      simp only [lock_eq, cond_bool]
      rw [if_neg (by decide)]
      exact j57 i nd nm m tr dp hdr hS.le hS.rd (by omega)
    | false =>
      rw [if_pos (by decide)]
      have hQ : n.Q.length = 0 := by unfold Num.Q; rw [hP rfl]; rfl
      unfold J136_54
      simp only [lock_eq, bin_eql]
      unfold J136_55
      simp only [lock_eq, cond_bool]
      rw [if_neg (by decide)]
      exact j57 i nd nm m tr nd hdr hS.le hS.rd (by omega)
  have j9 : n.text.drop (sgB n.sg).length = n.W.map dB ++ (dotB n.P ++ expB n.E) -> J136_9 env (st n.text) (u64 0) (i64 0) (bo n.neg) (bo false) (bo false) (i64 (((sgB n.sg).length : Nat) : Int)) (bo false) (bo false) σ K X := by
    intro hdr
    have hi0 : (sgB n.sg).length <= 1 := by rcases n.sg with _ | _ | _ <;> simp [sgB]
    have hil : (sgB n.sg).length <= n.text.length := by unfold Num.text; rw [List.length_append]; omega
    have j18 : J136_18 env (st n.text) (u64 0) (i64 0) (bo n.neg) (bo false) (bo false) (i64 (((sgB n.sg).length : Nat) : Int)) (bo false) (bo false) (u64 10) (i64 19) (u8a 101) σ K X := by
      unfold J136_18 J136_19 J136_20 J136_21 J136_22 J136_23 J136_23x
      refine lp136_23 (α := Bool × List Nat × List Nat × Nat × Nat × Nat × Bool × Int × Nat) (fun y _ => n.text.length - y.2.2.2.2.2.2.2.2)
        (fun y τ => RS0 n y.1 y.2.1 y.2.2.1 y.2.2.2.1 y.2.2.2.2.1 y.2.2.2.2.2.1 y.2.2.2.2.2.2.1 y.2.2.2.2.2.2.2.1 y.2.2.2.2.2.2.2.2 /\ τ = σ)
        (fun y => u64 y.2.2.2.2.2.1) (fun y => bo y.2.2.2.2.2.2.1) (fun y => i64 (y.2.2.2.2.2.2.2.2 : Int)) (fun _ => bo false) (fun y => bo y.1) (fun y => bo (decide (y.2.1 ≠ []))) (fun y => i64 (y.2.2.2.1 : Int)) (fun y => i64 (y.2.2.2.2.1 : Int)) (fun y => i64 y.2.2.2.2.2.2.2.1)
        (false, [], n.W, 0, 0, 0, false, 0, (sgB n.sg).length) ⟨⟨RD.start, hil, hdr, fun _ => ⟨rfl, by simp, by simp⟩, fun h => Bool.noConfusion h⟩, rfl⟩ ?_
      rintro ⟨dot, ds, R, nd, nm, m, tr, dp, i⟩ τ ⟨hS, hτ⟩
      obtain rfl := hτ.symm
      dsimp only at hS ⊢
      have hdsl : (ds ++ R).length <= 1600 := by
        cases dot with
        | true => rw [(hS.b rfl).2.1]; omega
        | false => rw [(hS.a rfl).1]; omega
      rw [List.length_append] at hdsl
      have hRdg : Dg R := by
        cases dot with
        | true => have := hdg; rw [<- (hS.b rfl).2.1] at this; exact this.right
        | false => have := hn.w; rw [<- (hS.a rfl).1] at this; exact this.right
      have h1 := hS.rd.hnd
      have h2 := hS.rd.hnm
      have h3 := dropZ_len ds
      have hdpb : -2000 <= dp /\ dp <= 2000 := by
        cases dot with
        | true => have := (hS.b rfl).2.2; omega
        | false => have := (hS.a rfl).2; omega
      have hil := hS.le
      unfold L136_23
      simp only [lock_eq, T.ls9, bin_lss, cond_bool]
      cases R with
      | nil =>
        rcases rest_head (n := n) (dot := dot) with hr | ⟨q, hd, hP, hr⟩ | ⟨c, s, d, hE, hr, hP⟩
        · have hdr := hS.drop
          rw [List.map_nil, List.nil_append, hr] at hdr
          have hi : i = n.text.length := by have := drop_nil hdr; omega
          rw [if_neg (nod (by omega))]
          refine j51 dot ds nd nm m tr dp i hS ?_
          intro hd
          unfold restB at hr
          rw [hd, if_neg (by decide)] at hr
          cases hP : n.P with
          | none => rfl
          | some q => rw [hP] at hr; cases hr
        · subst hd
          have hdr := hS.drop
          rw [List.map_nil, List.nil_append, hr] at hdr
          obtain ⟨g1, g2, g3⟩ := drop_cons hdr
          rw [if_pos (decide_eq_true (by omega))]
          unfold J136_25
          simp only [lock_eq]
          rw [T.is9 g1, g2, show UInt8.toNat 46 = 46 from rfl]
          unfold J136_26
          simp only [lock_eq]
          rw [eq8, bq]
          unfold J136_27
          simp only [lock_eq, cond_bool]
          rw [if_neg (by decide), eq8, bq]
          unfold J136_29
          simp only [lock_eq, cond_bool]
          rw [if_pos (by decide), if_neg (by decide), bin_add, wrap64 (by omega) (by omega)]
          have hq : n.Q = q := by unfold Num.Q; rw [hP]; rfl
          have hA := hS.a rfl
          rw [List.append_nil] at hA
          refine back (true, ds, q, nd, nm, m, tr, (nd : Int), i + 1) rfl (by dsimp only; omega) ⟨⟨hS.rd, by dsimp only; omega, ?_, fun h => Bool.noConfusion h, fun _ => ⟨by rw [hq]; exact hP, ?_, ?_⟩⟩, rfl⟩
          · dsimp only
            rw [g3]; unfold restB; rw [if_pos rfl]
          · dsimp only
            rw [hA.1]; unfold Num.ds; rw [hq]
          · dsimp only
            rw [hA.1]; omega
        · have hdr := hS.drop
          rw [List.map_nil, List.nil_append, hr] at hdr
          obtain ⟨g1, g2, g3⟩ := drop_cons hdr
          obtain ⟨z, hz⟩ : ∃ z, (if c = true then (69 : UInt8) else 101).toNat = z := ⟨_, rfl⟩
          have hz2 : z = 69 \/ z = 101 := by rw [<- hz]; cases c <;> simp
          rw [if_pos (decide_eq_true (by omega))]
          unfold J136_25
          simp only [lock_eq]
          rw [T.is9 g1, g2, hz]
          unfold J136_26
          simp only [lock_eq]
          rw [eq8, bq]
          unfold J136_27
          simp only [lock_eq, cond_bool]
          rw [if_neg (nod (by omega)), eq8, bq]
          unfold J136_29
          simp only [lock_eq, cond_bool]
          rw [if_neg (nod (by omega)), bin_leq, guard_true, if_pos (decide_eq_true (by omega)), bin_leq, bq]
          unfold J136_33
          simp only [lock_eq, cond_bool]
          rw [if_neg (nod (by omega)), bin_eql, guard_true, if_neg (by decide), bq]
          unfold J136_44
          simp only [lock_eq, cond_bool]
          rw [if_neg (by decide)]
          exact j51 dot ds nd nm m tr dp i hS hP
      | cons d R' =>
        have hd : d < 10 := hRdg d (List.mem_cons_self ..)
        obtain ⟨g1, g2, g3⟩ := drop_cons (hS.drop.trans (List.cons_append ..))
        rw [if_pos (decide_eq_true (by omega))]
        unfold J136_25
        simp only [lock_eq]
        rw [T.is9 g1, g2, dB_nat hd]
        unfold J136_26
        simp only [lock_eq]
        rw [eq8, bq]
        unfold J136_27
        simp only [lock_eq, cond_bool]
        rw [if_neg (nod (by omega)), eq8, bq]
        unfold J136_29
        simp only [lock_eq, cond_bool]
        rw [if_neg (nod (by omega)), bin_leq, guard_true, if_pos (decide_eq_true (by omega)), bin_leq, bq]
        unfold J136_33
        simp only [lock_eq, cond_bool]
        rw [if_pos (decide_eq_true (by omega))]
        have hsd : (true : Bool) = decide (ds ++ [d] ≠ []) := (decide_eq_true (by simp)).symm
        rw [hsd]
        have hnext : ∀ (nd' nm' m' : Nat) (tr' : Bool) (dp' : Int), RD (ds ++ [d]) nd' nm' m' tr' -> (dot = false -> -((ds.length : Int) + 1) <= dp' /\ dp' <= 0) -> (dot = true -> dp' - nd' = dp - nd - 1) -> RS0 n dot (ds ++ [d]) R' nd' nm' m' tr' dp' (i + 1) := by
          intro nd' nm' m' tr' dp' hR h4 h5
          refine ⟨hR, by omega, g3, fun hdot => ⟨?_, ?_, (h4 hdot).2⟩, fun hdot => ⟨(hS.b hdot).1, ?_, ?_⟩⟩
          · rw [List.append_assoc]; exact (hS.a hdot).1
          · rw [List.length_append, List.length_singleton]
            have := (h4 hdot).1
            omega
          · rw [List.append_assoc]; exact (hS.b hdot).2.1
          · have a1 := (hS.b hdot).2.2
            have a2 := h5 hdot
            rw [List.length_append, List.length_singleton]
            omega
        have hdpA : dot = false -> -((ds.length : Int)) <= dp /\ dp <= 0 := fun h => (hS.a h).2
        have j36 : ¬ (d = 0 /\ nd = 0) -> J136_36 env (Go.AD.Inv (fun y : Bool × List Nat × List Nat × Nat × Nat × Nat × Bool × Int × Nat => [st n.text, u64 y.2.2.2.2.2.1, i64 0, bo n.neg, bo y.2.2.2.2.2.2.1, bo false, i64 (y.2.2.2.2.2.2.2.2 : Int), bo false, bo false, u64 10, i64 19, u8a 101, bo y.1, bo (decide (y.2.1 ≠ [])), i64 (y.2.2.2.1 : Int), i64 (y.2.2.2.2.1 : Int), i64 y.2.2.2.2.2.2.2.1]) (fun y _ => n.text.length - y.2.2.2.2.2.2.2.2)
            (fun y τ => RS0 n y.1 y.2.1 y.2.2.1 y.2.2.2.1 y.2.2.2.2.1 y.2.2.2.2.2.1 y.2.2.2.2.2.2.1 y.2.2.2.2.2.2.2.1 y.2.2.2.2.2.2.2.2 /\ τ = σ)) (n.text.length - i) (st n.text) (u64 m) (i64 0) (bo n.neg) (bo tr) (bo false) (i64 (i : Int)) (bo false) (bo false) (u64 10) (i64 19) (u8a 101) (bo dot) (bo (decide (ds ++ [d] ≠ []))) (i64 (nd : Int)) (i64 (nm : Int)) (i64 dp) (u8a (d + 48)) σ K X := by
          intro hz
          have hlt := hS.rd.lt
          unfold J136_36
          simp only [lock_eq]
          rw [bin_add, wrap64 (by omega) (by omega)]
          unfold J136_37
          simp only [lock_eq, bin_lss]
          unfold J136_38
          simp only [lock_eq, cond_bool]
          refine iteI (fun g => ?_) (fun g => ?_)
          · have g : nm < 19 := by have := of_decide_eq_true g; omega
            have hp : 10 ^ nm <= 10 ^ 18 := Nat.pow_le_pow_right (by decide) (by omega)
            rw [mulU (by omega)]
            unfold J136_39
            simp only [lock_eq]
            rw [bin_sub, show (((d + 48 : Nat) : Int) - 48) = (d : Int) by omega, wU8' (by omega), T.cv5_37, wU64n (by omega), addU (by omega), bin_add, wrap64 (by omega) (by omega), bin_add, wrap64 (by omega) (by omega)]
            exact back (dot, ds ++ [d], R', nd + 1, nm + 1, m * 10 + d, tr, dp, i + 1) rfl (by dsimp only; omega) ⟨hnext (nd + 1) (nm + 1) (m * 10 + d) tr dp (hS.rd.take hd g hz) (fun h => by have := hdpA h; omega) (fun _ => by omega), rfl⟩
          · have g : 19 <= nm := by
              have : ¬ ((nm : Int) < 19) := fun e => g (decide_eq_true e)
              omega
            have hlv := hS.rd.leave hd g
            rw [ne8, cond_bool]
            refine iteI (fun g2 => ?_) (fun g2 => ?_)
            · have g2 := of_decide_eq_true g2
              rw [decide_eq_true (show d ≠ 0 by omega), Bool.or_true] at hlv
              rw [bin_add, wrap64 (by omega) (by omega)]
              exact back (dot, ds ++ [d], R', nd + 1, nm, m, true, dp, i + 1) rfl (by dsimp only; omega) ⟨hnext (nd + 1) nm m true dp hlv (fun h => by have := hdpA h; omega) (fun _ => by omega), rfl⟩
            · have g2 : ¬ (((d + 48 : Nat) : Int) ≠ 48) := fun e => g2 (decide_eq_true e)
              rw [decide_eq_false (show ¬ d ≠ 0 by omega), Bool.or_false] at hlv
              rw [bin_add, wrap64 (by omega) (by omega)]
              exact back (dot, ds ++ [d], R', nd + 1, nm, m, tr, dp, i + 1) rfl (by dsimp only; omega) ⟨hnext (nd + 1) nm m tr dp hlv (fun h => by have := hdpA h; omega) (fun _ => by omega), rfl⟩
        unfold J136_34
        simp only [lock_eq]
        rw [eq8, guard_true]
        refine iteI (fun g => ?_) (fun g => ?_)
        · have g := of_decide_eq_true g
          have hd0 : d = 0 := by omega
          rw [bin_eql, cond_bool]
          refine iteI (fun g2 => ?_) (fun g2 => ?_)
          · have hnd0 : nd = 0 := by
              have : (nd : Int) = 0 := by simpa using g2
              omega
            rw [bin_sub, wrap64 (by omega) (by omega), bin_add, wrap64 (by omega) (by omega)]
            have hz : RD (ds ++ [d]) nd nm m tr := by
              have := hS.rd
              rw [hnd0] at this ⊢
              rw [hd0]
              exact this.zero
            exact back (dot, ds ++ [d], R', nd, nm, m, tr, dp - 1, i + 1) rfl (by dsimp only; omega) ⟨hnext nd nm m tr (dp - 1) hz (fun h => by have := hdpA h; omega) (fun _ => by omega), rfl⟩
          · exact j36 fun e => g2 (by rw [e.2]; rfl)
        · have g : ¬ (((d + 48 : Nat) : Int) = 48) := fun e => g (decide_eq_true e)
          exact j36 fun e => by omega
    have j13 : J136_13 env (st n.text) (u64 0) (i64 0) (bo n.neg) (bo false) (bo false) (i64 (((sgB n.sg).length : Nat) : Int)) (bo false) (bo false) (u64 10) (i64 19) (u8a 101) (bo false) σ K X := by
      unfold J136_13
      simp only [lock_eq, cond_bool]
      rw [if_neg (by decide)]
      exact j18
    unfold J136_9 J136_10 J136_11 J136_12
    simp only [lock_eq, T.ls9]
    rw [bin_add, wrap64 (by omega) (by omega), bin_lss, guard_true]
    refine iteI (fun g => ?_) (fun g => ?_)
    · have g := of_decide_eq_true g
      rw [T.is9 (by omega), eq8, guard_true]
      refine iteI (fun g2 => ?_) (fun g2 => ?_)
      · rw [bin_add, wrap64 (by omega) (by omega), show ((((sgB n.sg).length : Nat) : Int) + 1) = (((sgB n.sg).length + 1 : Nat) : Int) by omega, T.is9 (by omega), hLo]
        refine ⟨_, rfl, ?_⟩
        dsimp only
        rw [eq8, decide_eq_false (show ¬ (((n.text.getD ((sgB n.sg).length + 1) 0).toNat ||| 32 : Nat) : Int) = 120 from fun e => no_x hn (c := n.text.getD ((sgB n.sg).length + 1) 0) (getD_mem (by omega)) (by omega))]
        exact j13
      · exact j13
    · exact j13
  have htx : n.text = sgB n.sg ++ (n.W.map dB ++ (dotB n.P ++ expB n.E)) := rfl
  have hdr0 : n.text.drop (sgB n.sg).length = n.W.map dB ++ (dotB n.P ++ expB n.E) := by rw [htx, List.drop_left' rfl]
  have j9 := j9 hdr0
  have hbody : ∃ c r, n.W.map dB ++ (dotB n.P ++ expB n.E) = c :: r /\ c.toNat ≠ 43 /\ c.toNat ≠ 45 := by
    cases hW : n.W with
    | cons d W' =>
      have hd : d < 10 := hn.w d (by rw [hW]; exact List.mem_cons_self ..)
      exact ⟨dB d, _, rfl, by rw [dB_nat hd]; omega, by rw [dB_nat hd]; omega⟩
    | nil =>
      cases hP : n.P with
      | some q => exact ⟨46, _, rfl, by decide, by decide⟩
      | none => exact absurd (show n.ds = [] by unfold Num.ds Num.Q; rw [hW, hP]; rfl) hn.ne
  obtain ⟨c0, r0, hb0, hc1, hc2⟩ := hbody
  have hpos : 0 < n.text.length := by
    rw [htx, hb0, List.length_append, List.length_cons]; omega
  rw [<- S136_eq env, S136]
  unfold J136_1 J136_2
  simp only [lock_eq, T.ls9, bin_geq, cond_bool]
  rw [if_neg (nod (by omega))]
  unfold J136_3
  simp only [lock_eq]
  rw [show (AV.pv (.int .i64 0)) = i64 ((0 : Nat) : Int) from rfl, T.is9 hpos]
  unfold J136_4
  simp only [lock_eq]
  have hneg : n.neg = (n.sg == some true) := rfl
  cases hsg : n.sg with
  | none =>
    have h0 : n.text.getD 0 0 = c0 := by rw [htx, hsg, hb0]; rfl
    rw [hsg] at j9 hneg
    rw [h0, eq8]
    unfold J136_5
    simp only [lock_eq, cond_bool]
    rw [if_neg (nod (by omega)), eq8]
    unfold J136_7_53
    simp only [lock_eq, cond_bool]
    rw [if_neg (nod (by omega))]
    rw [hneg] at j9
    exact j9
  | some b =>
    cases b with
    | false =>
      have h0 : n.text.getD 0 0 = 43 := by rw [htx, hsg]; rfl
      rw [hsg] at j9 hneg
      rw [h0, show UInt8.toNat 43 = 43 from rfl, eq8]
      unfold J136_5
      simp only [lock_eq, cond_bool]
      rw [if_pos (by decide), bin_add, wrap64 (by omega) (by omega)]
      rw [hneg] at j9
      exact j9
    | true =>
      have h0 : n.text.getD 0 0 = 45 := by rw [htx, hsg]; rfl
      rw [hsg] at j9 hneg
      rw [h0, show UInt8.toNat 45 = 45 from rfl, eq8]
      unfold J136_5
      simp only [lock_eq, cond_bool]
      rw [if_neg (by decide), eq8]
      unfold J136_7_53
      simp only [lock_eq, cond_bool]
      rw [if_pos (by decide), bin_add, wrap64 (by omega) (by omega)]
      rw [hneg] at j9
      exact j9
end
end Go.AD.Fl

set_option linter.unusedVariables false
set_option linter.unusedSimpArgs false
set_option maxRecDepth 100000
namespace Go.AD.Fl
open Go.Proofs RowKit Go.AD.Fp
section
variable {env : Env} {args : List AV} {σ0 σ τ : AS} {K : AV -> AS -> Prop} {X : PV -> AS -> Prop}
structure SS0 (n : Num) (dot : Bool) (ds R : List Nat) (nd : Nat) (dp : Int) (i : Nat) (b : List Nat) : Prop where
  hnd : nd = (dropZ ds).length
  len : b.length = 800
  shows : b.take nd = (dropZ ds).map (· + 48)
  le : i <= n.text.length
  drop : n.text.drop i = R.map dB ++ restB n dot
  a : dot = false -> ds ++ R = n.W /\ -(ds.length : Int) <= dp /\ dp <= 0
  b : dot = true -> n.P = some n.Q /\ ds ++ R = n.ds /\ dp = (nd : Int) - ((ds.length : Int) - n.W.length)
def T_iSet : Tr := fun args σ K _ => ∃ (a : Nat) (n : Num) (b0 : List Nat) (ng tr0 : Bool) (mk : Option TypeId), args = [.addr a 0, st n.text] /\ σ a = some (.cells (dC b0 0 0 ng tr0) mk) /\ b0.length = 800 /\ n.Ok /\ n.text.length <= 800 /\
  ∀ (b : List Nat) (e : Int), Dec b (dropZ n.ds) -> Capped e n.ex -> K (bo true) (σ.set a (.cells (dC b (dropZ n.ds).length (((dropZ n.ds).length : Int) - n.Q.length + e) n.neg false) mk))
theorem T_iSet_ok (hLo : env 170 = T_iLower) (h : T_iSet args σ K X) : bodyD PS env an142 Tryz.f142 args σ K X := by
  obtain ⟨a, n, b0, ng, tr0, mk, rfl, ha, hb0, hn, hlen, hK⟩ := h
  have hdg := hn.dg
  have hQl : n.W.length + n.Q.length <= 800 := by
    have e : n.text.length = (sgB n.sg).length + (n.W.length + ((dotB n.P).length + (expB n.E).length)) := by
      unfold Num.text; simp only [List.length_append, List.length_map]
    have e2 : n.Q.length <= (dotB n.P).length := by
      unfold Num.Q
      cases n.P with
      | none => exact Nat.zero_le _
      | some q => simp [dotB]
    omega
  have hds : n.ds.length = n.W.length + n.Q.length := List.length_append
  have hsl := dropZ_len n.ds
  obtain ⟨N, hN⟩ : ∃ N, N = (dropZ n.ds).length := ⟨_, rfl⟩
  rw [<- hN] at hK
  have j50 : ∀ (b : List Nat) (e dp : Int), Dec b (dropZ n.ds) -> Capped e n.ex -> dp = (N : Int) - n.Q.length + e ->
      J142_50 env (st n.text) (bo false) (i64 (n.text.length : Int)) (σ.set a (.cells (dC b N dp n.neg false) mk)) K X := by
    intro b e dp hD hc hdp
    unfold J142_50
    simp only [lock_eq, T.ls9, bin_neq, cond_bool]
    rw [if_neg (by simp), hdp]
    exact retV_self (hK b e hD hc)
  have j42 : ∀ (c : Bool) (s : Option Bool) (d : List Nat) (i : Nat) (b : List Nat), n.E = some (c, s, d) -> n.text.drop i = d.map dB -> Dec b (dropZ n.ds) ->
      J142_42 env (.addr a 0) (st n.text) (bo false) (i64 (i : Int)) (i64 (if s = some true then -1 else 1)) (σ.set a (.cells (dC b N ((N : Int) - n.Q.length) n.neg false) mk)) K X := by
    intro c s d i b hE hdr hD
    obtain ⟨hdd, hdne⟩ := hn.e _ _ _ hE
    have hb := hD.len
    have hg : (σ.set a (.cells (dC b N ((N : Int) - n.Q.length) n.neg false) mk)) a = some (.cells (dC b N ((N : Int) - n.Q.length) n.neg false) mk) := set_same _ _ _
    obtain ⟨x, d', rfl⟩ : ∃ x d', d = x :: d' := by
      cases d with
      | nil => exact absurd rfl hdne
      | cons x d' => exact ⟨x, d', rfl⟩
    have hx : x < 10 := hdd x (List.mem_cons_self ..)
    obtain ⟨g1, g2, g3⟩ := drop_cons (hdr.trans (List.map_cons ..))
    unfold J142_42
    simp only [lock_eq, T.ls9, bin_geq, guard_false]
    rw [if_neg (nod (by omega)), T.is9 g1, g2, dB_nat hx, bin_lss, guard_false, if_neg (nod (by omega)), T.is9 g1, g2, dB_nat hx, bin_gtr, cond_bool, if_neg (nod (by omega))]
    unfold J142_43 J142_44
    refine lp142_44 (α := List Nat × List Nat × Nat) (fun y _ => n.text.length - y.2.2) (fun y τ => y.1 ++ y.2.1 = x :: d' /\ n.text.drop y.2.2 = y.2.1.map dB /\ y.2.2 <= n.text.length /\ τ = σ.set a (.cells (dC b N ((N : Int) - n.Q.length) n.neg false) mk)) (fun y => i64 (y.2.2 : Int)) (fun y => i64 ((capE y.1 : Nat) : Int)) ([], x :: d', i) ⟨rfl, hdr, by dsimp only; omega, rfl⟩ ?_
    rintro ⟨seen, R, i⟩ τ ⟨hsR, hdr, hil, rfl⟩
    dsimp only at hsR hdr hil ⊢
    have hsd : Dg seen := by have := hdd; rw [<- hsR] at this; exact this.left
    have hRd : Dg R := by have := hdd; rw [<- hsR] at this; exact this.right
    have hcap := capE_spec seen hsd
    unfold L142_44
    simp only [lock_eq, T.ls9, bin_lss, guard_true]
    cases R with
    | nil =>
      have hi : i = n.text.length := by have := drop_nil hdr; omega
      subst hi
      rw [if_neg (nod (by omega))]
      rw [List.append_nil] at hsR
      subst hsR
      have hcp := capped_of (c := c) (s := s) hdd
      have hb2 : -100000 <= ((capE (x :: d') : Nat) : Int) * (if s = some true then -1 else 1) /\ ((capE (x :: d') : Nat) : Int) * (if s = some true then -1 else 1) <= 100000 := ⟨hcp.lo, hcp.hi⟩
      unfold J142_49
      simp only [lock_eq, nil_addr, T.fa181_2, Nat.zero_add, ldDdp hg hb]
      rw [bin_mul, wrap64 (by omega) (by omega), bin_add, wrap64 (by omega) (by omega), stDdp hg hb, set_set]
      exact j50 b _ _ hD (by unfold Num.ex; rw [hE]; exact hcp) rfl
    | cons y R' =>
      obtain ⟨g1, g2, g3⟩ := drop_cons (hdr.trans (List.map_cons ..))
      have hy : y < 10 := hRd y (List.mem_cons_self ..)
      rw [if_pos (decide_eq_true (by omega)), T.is9 g1, g2, dB_nat hy, bin_leq, guard_true, if_pos (decide_eq_true (by omega)), T.is9 g1, g2, dB_nat hy, bin_leq, guard_false, if_pos (decide_eq_true (by omega))]
      unfold J142_46
      simp only [lock_eq]
      rw [T.is9 g1, g2, dB_nat hy, eq8, cond_bool, if_neg (nod (by omega))]
      unfold J142_47
      simp only [lock_eq, bin_lss]
      unfold J142_48
      simp only [lock_eq, cond_bool]
      have hcs := capE_snoc seen y
      refine iteI (fun g => ?_) (fun g => ?_)
      · have g := of_decide_eq_true g
        rw [if_pos (by omega)] at hcs
        rw [bin_mul, wrap64 (by omega) (by omega), T.is9 g1, g2, dB_nat hy, T.cv5_3, wrap64 (by omega) (by omega), bin_add, wrap64 (by omega) (by omega), bin_sub, wrap64 (by omega) (by omega), bin_add, wrap64 (by omega) (by omega)]
        exact back (seen ++ [y], R', i + 1) (by dsimp only; rw [hcs, show ((capE seen : Int) * 10 + ((y + 48 : Nat) : Int) - 48) = ((10 * capE seen + y : Nat) : Int) by omega]; rfl) (by dsimp only; omega) ⟨by dsimp only; rw [List.append_assoc]; exact hsR, g3, by dsimp only; omega, rfl⟩
      · have g : ¬ ((capE seen : Int) < 10000) := fun e => g (decide_eq_true e)
        rw [if_neg (by omega)] at hcs
        rw [bin_add, wrap64 (by omega) (by omega)]
        exact back (seen ++ [y], R', i + 1) (by dsimp only; rw [hcs]; rfl) (by dsimp only; omega) ⟨by dsimp only; rw [List.append_assoc]; exact hsR, g3, by dsimp only; omega, rfl⟩
  have j32 : ∀ (i : Nat) (b : List Nat), n.text.drop i = expB n.E -> i <= n.text.length -> Dec b (dropZ n.ds) ->
      J142_32 env (.addr a 0) (st n.text) (bo false) (i64 (i : Int)) (σ.set a (.cells (dC b N ((N : Int) - n.Q.length) n.neg false) mk)) K X := by
    intro i b hdr hil hD
    unfold J142_32
    simp only [lock_eq, T.ls9, bin_lss, guard_true]
    cases hE : n.E with
    | none =>
      rw [hE] at hdr
      have hi : i = n.text.length := by have := drop_nil hdr; omega
      subst hi
      rw [if_neg (nod (by omega))]
      unfold J142_33
      simp only [lock_eq, cond_bool]
      rw [if_neg (by decide)]
      exact j50 b 0 _ hD (by unfold Num.ex; rw [hE]; exact ⟨.inl rfl, by decide, by decide⟩) (by omega)
    | some y =>
      obtain ⟨c, s, d⟩ := y
      rw [hE] at hdr
      obtain ⟨hdd, hdne⟩ := hn.e _ _ _ hE
      obtain ⟨g1, g2, g3⟩ := drop_cons hdr
      rw [if_pos (decide_eq_true (by omega)), T.is9 g1, g2, hLo]
      refine ⟨_, rfl, ?_⟩
      dsimp only
      have hc : ((if c = true then (69 : UInt8) else 101).toNat ||| 32) = 101 := by cases c <;> decide
      rw [hc, eq8]
      unfold J142_33
      simp only [lock_eq, cond_bool]
      rw [if_pos (by decide), bin_add, wrap64 (by omega) (by omega), show ((i : Int) + 1) = ((i + 1 : Nat) : Int) by omega]
      unfold J142_34
      simp only [lock_eq, T.ls9, bin_geq, cond_bool]
      obtain ⟨x, d', rfl⟩ : ∃ x d', d = x :: d' := by
        cases d with
        | nil => exact absurd rfl hdne
        | cons x d' => exact ⟨x, d', rfl⟩
      have hx : x < 10 := hdd x (List.mem_cons_self ..)
      have hi1 : i + 1 < n.text.length := by
        rcases Nat.lt_or_ge (i + 1) n.text.length with g | g
        · exact g
        · rw [List.drop_eq_nil_of_le g] at g3
          have := congrArg List.length g3
          simp at this
      rw [if_neg (nod (by omega))]
      unfold J142_35 J142_36
      simp only [lock_eq]
      rw [T.is9 hi1]
      unfold J142_37
      simp only [lock_eq]
      rcases s with _ | _ | _
      ·
        obtain ⟨k1, k2, k3⟩ := drop_cons (g3.trans (List.map_cons ..))
        rw [k2, dB_nat hx, eq8]
        unfold J142_38
        simp only [lock_eq, cond_bool]
        rw [if_neg (nod (by omega)), eq8]
        unfold J142_40
        simp only [lock_eq, cond_bool]
        rw [if_neg (nod (by omega))]
        exact j42 c none (x :: d') (i + 1) b hE g3 hD
      · obtain ⟨k1, k2, k3⟩ := drop_cons (g3.trans (List.cons_append ..))
        rw [k2, show UInt8.toNat 43 = 43 from rfl, eq8]
        unfold J142_38
        simp only [lock_eq, cond_bool]
        rw [if_pos (by decide), bin_add, wrap64 (by omega) (by omega)]
        exact j42 c (some false) (x :: d') (i + 1 + 1) b hE k3 hD
      · obtain ⟨k1, k2, k3⟩ := drop_cons (g3.trans (List.cons_append ..))
        rw [k2, show UInt8.toNat 45 = 45 from rfl, eq8]
        unfold J142_38
        simp only [lock_eq, cond_bool]
        rw [if_neg (by decide), eq8]
        unfold J142_40
        simp only [lock_eq, cond_bool]
        rw [if_pos (by decide), bin_add, wrap64 (by omega) (by omega)]
        exact j42 c (some true) (x :: d') (i + 1 + 1) b hE k3 hD
  have j29 : ∀ (dot : Bool) (ds : List Nat) (nd : Nat) (dp : Int) (i : Nat) (b : List Nat), SS0 n dot ds [] nd dp i b -> (dot = false -> n.P = none) ->
      J142_29 env (.addr a 0) (st n.text) (bo false) (i64 (i : Int)) (bo dot) (bo (decide (ds ≠ []))) (σ.set a (.cells (dC b nd dp n.neg false) mk)) K X := by
    intro dot ds nd dp i b hS hP
    have hds2 : ds = n.ds := by
      cases dot with
      | true => have := (hS.b rfl).2.1; rwa [List.append_nil] at this
      | false =>
        have := (hS.a rfl).1
        rw [List.append_nil] at this
        rw [this]; unfold Num.ds Num.Q; rw [hP rfl]; simp
    subst hds2
    have hb := hS.len
    have hnd := hS.hnd
    rw [<- hN] at hnd
    subst hnd
    have hD : Dec b (dropZ n.ds) := ⟨hb, by omega, dropZ_dg hdg, by rw [<- hN]; exact hS.shows⟩
    have hdr : n.text.drop i = expB n.E := by
      have := hS.drop
      rw [List.map_nil, List.nil_append] at this
      rw [this]; unfold restB
      cases dot with
      | true => rfl
      | false => rw [hP rfl]; rfl
    unfold J142_29
    simp only [lock_eq, un_not, cond_bool]
    rw [decide_eq_true hn.ne, if_neg (by decide)]
    unfold J142_30
    simp only [lock_eq, un_not]
    unfold J142_31
    simp only [lock_eq, cond_bool]
    cases dot with
    | true =>
      rw [if_neg (by decide)]
      have h2 := (hS.b rfl).2.2
      rw [show dp = (nd : Int) - n.Q.length by omega]
      exact j32 i b hdr hS.le hD
    | false =>
      rw [if_pos (by decide)]
      have hQ : n.Q.length = 0 := by unfold Num.Q; rw [hP rfl]; rfl
      have hg : (σ.set a (.cells (dC b nd dp n.neg false) mk)) a = some (.cells (dC b nd dp n.neg false) mk) := set_same _ _ _
      simp only [nil_addr, T.fa181_1, T.fa181_2, Nat.zero_add, ldDnd hg hb, stDdp hg hb, set_set]
      have := j32 i b hdr hS.le hD
      rw [hQ] at this
      rw [show ((nd : Int) - ((0 : Nat) : Int)) = (nd : Int) by omega] at this
      exact this
  have j11 : n.text.drop (sgB n.sg).length = n.W.map dB ++ (dotB n.P ++ expB n.E) -> J142_11 env (.addr a 0) (st n.text) (bo false) (i64 (((sgB n.sg).length : Nat) : Int)) (σ.set a (.cells (dC b0 0 0 n.neg false) mk)) K X := by
    intro hdr
    have hi0 : (sgB n.sg).length <= 1 := by rcases n.sg with _ | _ | _ <;> simp [sgB]
    have hil : (sgB n.sg).length <= n.text.length := by unfold Num.text; rw [List.length_append]; omega
    unfold J142_11 J142_12 J142_13
    refine lp142_13 (α := Bool × List Nat × List Nat × Nat × Int × Nat × List Nat) (fun y _ => n.text.length - y.2.2.2.2.2.1)
      (fun y τ => SS0 n y.1 y.2.1 y.2.2.1 y.2.2.2.1 y.2.2.2.2.1 y.2.2.2.2.2.1 y.2.2.2.2.2.2 /\ τ = σ.set a (.cells (dC y.2.2.2.2.2.2 y.2.2.2.1 y.2.2.2.2.1 n.neg false) mk))
      (fun y => i64 (y.2.2.2.2.2.1 : Int)) (fun y => bo y.1) (fun y => bo (decide (y.2.1 ≠ [])))
      (false, [], n.W, 0, 0, (sgB n.sg).length, b0) ⟨⟨rfl, hb0, rfl, hil, hdr, fun _ => ⟨rfl, by simp, by simp⟩, fun h => Bool.noConfusion h⟩, rfl⟩ ?_
    rintro ⟨dot, ds, R, nd, dp, i, b⟩ τ ⟨hS, rfl⟩
    dsimp only at hS ⊢
    have hb := hS.len
    have hg : (σ.set a (.cells (dC b nd dp n.neg false) mk)) a = some (.cells (dC b nd dp n.neg false) mk) := set_same _ _ _
    have hdsl : (ds ++ R).length <= 800 := by
      cases dot with
      | true => rw [(hS.b rfl).2.1]; omega
      | false => rw [(hS.a rfl).1]; omega
    rw [List.length_append] at hdsl
    have hRdg : Dg R := by
      cases dot with
      | true => have := hdg; rw [<- (hS.b rfl).2.1] at this; exact this.right
      | false => have := hn.w; rw [<- (hS.a rfl).1] at this; exact this.right
    have h1 := hS.hnd
    have h3 := dropZ_len ds
    have hdpb : -2000 <= dp /\ dp <= 2000 := by
      cases dot with
      | true => have := (hS.b rfl).2.2; omega
      | false => have := (hS.a rfl).2; omega
    have hil := hS.le
    unfold L142_13
    simp only [lock_eq, T.ls9, bin_lss, cond_bool]
    cases R with
    | nil =>
      rcases rest_head (n := n) (dot := dot) with hr | ⟨q, hd, hP, hr⟩ | ⟨c, s, d, hE, hr, hP⟩
      · have hdr := hS.drop
        rw [List.map_nil, List.nil_append, hr] at hdr
        have hi : i = n.text.length := by have := drop_nil hdr; omega
        rw [if_neg (nod (by omega))]
        refine j29 dot ds nd dp i b hS ?_
        intro hd
        unfold restB at hr
        rw [hd, if_neg (by decide)] at hr
        cases hP : n.P with
        | none => rfl
        | some q => rw [hP] at hr; cases hr
      · subst hd
        have hdr := hS.drop
        rw [List.map_nil, List.nil_append, hr] at hdr
        obtain ⟨g1, g2, g3⟩ := drop_cons hdr
        rw [if_pos (decide_eq_true (by omega))]
        unfold J142_15
        simp only [lock_eq]
        rw [T.is9 g1, g2, show UInt8.toNat 46 = 46 from rfl, eq8]
        unfold J142_16
        simp only [lock_eq, cond_bool]
        rw [if_neg (by decide), T.is9 g1, g2, show UInt8.toNat 46 = 46 from rfl, eq8]
        unfold J142_17
        simp only [lock_eq, cond_bool]
        rw [if_pos (by decide), if_neg (by decide)]
        unfold J142_18 J142_19
        simp only [lock_eq, nil_addr, T.fa181_1, T.fa181_2, Nat.zero_add, ldDnd hg hb, stDdp hg hb, set_set]
        rw [bin_add, wrap64 (by omega) (by omega)]
        have hq : n.Q = q := by unfold Num.Q; rw [hP]; rfl
        have hA := hS.a rfl
        rw [List.append_nil] at hA
        refine back (true, ds, q, nd, (nd : Int), i + 1, b) rfl (by dsimp only; omega) ⟨⟨hS.hnd, hb, hS.shows, by dsimp only; omega, ?_, fun h => Bool.noConfusion h, fun _ => ⟨by rw [hq]; exact hP, ?_, ?_⟩⟩, rfl⟩
        · dsimp only
          rw [g3]; unfold restB; rw [if_pos rfl]
        · dsimp only
          rw [hA.1]; unfold Num.ds; rw [hq]
        · dsimp only
          rw [hA.1]; omega
      · have hdr := hS.drop
        rw [List.map_nil, List.nil_append, hr] at hdr
        obtain ⟨g1, g2, g3⟩ := drop_cons hdr
        obtain ⟨z, hz⟩ : ∃ z, (if c = true then (69 : UInt8) else 101).toNat = z := ⟨_, rfl⟩
        have hz2 : z = 69 \/ z = 101 := by rw [<- hz]; cases c <;> simp
        rw [if_pos (decide_eq_true (by omega))]
        unfold J142_15
        simp only [lock_eq]
        rw [T.is9 g1, g2, hz, eq8]
        unfold J142_16
        simp only [lock_eq, cond_bool]
        rw [if_neg (nod (by omega)), T.is9 g1, g2, hz, eq8]
        unfold J142_17
        simp only [lock_eq, cond_bool]
        rw [if_neg (nod (by omega)), T.is9 g1, g2, hz, bin_leq, guard_true, if_pos (decide_eq_true (by omega)), T.is9 g1, g2, hz, bin_leq]
        unfold J142_21
        simp only [lock_eq, cond_bool]
        rw [if_neg (nod (by omega))]
        exact j29 dot ds nd dp i b hS hP
    | cons d R' =>
      have hd : d < 10 := hRdg d (List.mem_cons_self ..)
      rw [List.length_cons] at hdsl
      obtain ⟨g1, g2, g3⟩ := drop_cons (hS.drop.trans (List.cons_append ..))
      rw [if_pos (decide_eq_true (by omega))]
      unfold J142_15
      simp only [lock_eq]
      rw [T.is9 g1, g2, dB_nat hd, eq8]
      unfold J142_16
      simp only [lock_eq, cond_bool]
      rw [if_neg (nod (by omega)), T.is9 g1, g2, dB_nat hd, eq8]
      unfold J142_17
      simp only [lock_eq, cond_bool]
      rw [if_neg (nod (by omega)), T.is9 g1, g2, dB_nat hd, bin_leq, guard_true, if_pos (decide_eq_true (by omega)), T.is9 g1, g2, dB_nat hd, bin_leq]
      unfold J142_21
      simp only [lock_eq, cond_bool]
      rw [if_pos (decide_eq_true (by omega))]
      have hsd : (true : Bool) = decide (ds ++ [d] ≠ []) := (decide_eq_true (by simp)).symm
      rw [hsd]
      have hnext : ∀ (nd' : Nat) (dp' : Int) (b' : List Nat), nd' = (dropZ (ds ++ [d])).length -> b'.length = 800 -> b'.take nd' = (dropZ (ds ++ [d])).map (· + 48) -> (dot = false -> -((ds.length : Int) + 1) <= dp' /\ dp' <= 0) -> (dot = true -> dp' - nd' = dp - nd - 1) -> SS0 n dot (ds ++ [d]) R' nd' dp' (i + 1) b' := by
        intro nd' dp' b' e1 e2 e3 h4 h5
        refine ⟨e1, e2, e3, by omega, g3, fun hdot => ⟨?_, ?_, (h4 hdot).2⟩, fun hdot => ⟨(hS.b hdot).1, ?_, ?_⟩⟩
        · rw [List.append_assoc]; exact (hS.a hdot).1
        · rw [List.length_append, List.length_singleton]
          have := (h4 hdot).1
          omega
        · rw [List.append_assoc]; exact (hS.b hdot).2.1
        · have a1 := (hS.b hdot).2.2
          have a2 := h5 hdot
          rw [List.length_append, List.length_singleton]
          omega
      have hdpA : dot = false -> -((ds.length : Int)) <= dp /\ dp <= 0 := fun h => (hS.a h).2
      have hsn := dropZ_snoc ds d
      have j24 : ¬ (dropZ ds = [] /\ d = 0) -> J142_24 env (Go.AD.Inv (fun y : Bool × List Nat × List Nat × Nat × Int × Nat × List Nat => [.addr a 0, st n.text, bo false, i64 (y.2.2.2.2.2.1 : Int), bo y.1, bo (decide (y.2.1 ≠ []))]) (fun y _ => n.text.length - y.2.2.2.2.2.1)
          (fun y τ => SS0 n y.1 y.2.1 y.2.2.1 y.2.2.2.1 y.2.2.2.2.1 y.2.2.2.2.2.1 y.2.2.2.2.2.2 /\ τ = σ.set a (.cells (dC y.2.2.2.2.2.2 y.2.2.2.1 y.2.2.2.2.1 n.neg false) mk))) (n.text.length - i) (.addr a 0) (st n.text) (bo false) (i64 (i : Int)) (bo dot) (bo (decide (ds ++ [d] ≠ []))) (σ.set a (.cells (dC b nd dp n.neg false) mk)) K X := by
        intro hz
        rw [if_neg hz] at hsn
        have hnd8 : nd < 800 := by omega
        unfold J142_24
        simp only [lock_eq, nil_addr, T.fa181_1, Nat.zero_add, ldDnd hg hb, bin_lss]
        unfold J142_25
        simp only [lock_eq, cond_bool]
        rw [if_pos (decide_eq_true (by omega))]
        simp only [nil_addr, T.fa181_1, T.fa181_0, Nat.zero_add, ldDnd hg hb]
        rw [T.is9 g1, g2, dB_nat hd]
        simp only [ixD hnd8, stDb hg hb hnd8, set_set]
        have hg2 : (σ.set a (.cells (dC (b.set nd (d + 48)) nd dp n.neg false) mk)) a = some (.cells (dC (b.set nd (d + 48)) nd dp n.neg false) mk) := set_same _ _ _
        have hb2 : (b.set nd (d + 48)).length = 800 := by rw [List.length_set]; exact hb
        unfold J142_26
        simp only [lock_eq, nil_addr, T.fa181_1, Nat.zero_add, ldDnd hg2 hb2]
        rw [bin_add, wrap64 (by omega) (by omega), show ((nd : Int) + 1) = ((nd + 1 : Nat) : Int) by omega, stDnd hg2 hb2, set_set, bin_add, wrap64 (by omega) (by omega)]
        refine back (dot, ds ++ [d], R', nd + 1, dp, i + 1, b.set nd (d + 48)) rfl (by dsimp only; omega) ⟨hnext (nd + 1) dp (b.set nd (d + 48)) ?_ hb2 ?_ (fun h => by have := hdpA h; omega) (fun _ => by omega), rfl⟩
        · rw [hsn, List.length_append, <- h1]; rfl
        · rw [take_setLast (by omega), hS.shows, hsn, List.map_append]; rfl
      unfold J142_22
      simp only [lock_eq]
      rw [T.is9 g1, g2, dB_nat hd, eq8, guard_true]
      refine iteI (fun g => ?_) (fun g => ?_)
      · have g := of_decide_eq_true g
        have hd0 : d = 0 := by omega
        simp only [nil_addr, T.fa181_1, Nat.zero_add, ldDnd hg hb]
        rw [bin_eql]
        unfold J142_23
        simp only [lock_eq, cond_bool]
        refine iteI (fun g2 => ?_) (fun g2 => ?_)
        · have hnd0 : nd = 0 := by
            have : (nd : Int) = 0 := by simpa using g2
            omega
          have hz0 : dropZ ds = [] := List.length_eq_zero_iff.1 (by omega)
          rw [if_pos ⟨hz0, hd0⟩] at hsn
          simp only [nil_addr, T.fa181_2, Nat.zero_add, ldDdp hg hb]
          rw [bin_sub, wrap64 (by omega) (by omega), stDdp hg hb, set_set, bin_add, wrap64 (by omega) (by omega)]
          exact back (dot, ds ++ [d], R', nd, dp - 1, i + 1, b) rfl (by dsimp only; omega) ⟨hnext nd (dp - 1) b (by rw [hsn, hnd0]; rfl) hb (by rw [hsn, hnd0]; rfl) (fun h => by have := hdpA h; omega) (fun _ => by omega), rfl⟩
        · exact j24 fun e => g2 (by rw [h1, e.1]; rfl)
      · have g : ¬ (((d + 48 : Nat) : Int) = 48) := fun e => g (decide_eq_true e)
        unfold J142_23
        simp only [lock_eq, cond_bool]
        rw [if_neg (by decide)]
        exact j24 fun e => by omega
  have htx : n.text = sgB n.sg ++ (n.W.map dB ++ (dotB n.P ++ expB n.E)) := rfl
  have hdr0 : n.text.drop (sgB n.sg).length = n.W.map dB ++ (dotB n.P ++ expB n.E) := by rw [htx, List.drop_left' rfl]
  have j11 := j11 hdr0
  have hbody : ∃ c r, n.W.map dB ++ (dotB n.P ++ expB n.E) = c :: r /\ c.toNat ≠ 43 /\ c.toNat ≠ 45 := by
    cases hW : n.W with
    | cons d W' =>
      have hd : d < 10 := hn.w d (by rw [hW]; exact List.mem_cons_self ..)
      exact ⟨dB d, _, rfl, by rw [dB_nat hd]; omega, by rw [dB_nat hd]; omega⟩
    | nil =>
      cases hP : n.P with
      | some q => exact ⟨46, _, rfl, by decide, by decide⟩
      | none => exact absurd (show n.ds = [] by unfold Num.ds Num.Q; rw [hW, hP]; rfl) hn.ne
  obtain ⟨c0, r0, hbb, hc1, hc2⟩ := hbody
  have hpos : 0 < n.text.length := by
    rw [htx, hbb, List.length_append, List.length_cons]; omega
  rw [<- S142_eq env, S142]
  unfold J142_1 J142_2
  simp only [lock_eq, nil_addr, T.fa181_3, Nat.zero_add, stDneg ha hb0]
  have hg1 : (σ.set a (.cells (dC b0 0 0 false tr0) mk)) a = some (.cells (dC b0 0 0 false tr0) mk) := set_same _ _ _
  unfold J142_3
  simp only [lock_eq, nil_addr, T.fa181_4, Nat.zero_add, stDtr hg1 hb0, set_set]
  have hg2 : (σ.set a (.cells (dC b0 0 0 false false) mk)) a = some (.cells (dC b0 0 0 false false) mk) := set_same _ _ _
  unfold J142_4
  simp only [lock_eq, T.ls9, bin_geq, cond_bool]
  rw [if_neg (nod (by omega))]
  unfold J142_5
  simp only [lock_eq]
  rw [show (AV.pv (.int .i64 0)) = i64 ((0 : Nat) : Int) from rfl, T.is9 hpos]
  unfold J142_6
  simp only [lock_eq]
  have hneg : n.neg = (n.sg == some true) := rfl
  cases hsg : n.sg with
  | none =>
    have h0 : n.text.getD 0 0 = c0 := by rw [htx, hsg, hbb]; rfl
    rw [hsg] at j11 hneg
    rw [h0, eq8]
    unfold J142_7
    simp only [lock_eq, cond_bool]
    rw [if_neg (nod (by omega)), eq8]
    unfold J142_9
    simp only [lock_eq, cond_bool]
    rw [if_neg (nod (by omega))]
    rw [hneg] at j11
    exact j11
  | some b =>
    cases b with
    | false =>
      have h0 : n.text.getD 0 0 = 43 := by rw [htx, hsg]; rfl
      rw [hsg] at j11 hneg
      rw [h0, show UInt8.toNat 43 = 43 from rfl, eq8]
      unfold J142_7
      simp only [lock_eq, cond_bool]
      rw [if_pos (by decide), bin_add, wrap64 (by omega) (by omega)]
      rw [hneg] at j11
      exact j11
    | true =>
      have h0 : n.text.getD 0 0 = 45 := by rw [htx, hsg]; rfl
      rw [hsg] at j11 hneg
      rw [h0, show UInt8.toNat 45 = 45 from rfl, eq8]
      unfold J142_7
      simp only [lock_eq, cond_bool]
      rw [if_neg (by decide), eq8]
      unfold J142_9
      simp only [lock_eq, cond_bool]
      rw [if_pos (by decide), bin_add, wrap64 (by omega) (by omega)]
      unfold J142_10
      simp only [lock_eq, nil_addr, T.fa181_3, Nat.zero_add, stDneg hg2 hb0, set_set]
      rw [hneg] at j11
      exact j11
end
end Go.AD.Fl
