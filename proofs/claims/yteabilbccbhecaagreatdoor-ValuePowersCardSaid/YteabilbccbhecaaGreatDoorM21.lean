import Derived.Test.YteabilbccbhecaaGreatDoorM20
import Derived.Test.YteabilbccbhecaaGreatDoorM8
set_option linter.unusedVariables false
set_option linter.unusedSimpArgs false
set_option maxRecDepth 100000
namespace Go.AD.Fl
open Go.Proofs RowKit Go.AD.Fp
section
variable {env : Env} {args : List AV} {σ0 σ τ : AS} {K : AV -> AS -> Prop} {X : PV -> AS -> Prop}
def T_dSign : Tr := fun args σ K _ => ∃ s : Bytes, args = [st s] /\ K (i64 (((sgB (sign0 s).1).length : Nat) : Int)) σ
theorem sign0_len (c : UInt8) (l : Bytes) : (sgB (sign0 (c :: l)).1).length = if c = 43 \/ c = 45 then 1 else 0 := by
  have e : sign0 (c :: l) = if c = 45 then (some true, l) else if c = 43 then (some false, l) else (none, c :: l) := rfl
  rw [e]
  by_cases h : c = 45
  · rw [if_pos h, if_pos (Or.inr h)]; rfl
  · rw [if_neg h]
    by_cases h2 : c = 43
    · rw [if_pos h2, if_pos (Or.inl h2)]; rfl
    · rw [if_neg h2, if_neg (fun e : c = 43 \/ c = 45 => e.elim h2 h)]; rfl
theorem T_dSign_ok (h : T_dSign args σ K X) : bodyD PS env an55 Tryz.f55 args σ K X := by
  obtain ⟨s, rfl, hK⟩ := h
  rw [<- S55_eq env, S55]
  simp only [lock_eq, bin_sneq, guard_true]
  cases s with
  | nil => rw [if_neg (by decide)]; exact retV_self hK
  | cons c l =>
    have e43 : c = 43 ↔ ((c.toNat : Nat) : Int) = 43 := by
      constructor
      · intro h; rw [h]; rfl
      · intro h; exact UInt8.toNat_inj.1 (by show _ = 43; omega)
    have e45 : c = 45 ↔ ((c.toNat : Nat) : Int) = 45 := by
      constructor
      · intro h; rw [h]; rfl
      · intro h; exact UInt8.toNat_inj.1 (by show _ = 45; omega)
    rw [if_pos (by simp), show (AV.pv (.int .i64 0)) = i64 ((0 : Nat) : Int) from rfl, T.is9 (by simp), List.getD_cons_zero, eq8, guard_false]
    rw [sign0_len] at hK
    simp only [e43, e45] at hK
    refine iteI (fun g => ?_) (fun g => ?_)
    · rw [if_pos (.inl (of_decide_eq_true g))] at hK
      exact retV_self hK
    · have g := fun e => g (decide_eq_true e)
      rw [T.is9 (by simp), List.getD_cons_zero, eq8, cond_bool]
      refine iteI (fun g2 => ?_) (fun g2 => ?_)
      · rw [if_pos (.inr (of_decide_eq_true g2))] at hK
        exact retV_self hK
      · have g2 := fun e => g2 (decide_eq_true e)
        rw [if_neg (fun e => e.elim g g2)] at hK
        exact retV_self hK
theorem isD_iff (c : UInt8) : isD c = true ↔ (48 : Int) <= ((c.toNat : Nat) : Int) /\ ((c.toNat : Nat) : Int) <= 57 := by
  unfold isD
  rw [Bool.and_eq_true, decide_eq_true_eq, decide_eq_true_eq]
  omega
theorem tw_head {c : UInt8} {l : Bytes} : (c :: l).takeWhile isD = if isD c = true then c :: l.takeWhile isD else [] := by rw [List.takeWhile_cons]
def T_dRun : Tr := fun args σ K _ => ∃ s : Bytes, args = [st s] /\ s.length <= 100000 /\ K (i64 (((digs0 s).length : Nat) : Int)) σ
theorem T_dRun_ok (h : T_dRun args σ K X) : bodyD PS env an56 Tryz.f56 args σ K X := by
  obtain ⟨s, rfl, hs, hK⟩ := h
  rw [digs0_len] at hK
  rw [<- S56_eq env, S56]
  refine lp56_2 (α := Nat) (fun n _ => s.length - n) (fun n τ => n <= s.length /\ n + ((s.drop n).takeWhile isD).length = (s.takeWhile isD).length /\ τ = σ) (fun n => i64 (n : Int)) 0 ⟨Nat.zero_le _, by rw [List.drop_zero, Nat.zero_add], rfl⟩ ?_
  rintro n τ ⟨hn, he, hτ⟩
  obtain rfl := hτ.symm
  unfold L56_2
  simp only [lock_eq, T.ls9, bin_lss, guard_true]
  have stop : (s.drop n).takeWhile isD = [] -> retV (i64 (n : Int)) σ K := by
    intro h0
    rw [h0, List.length_nil, Nat.add_zero] at he
    rw [<- he] at hK
    exact retV_self hK
  refine iteI (fun g => ?_) (fun g => ?_)
  · have g : n < s.length := by
      have := of_decide_eq_true g
      omega
    have ed : s.drop n = s.getD n 0 :: s.drop (n + 1) := by
      rw [List.drop_eq_getElem_cons g, List.getD_eq_getElem?_getD, List.getElem?_eq_getElem g]; rfl
    rw [ed, tw_head] at he
    rw [ed, tw_head] at stop
    have hiff := isD_iff (s.getD n 0)
    rw [T.is9 g, bin_leq, guard_true]
    refine iteI (fun g2 => ?_) (fun g2 => ?_)
    · have g2 := of_decide_eq_true g2
      rw [T.is9 g, bin_leq, cond_bool]
      refine iteI (fun g3 => ?_) (fun g3 => ?_)
      · have g3 := of_decide_eq_true g3
        rw [if_pos (hiff.2 ⟨g2, g3⟩), List.length_cons] at he
        rw [bin_add, wrap64 (by omega) (by omega)]
        exact back (n + 1) rfl (by omega) ⟨g, by omega, rfl⟩
      · exact stop (if_neg fun e => g3 (decide_eq_true (hiff.1 e).2))
    · exact stop (if_neg fun e => g2 (decide_eq_true (hiff.1 e).1))
  · have g : s.length <= n := by
      have : ¬ ((n : Int) < (s.length : Int)) := fun e => g (decide_eq_true e)
      omega
    exact stop (by rw [List.drop_eq_nil_of_le g]; rfl)
def T_dNumeral : Tr := fun args σ K _ => ∃ s : Bytes, args = [st s] /\ s.length <= 100000 /\ K (i64 (((if hasN s = true then (num0 s).1.text.length else 0 : Nat)) : Int)) σ
theorem drop_pre {l a b : Bytes} (h : l = a ++ b) : l.drop a.length = b := by rw [h]; exact List.drop_left' rfl
theorem take_pre {l a b : Bytes} (h : l = a ++ b) : l.take a.length = a := by rw [h]; exact List.take_left' rfl
theorem dropW (l : Bytes) : l.drop (digs0 l).length = l.dropWhile isD := by
  rw [digs0_len]
  exact drop_pre (List.takeWhile_append_dropWhile (p := isD) (l := l)).symm
theorem dropS (l : Bytes) : l.drop (sgB (sign0 l).1).length = (sign0 l).2 := drop_pre (sign0_text l)
theorem T_dNumeral_ok (hS : env 55 = T_dSign) (hR : env 56 = T_dRun) (h : T_dNumeral args σ K X) : bodyD PS env an37 Tryz.f37 args σ K X := by
  obtain ⟨s, rfl, hs, hK⟩ := h
  have j9 : ∀ (at3 : Nat) (W : List Nat) (P : Option (List Nat)) (m : Bytes) (behind : Nat), s.drop at3 = m -> at3 <= s.length -> (num0 s).1 = ⟨(sign0 s).1, W, P, (exp0 m).1⟩ -> at3 = (sgB (sign0 s).1).length + (W.length + (dotB P).length) -> behind = (P.getD []).length -> W.length <= 100000 -> behind <= 100000 ->
      J37_9 env (st s) (i64 (at3 : Int)) (i64 (W.length : Int)) (i64 (behind : Int)) σ K X := by
    intro at3 W P m behind hm hal hnum hat hbe hW hB
    have hds : (num0 s).1.ds.length = W.length + behind := by rw [hnum, hbe]; exact List.length_append
    have htx : (num0 s).1.text.length = at3 + (expB (exp0 m).1).length := by
      rw [hnum, hat]; unfold Num.text; simp only [List.length_append, List.length_map]; omega
    unfold J37_9
    simp only [lock_eq]
    rw [bin_add, wrap64 (by omega) (by omega), eq8, cond_bool]
    refine iteI (fun g => ?_) (fun g => ?_)
    · have g := of_decide_eq_true g
      have hno : hasN s = false := by
        unfold hasN
        rw [decide_eq_false_iff_not, Classical.not_not]
        exact List.length_eq_zero_iff.1 (by omega)
      rw [hno, if_neg (by decide)] at hK
      exact retV_self hK
    have g : ¬ ((W.length : Int) + (behind : Int) = 0) := fun e => g (decide_eq_true e)
    have hyes : hasN s = true := by
      unfold hasN
      rw [decide_eq_true_eq]
      intro e
      rw [e, List.length_nil] at hds
      omega
    rw [hyes, if_pos rfl, htx] at hK
    have none : (exp0 m).1 = none -> retV (i64 (at3 : Int)) σ K := by
      intro e
      rw [e] at hK
      exact retV_self hK
    simp only [T.ls9, bin_lss, guard_true]
    cases m with
    | nil =>
      have := drop_nil hm
      rw [if_neg (nod (by omega))]
      unfold J37_12
      simp only [lock_eq, cond_bool]
      rw [if_neg (by decide)]
      exact none rfl
    | cons c m =>
      obtain ⟨g1, g2, g3⟩ := drop_cons hm
      have eE : exp0 (c :: m) = if (c = 101 \/ c = 69) /\ digs0 (sign0 m).2 ≠ [] then (some (c == 69, (sign0 m).1, digs0 (sign0 m).2), (sign0 m).2.dropWhile isD) else (Option.none, c :: m) := rfl
      have e101 : c = 101 ↔ ((c.toNat : Nat) : Int) = 101 := by
        constructor
        · intro h; rw [h]; rfl
        · intro h; exact UInt8.toNat_inj.1 (by show _ = 101; omega)
      have e69 : c = 69 ↔ ((c.toNat : Nat) : Int) = 69 := by
        constructor
        · intro h; rw [h]; rfl
        · intro h; exact UInt8.toNat_inj.1 (by show _ = 69; omega)
      have yes : (c = 101 \/ c = 69) -> J37_12 env (st s) (i64 (at3 : Int)) (bo true) σ K X := by
        intro hc
        unfold J37_12
        simp only [lock_eq, cond_bool]
        have hml : m.length + at3 + 1 = s.length := by
          have := congrArg List.length hm
          rw [List.length_drop, List.length_cons] at this
          omega
        have hsl := congrArg List.length (sign0_text m)
        rw [List.length_append] at hsl
        have hrl : (digs0 (sign0 m).2).length <= (sign0 m).2.length := by
          rw [digs0_len]
          have := congrArg List.length (List.takeWhile_append_dropWhile (p := isD) (l := (sign0 m).2))
          rw [List.length_append] at this
          omega
        rw [if_pos trivial, bin_add, wrap64 (by omega) (by omega), show ((at3 : Int) + 1) = ((at3 + 1 : Nat) : Int) by omega, T.ss9 (by omega), g3, hS]
        refine ⟨m, rfl, ?_⟩
        dsimp only
        rw [bin_add, wrap64 (by omega) (by omega), bin_add, wrap64 (by omega) (by omega), show ((at3 : Int) + 1 + ((sgB (sign0 m).1).length : Nat)) = ((at3 + 1 + (sgB (sign0 m).1).length : Nat) : Int) by omega, T.ss9 (by omega), <- List.drop_drop, g3, dropS, hR]
        refine ⟨(sign0 m).2, rfl, by omega, ?_⟩
        dsimp only
        rw [bin_gtr, cond_bool]
        refine iteI (fun g4 => ?_) (fun g4 => ?_)
        · have g4 := of_decide_eq_true g4
          have hd : digs0 (sign0 m).2 ≠ [] := fun e => by rw [e] at g4; simp at g4
          rw [eE, if_pos ⟨hc, hd⟩] at hK
          rw [bin_add, wrap64 (by omega) (by omega), bin_add, wrap64 (by omega) (by omega), bin_add, wrap64 (by omega) (by omega)]
          have e : (expB (some (c == 69, (sign0 m).1, digs0 (sign0 m).2))).length = 1 + (sgB (sign0 m).1).length + (digs0 (sign0 m).2).length := by
            unfold expB; simp only [List.length_cons, List.length_append, List.length_map]; omega
          rw [e] at hK
          rw [show ((at3 : Int) + (1 + ((sgB (sign0 m).1).length : Nat) + ((digs0 (sign0 m).2).length : Nat))) = ((at3 + (1 + (sgB (sign0 m).1).length + (digs0 (sign0 m).2).length) : Nat) : Int) by omega]
          exact retV_self hK
        · have hd : digs0 (sign0 m).2 = [] := by
            apply Classical.byContradiction
            intro e
            have := List.length_pos_iff.2 e
            exact g4 (decide_eq_true (by omega))
          exact none (by rw [eE, if_neg (fun e => e.2 hd)])
      rw [if_pos (decide_eq_true (by omega)), T.is9 g1, g2, eq8, guard_false]
      refine iteI (fun g4 => ?_) (fun g4 => ?_)
      · exact yes (.inl (e101.2 (of_decide_eq_true g4)))
      · rw [T.is9 g1, g2, eq8]
        by_cases g5 : c = 69
        · rw [decide_eq_true (e69.1 g5)]
          exact yes (.inr g5)
        · rw [decide_eq_false (fun e => g5 (e69.2 e))]
          unfold J37_12
          simp only [lock_eq, cond_bool]
          rw [if_neg (by decide)]
          refine none (by rw [eE, if_neg]; rintro ⟨e | e, _⟩
                          · exact g4 (decide_eq_true (e101.1 e))
                          · exact g5 e)
  have hsl := congrArg List.length (sign0_text s)
  rw [List.length_append] at hsl
  have hrl : (digs0 (sign0 s).2).length <= (sign0 s).2.length := by
    rw [digs0_len]
    have := congrArg List.length (List.takeWhile_append_dropWhile (p := isD) (l := (sign0 s).2))
    rw [List.length_append] at this
    omega
  have hd2 : s.drop ((sgB (sign0 s).1).length + (digs0 (sign0 s).2).length) = (sign0 s).2.dropWhile isD := by rw [<- List.drop_drop, dropS, dropW]
  have hnum : (num0 s).1 = ⟨(sign0 s).1, digs0 (sign0 s).2, (point0 (digs0 (sign0 s).2) ((sign0 s).2.dropWhile isD)).1, (exp0 (point0 (digs0 (sign0 s).2) ((sign0 s).2.dropWhile isD)).2).1⟩ := rfl
  rw [<- S37_eq env, S37]
  simp only [lock_eq]
  rw [hS]
  refine ⟨s, rfl, ?_⟩
  dsimp only
  rw [T.ss9 (by omega), dropS, hR]
  refine ⟨(sign0 s).2, rfl, by omega, ?_⟩
  dsimp only
  rw [bin_add, wrap64 (by omega) (by omega), show (((sgB (sign0 s).1).length : Nat) : Int) + ((digs0 (sign0 s).2).length : Nat) = (((sgB (sign0 s).1).length + (digs0 (sign0 s).2).length : Nat) : Int) by omega]
  simp only [T.ls9, bin_lss, guard_true]
  generalize digs0 (sign0 s).2 = W at *
  cases hm : (sign0 s).2.dropWhile isD with
  | nil =>
    rw [hm] at hd2 hnum
    have := drop_nil hd2
    rw [if_neg (nod (by omega))]
    unfold J37_6
    simp only [lock_eq, cond_bool]
    rw [if_neg (by decide)]
    exact j9 _ W none [] 0 hd2 (by omega) hnum (by simp [dotB]) rfl (by omega) (by omega)
  | cons c m =>
    rw [hm] at hd2 hnum
    obtain ⟨g1, g2, g3⟩ := drop_cons hd2
    have eP : point0 W (c :: m) = if c = 46 /\ (W ≠ [] \/ digs0 m ≠ []) then (some (digs0 m), m.dropWhile isD) else (none, c :: m) := rfl
    have hml : (digs0 m).length + (m.dropWhile isD).length = m.length := by
      rw [digs0_len]
      have := congrArg List.length (List.takeWhile_append_dropWhile (p := isD) (l := m))
      rw [List.length_append] at this
      omega
    have hml2 : m.length + (((sgB (sign0 s).1).length + W.length) + 1) = s.length := by
      have := congrArg List.length hd2
      rw [List.length_drop, List.length_cons] at this
      omega
    rw [if_pos (decide_eq_true (by omega)), T.is9 g1, g2, eq8]
    unfold J37_6
    simp only [lock_eq, cond_bool]
    refine iteI (fun g => ?_) (fun g => ?_)
    · have g : c = 46 := UInt8.toNat_inj.1 (by have := of_decide_eq_true g; show _ = 46; omega)
      rw [bin_add, wrap64 (by omega) (by omega), show ((((sgB (sign0 s).1).length + W.length : Nat) : Int) + 1) = ((((sgB (sign0 s).1).length + W.length) + 1 : Nat) : Int) by omega, T.ss9 (by omega), g3, hR]
      refine ⟨m, rfl, by omega, ?_⟩
      dsimp only
      rw [bin_add, wrap64 (by omega) (by omega), bin_gtr, cond_bool]
      refine iteI (fun g4 => ?_) (fun g4 => ?_)
      · have g4 := of_decide_eq_true g4
        have hor : W ≠ [] \/ digs0 m ≠ [] := by
          apply Classical.byContradiction
          intro e
          rw [not_or, Classical.not_not, Classical.not_not] at e
          rw [e.1, e.2] at g4
          simp at g4
        rw [eP, if_pos ⟨g, hor⟩] at hnum
        rw [bin_add, wrap64 (by omega) (by omega), bin_add, wrap64 (by omega) (by omega), show ((((sgB (sign0 s).1).length + W.length : Nat) : Int) + (1 + ((digs0 m).length : Nat))) = (((sgB (sign0 s).1).length + W.length + (1 + (digs0 m).length) : Nat) : Int) by omega]
        refine j9 _ W (some (digs0 m)) (m.dropWhile isD) (digs0 m).length ?_ (by omega) hnum ?_ rfl (by omega) (by omega)
        · rw [show (sgB (sign0 s).1).length + W.length + (1 + (digs0 m).length) = (sgB (sign0 s).1).length + W.length + 1 + (digs0 m).length by omega, <- List.drop_drop, g3, dropW]
        · unfold dotB; simp only [List.length_cons, List.length_map]; omega
      · have g4 : ¬ ((W.length : Int) + ((digs0 m).length : Nat) > 0) := fun e => g4 (decide_eq_true e)
        have hW0 : W = [] := List.length_eq_zero_iff.1 (by omega)
        have hm0 : digs0 m = [] := List.length_eq_zero_iff.1 (by omega)
        rw [eP, if_neg (fun e => e.2.elim (fun h => h hW0) (fun h => h hm0))] at hnum
        rw [hm0]
        exact j9 _ W none (c :: m) 0 hd2 (by omega) hnum (by simp [dotB]) rfl (by omega) (by omega)
    · have g : ¬ c = 46 := fun e => g (decide_eq_true (by rw [e]; rfl))
      rw [eP, if_neg (fun e => g e.1)] at hnum
      exact j9 _ W none (c :: m) 0 hd2 (by omega) hnum (by simp [dotB]) rfl (by omega) (by omega)
def T_dPrefix : Tr := fun args σ K _ => ∃ s : Bytes, args = [st s] /\ s.length <= 800 /\ K (.tuple [f64 (prefV s), i64 ((prefN s : Nat) : Int)]) σ
theorem T_dPrefix_ok (hT : env 36 = T_tTrimLeft) (hN : env 37 = T_dNumeral) (hP : env 38 = T_sParse) (h : T_dPrefix args σ K X) : bodyD PS env an26 Tryz.f26 args σ K X := by
  obtain ⟨s, rfl, hs, hK⟩ := h
  have hl := trimL_len s
  have hnl := num0_len (trimL s)
  rw [<- S26_eq env, S26]
  simp only [lock_eq]
  rw [hT]
  refine ⟨s, rfl, by omega, ?_⟩
  dsimp only
  rw [hN]
  refine ⟨trimL s, rfl, by omega, ?_⟩
  dsimp only
  rw [eq8, cond_bool]
  unfold prefV prefN at hK
  by_cases hh : hasN (trimL s) = true
  · have hok := num0_ok hh
    rw [if_pos hh, if_pos hh] at hK
    have htx : (trimL s).take (num0 (trimL s)).1.text.length = (num0 (trimL s)).1.text := take_pre (num0_text (trimL s))
    have hpos : 0 < (num0 (trimL s)).1.text.length := by
      obtain ⟨c, r, hb, _, _⟩ := num_head hok
      unfold Num.text
      rw [hb, List.length_append, List.length_cons]; omega
    rw [if_pos hh, if_neg (nod (by omega)), T.st9 (by omega), htx, hP]
    refine ⟨_, rfl, hok, by omega, fun v => ?_⟩
    simp only [ext0, ext1, T.ls9]
    rw [bin_sub, wrap64 (by omega) (by omega), bin_add, wrap64 (by omega) (by omega), show ((s.length : Int) - ((trimL s).length : Int) + ((num0 (trimL s)).1.text.length : Nat)) = ((s.length - (num0 (trimL s)).2.length : Nat) : Int) by omega]
    exact retV_self hK
  · rw [if_neg hh, if_neg hh] at hK
    rw [if_neg hh, if_pos (by decide)]
    exact retV_self hK
def T_dLooks : Tr := fun args σ K _ => ∃ s : Bytes, args = [st s] /\ s.length <= 800 /\ K (bo (looksB s)) σ
theorem T_dLooks_ok (hP : env 26 = T_dPrefix) (hT : env 48 = T_tTrim) (h : T_dLooks args σ K X) : bodyD PS env an33 Tryz.f33 args σ K X := by
  obtain ⟨s, rfl, hs, hK⟩ := h
  have hle := prefN_le s
  unfold looksB at hK
  rw [<- S33_eq env, S33]
  simp only [lock_eq]
  rw [hP]
  refine ⟨s, rfl, hs, ?_⟩
  simp only [ext0, ext1, bin_gtr, guard_true]
  refine iteI (fun g => ?_) (fun g => ?_)
  · have g := of_decide_eq_true g
    rw [decide_eq_true (show 0 < prefN s by omega), Bool.true_and] at hK
    rw [T.ss9 hle, hT]
    refine ⟨_, rfl, by rw [List.length_drop]; omega, ?_⟩
    dsimp only
    rw [bin_seql]
    have e : (trimL (trimR (s.drop (prefN s))) == []) = (s.drop (prefN s)).all blankB := by
      rw [Bool.eq_iff_iff, beq_iff_eq, trim_nil]
    rw [e]
    exact retV_self hK
  · have g : ¬ (((prefN s : Nat) : Int) > 0) := fun e => g (decide_eq_true e)
    rw [decide_eq_false (show ¬ 0 < prefN s by omega), Bool.false_and] at hK
    exact retV_self hK
end
end Go.AD.Fl

set_option linter.unusedVariables false
set_option maxRecDepth 100000
namespace Go.AD
open Go.Proofs.Tryz
def an9:An:={ mu:=[],cut:=[],loop:=[] }
def S9 (env:Env) (v0_a:AV) (σ:AS) (K:AV->AS->Prop) (X:PV->AS->Prop):Prop :=
 (lock boxD σ v0_a fun t1 σ1 =>
 (lock fieldAddrD prog 24 t1 0 fun t5 =>
 (lock loadD prog σ1 9 t5 fun t6 =>
 (lock binD prog .eql 9 t6 (.pv (.str [110,117,109])) fun t8 =>
 (condD t8
 (lock fieldAddrD prog 24 t1 1 fun t9 =>
 (lock loadD prog σ1 22 t9 fun t10 =>
 (lock ifaceD prog 56 t10 fun t11 =>
 (retV (t11) σ1 K))))
 (lock binD prog .eql 9 t6 (.pv (.str [115,116,114])) fun t13 =>
 (condD t13
 (lock fieldAddrD prog 24 t1 2 fun t14 =>
 (lock loadD prog σ1 9 t14 fun t15 =>
 (lock ifaceD prog 57 t15 fun t16 =>
 (retV (t16) σ1 K))))
 (lock binD prog .eql 9 t6 (.pv (.str [98,111,116,104])) fun t18 =>
 (condD t18
 (lock fieldAddrD prog 24 t1 2 fun t20 =>
 (lock loadD prog σ1 9 t20 fun t21 =>
 (env 26 [t21] σ1 (fun t22 σ2 =>
 (lock extractD t22 0 fun t23 =>
 (lock extractD t22 1 fun t24 =>
 (lock fieldAddrD prog 24 t1 2 fun t26 =>
 (lock loadD prog σ2 9 t26 fun t27 =>
 (lock buildD prog 61 [(0,t23),(1,t27)] fun t28 =>
 (lock ifaceD prog 61 t28 fun t29 =>
 (retV (t29) σ2 K)))))))) (panV X))))
 (lock buildD prog 63 [] fun t30 =>
 (lock ifaceD prog 63 t30 fun t31 =>
 (retV (t31) σ1 K))))))))))))
theorem S9_eq (env:Env) (v0_a:AV) (σ:AS) (K:AV->AS->Prop) (X:PV->AS->Prop):S9 env v0_a σ K X=bodyD prog env an9 f9 [v0_a] σ K X:=by
  unfold S9
  kernel_rfl
theorem S9_ok:(match f9.body with | some c=>okCode an9 prog f9.ntmps c | none=>false)=true:=by kernel_rfl
def an10:An:={ mu:=[],cut:=[],loop:=[] }
def S10 (env:Env) (v0_a:AV) (σ:AS) (K:AV->AS->Prop) (X:PV->AS->Prop):Prop :=
 (lock allocD prog σ 24 fun t2 σ1 =>
 (lock nilB prog .eql 30 v0_a fun t4 =>
 (condD t4
 (lock buildD prog 63 [] fun t5 =>
 (lock ifaceD prog 63 t5 fun t6 =>
 (invokeD prog env t6 "tedder/value.plain" [] σ1 (fun t8 σ2 =>
 (lock storeD prog σ2 24 t2 t8 fun σ3 =>
 (lock loadD prog σ3 24 t2 fun r0 =>
 (retV (r0) σ3 K)))) (panV X))))
 (invokeD prog env v0_a "tedder/value.plain" [] σ1 (fun t8 σ4 =>
 (lock storeD prog σ4 24 t2 t8 fun σ5 =>
 (lock loadD prog σ5 24 t2 fun r0 =>
 (retV (r0) σ5 K)))) (panV X)))))
theorem S10_eq (env:Env) (v0_a:AV) (σ:AS) (K:AV->AS->Prop) (X:PV->AS->Prop):S10 env v0_a σ K X=bodyD prog env an10 f10 [v0_a] σ K X:=by
  unfold S10
  kernel_rfl
theorem S10_ok:(match f10.body with | some c=>okCode an10 prog f10.ntmps c | none=>false)=true:=by kernel_rfl
def an236:An:={ mu:=[],cut:=[],loop:=[] }
def S236 (env:Env) (x0_a:AV) (σ:AS) (K:AV->AS->Prop) (X:PV->AS->Prop):Prop :=
 (lock allocD prog σ 24 fun t2 σ1 =>
 (lock buildD prog 24 [(0,(.pv (.str [110,117,109]))),(1,x0_a)] fun t4 =>
 (lock storeD prog σ1 24 t2 t4 fun σ2 =>
 (lock loadD prog σ2 24 t2 fun r0 =>
 (retV (r0) σ2 K)))))
theorem S236_eq (env:Env) (x0_a:AV) (σ:AS) (K:AV->AS->Prop) (X:PV->AS->Prop):S236 env x0_a σ K X=bodyD prog env an236 f236 [x0_a] σ K X:=by
  unfold S236
  kernel_rfl
theorem S236_ok:(match f236.body with | some c=>okCode an236 prog f236.ntmps c | none=>false)=true:=by kernel_rfl
def an237:An:={ mu:=[],cut:=[],loop:=[] }
def S237 (env:Env) (s0_a:AV) (σ:AS) (K:AV->AS->Prop) (X:PV->AS->Prop):Prop :=
 (lock allocD prog σ 24 fun t2 σ1 =>
 (lock buildD prog 24 [(0,(.pv (.str [115,116,114]))),(2,s0_a)] fun t4 =>
 (lock storeD prog σ1 24 t2 t4 fun σ2 =>
 (lock loadD prog σ2 24 t2 fun r0 =>
 (retV (r0) σ2 K)))))
theorem S237_eq (env:Env) (s0_a:AV) (σ:AS) (K:AV->AS->Prop) (X:PV->AS->Prop):S237 env s0_a σ K X=bodyD prog env an237 f237 [s0_a] σ K X:=by
  unfold S237
  kernel_rfl
theorem S237_ok:(match f237.body with | some c=>okCode an237 prog f237.ntmps c | none=>false)=true:=by kernel_rfl
def an238:An:={ mu:=[],cut:=[],loop:=[] }
def S238 (env:Env) (b0_a:AV) (σ:AS) (K:AV->AS->Prop) (X:PV->AS->Prop):Prop :=
 (lock boxD σ b0_a fun t1 σ1 =>
 (lock allocD prog σ1 24 fun t2 σ2 =>
 (lock fieldAddrD prog 61 t1 0 fun t3 =>
 (lock loadD prog σ2 22 t3 fun t4 =>
 (lock fieldAddrD prog 61 t1 1 fun t5 =>
 (lock loadD prog σ2 9 t5 fun t6 =>
 (lock buildD prog 24 [(0,(.pv (.str [98,111,116,104]))),(1,t4),(2,t6)] fun t7 =>
 (lock storeD prog σ2 24 t2 t7 fun σ3 =>
 (lock loadD prog σ3 24 t2 fun r0 =>
 (retV (r0) σ3 K))))))))))
theorem S238_eq (env:Env) (b0_a:AV) (σ:AS) (K:AV->AS->Prop) (X:PV->AS->Prop):S238 env b0_a σ K X=bodyD prog env an238 f238 [b0_a] σ K X:=by
  unfold S238
  kernel_rfl
theorem S238_ok:(match f238.body with | some c=>okCode an238 prog f238.ntmps c | none=>false)=true:=by kernel_rfl
def an239:An:={ mu:=[],cut:=[],loop:=[] }
def S239 (env:Env) (t0_a:AV) (σ:AS) (K:AV->AS->Prop) (X:PV->AS->Prop):Prop :=
 (lock boxD σ t0_a fun t1 σ1 =>
 (lock allocD prog σ1 24 fun t2 σ2 =>
 (lock buildD prog 24 [(0,(.pv (.str [110,111,110,101])))] fun t3 =>
 (lock storeD prog σ2 24 t2 t3 fun σ3 =>
 (lock loadD prog σ3 24 t2 fun r0 =>
 (retV (r0) σ3 K))))))
theorem S239_eq (env:Env) (t0_a:AV) (σ:AS) (K:AV->AS->Prop) (X:PV->AS->Prop):S239 env t0_a σ K X=bodyD prog env an239 f239 [t0_a] σ K X:=by
  unfold S239
  kernel_rfl
theorem S239_ok:(match f239.body with | some c=>okCode an239 prog f239.ntmps c | none=>false)=true:=by kernel_rfl
def an22:An:={ mu:=[],cut:=[],loop:=[] }
def S22 (env:Env) (s0_a:AV) (σ:AS) (K:AV->AS->Prop) (X:PV->AS->Prop):Prop :=
 (env 33 [s0_a] σ (fun t6 σ1 =>
 (condD t6
 (env 26 [s0_a] σ1 (fun t9 σ2 =>
 (lock extractD t9 0 fun t10 =>
 (lock extractD t9 1 fun t11 =>
 (lock buildD prog 61 [(0,t10),(1,s0_a)] fun t14 =>
 (lock ifaceD prog 61 t14 fun t15 =>
 (retV (t15) σ2 K)))))) (panV X))
 (lock ifaceD prog 57 s0_a fun t17 =>
 (retV (t17) σ1 K)))) (panV X))
theorem S22_eq (env:Env) (s0_a:AV) (σ:AS) (K:AV->AS->Prop) (X:PV->AS->Prop):S22 env s0_a σ K X=bodyD prog env an22 f22 [s0_a] σ K X:=by
  unfold S22
  kernel_rfl
theorem S22_ok:(match f22.body with | some c=>okCode an22 prog f22.ntmps c | none=>false)=true:=by kernel_rfl
def an18:An:={ mu:=[],cut:=[],loop:=[] }
def S18 (env:Env) (v0_a:AV) (σ:AS) (K:AV->AS->Prop) (X:PV->AS->Prop):Prop :=
 (lock assertD prog v0_a 56 fun t9 =>
 (lock extractD t9 1 fun t10 =>
 (lock extractD t9 0 fun t11 =>
 (condD t10
 (retV (t11) σ K)
 (lock assertD prog v0_a 61 fun t13 =>
 (lock extractD t13 1 fun t14 =>
 (lock extractD t13 0 fun t15 =>
 (condD t14
 (lock allocD prog σ 61 fun t4 σ1 =>
 (lock storeD prog σ1 61 t4 t15 fun σ2 =>
 (lock fieldAddrD prog 61 t4 0 fun t16 =>
 (lock loadD prog σ2 22 t16 fun t17 =>
 (retV (t17) σ2 K)))))
 (lock assertD prog v0_a 57 fun t18 =>
 (lock extractD t18 1 fun t19 =>
 (lock extractD t18 0 fun t20 =>
 (condD t19
 (env 26 [t20] σ (fun t23 σ3 =>
 (lock extractD t23 0 fun t24 =>
 (lock extractD t23 1 fun t25 =>
 (retV (t24) σ3 K)))) (panV X))
 (retV ((.pv (.float .f64 0))) σ K)))))))))))))
theorem S18_eq (env:Env) (v0_a:AV) (σ:AS) (K:AV->AS->Prop) (X:PV->AS->Prop):S18 env v0_a σ K X=bodyD prog env an18 f18 [v0_a] σ K X:=by
  unfold S18
  kernel_rfl
theorem S18_ok:(match f18.body with | some c=>okCode an18 prog f18.ntmps c | none=>false)=true:=by kernel_rfl
def an27:An:={ mu:=[],cut:=[],loop:=[] }
def S27 (env:Env) (v0_a conv1_a:AV) (σ:AS) (K:AV->AS->Prop) (X:PV->AS->Prop):Prop :=
 (lock assertD prog v0_a 57 fun t14 =>
 (lock extractD t14 1 fun t15 =>
 (lock extractD t14 0 fun t16 =>
 (condD t15
 (retV (.tuple [t16,(.pv (.bool true))]) σ K)
 (lock assertD prog v0_a 61 fun t18 =>
 (lock extractD t18 1 fun t19 =>
 (lock extractD t18 0 fun t20 =>
 (condD t19
 (lock allocD prog σ 61 fun t7 σ1 =>
 (lock storeD prog σ1 61 t7 t20 fun σ2 =>
 (lock fieldAddrD prog 61 t7 1 fun t21 =>
 (lock loadD prog σ2 9 t21 fun t22 =>
 (retV (.tuple [t22,(.pv (.bool true))]) σ2 K)))))
 (lock assertD prog v0_a 56 fun t23 =>
 (lock extractD t23 1 fun t24 =>
 (lock extractD t23 0 fun t25 =>
 (condD t24
 (env 39 [t25] σ (fun t28 σ3 =>
 (lock extractD t28 0 fun t29 =>
 (lock extractD t28 1 fun t30 =>
 (condD t30
 (retV (.tuple [t29,(.pv (.bool true))]) σ3 K)
 (env 40 [conv1_a] σ3 (fun t35 σ4 =>
 (lock extractD t35 0 fun t36 =>
 (lock extractD t35 1 fun t37 =>
 (lock allocD prog σ4 80 fun t11 σ5 =>
 (lock storeD prog σ5 80 t11 t36 fun σ6 =>
 (unD .not t37 fun t39 =>
 (condD t39
 (retV (.tuple [(.pv (.str [])),(.pv (.bool false))]) σ6 K)
 (lock loadD prog σ6 80 t11 fun t40 =>
 (env 41 [t40,t25] σ6 (fun t42 σ7 =>
 (retV (.tuple [t42,(.pv (.bool true))]) σ7 K)) (panV X)))))))))) (panV X)))))) (panV X))
 (retV (.tuple [(.pv (.str [])),(.pv (.bool true))]) σ K)))))))))))))
theorem S27_eq (env:Env) (v0_a conv1_a:AV) (σ:AS) (K:AV->AS->Prop) (X:PV->AS->Prop):S27 env v0_a conv1_a σ K X=bodyD prog env an27 f27 [v0_a,conv1_a] σ K X:=by
  unfold S27
  kernel_rfl
theorem S27_ok:(match f27.body with | some c=>okCode an27 prog f27.ntmps c | none=>false)=true:=by kernel_rfl
def an28:An:={ mu:=[],cut:=[],loop:=[] }
def S28 (env:Env) (x0_a y1_a:AV) (σ:AS) (K:AV->AS->Prop) (X:PV->AS->Prop):Prop :=
 (env 42 [x0_a] σ (fun t8 σ1 =>
 (env 42 [y1_a] σ1 (fun t10 σ2 =>
 (condD t8
 (condD t10
 (retV ((.pv (.int .i64 0))) σ2 K)
 (retV ((.pv (.int .i64 (-1)))) σ2 K))
 (condD t10
 (retV ((.pv (.int .i64 1))) σ2 K)
 (lock binD prog .lss 9 x0_a y1_a fun t16 =>
 (condD t16
 (retV ((.pv (.int .i64 (-1)))) σ2 K)
 (lock binD prog .gtr 9 x0_a y1_a fun t19 =>
 (condD t19
 (retV ((.pv (.int .i64 1))) σ2 K)
 (retV ((.pv (.int .i64 0))) σ2 K)))))))) (panV X))) (panV X))
theorem S28_eq (env:Env) (x0_a y1_a:AV) (σ:AS) (K:AV->AS->Prop) (X:PV->AS->Prop):S28 env x0_a y1_a σ K X=bodyD prog env an28 f28 [x0_a,y1_a] σ K X:=by
  unfold S28
  kernel_rfl
theorem S28_ok:(match f28.body with | some c=>okCode an28 prog f28.ntmps c | none=>false)=true:=by kernel_rfl
def an42:An:={ mu:=[],cut:=[],loop:=[] }
def S42 (env:Env) (x0_a:AV) (σ:AS) (K:AV->AS->Prop) (X:PV->AS->Prop):Prop :=
 (lock binD prog .neq 9 x0_a x0_a fun t5 =>
 (retV (t5) σ K))
theorem S42_eq (env:Env) (x0_a:AV) (σ:AS) (K:AV->AS->Prop) (X:PV->AS->Prop):S42 env x0_a σ K X=bodyD prog env an42 f42 [x0_a] σ K X:=by
  unfold S42
  kernel_rfl
theorem S42_ok:(match f42.body with | some c=>okCode an42 prog f42.ntmps c | none=>false)=true:=by kernel_rfl
def an11:An:={ mu:=[],cut:=[(4,[0,1,2,33]),(14,[14,16])],loop:=[] }
def J11_14 (env:Env)  (s14_j14 t16_j14:AV) (σ:AS) (K:AV->AS->Prop) (X:PV->AS->Prop):Prop :=
 (env 28 [s14_j14,t16_j14] σ (fun t66 σ5 =>
 (retV (.tuple [t66,(.pv (.bool true))]) σ5 K)) (panV X))
theorem J11_14_eq (env:Env)  (s14_j14 t16_j14:AV) (σ:AS) (K:AV->AS->Prop) (X:PV->AS->Prop):J11_14 env  s14_j14 t16_j14 σ K X=cutK (fun fr σ=>wpD prog env an11 (subC (bodyC f11) [1,1,1,1,1,1,1]) (contQ prog env an11 (bodyC f11) [1,1,1,1,1,1,1] [] (rootQ prog f11 K X)) fr σ) [(14,s14_j14),(16,t16_j14)] σ:=by
  unfold J11_14
  refine cutK_of ?_
  kernel_rfl
def J11_4 (env:Env)  (a0_j4 b1_j4 conv2_j4 t33_j4:AV) (σ:AS) (K:AV->AS->Prop) (X:PV->AS->Prop):Prop :=
 (condD t33_j4
 (env 18 [a0_j4] σ (fun t35 σ1 =>
 (env 18 [b1_j4] σ1 (fun t37 σ2 =>
 (lock binD prog .lss 22 t35 t37 fun t41 =>
 (condD t41
 (retV (.tuple [(.pv (.int .i64 (-1))),(.pv (.bool true))]) σ2 K)
 (lock binD prog .gtr 22 t35 t37 fun t45 =>
 (condD t45
 (retV (.tuple [(.pv (.int .i64 1)),(.pv (.bool true))]) σ2 K)
 (retV (.tuple [(.pv (.int .i64 0)),(.pv (.bool true))]) σ2 K)))))) (panV X))) (panV X))
 (env 27 [a0_j4,conv2_j4] σ (fun t49 σ3 =>
 (lock extractD t49 0 fun t50 =>
 (lock extractD t49 1 fun t51 =>
 (env 27 [b1_j4,conv2_j4] σ3 (fun t55 σ4 =>
 (lock extractD t55 0 fun t56 =>
 (lock extractD t55 1 fun t57 =>
 (unD .not t51 fun t59 =>
 (guardD t59 false
 (unD .not t57 fun t62 =>
 (condD t62
 (retV (.tuple [(.pv (.int .i64 0)),(.pv (.bool false))]) σ4 K)
 (J11_14 env  (t50) (t56) σ4 K X)))
 (retV (.tuple [(.pv (.int .i64 0)),(.pv (.bool false))]) σ4 K)))))) (panV X))))) (panV X)))
theorem J11_4_eq (env:Env)  (a0_j4 b1_j4 conv2_j4 t33_j4:AV) (σ:AS) (K:AV->AS->Prop) (X:PV->AS->Prop):J11_4 env  a0_j4 b1_j4 conv2_j4 t33_j4 σ K X=cutK (fun fr σ=>wpD prog env an11 (subC (bodyC f11) [1,1,1,0,1]) (contQ prog env an11 (bodyC f11) [1,1,1,0,1] [] (rootQ prog f11 K X)) fr σ) [(0,a0_j4),(1,b1_j4),(2,conv2_j4),(33,t33_j4)] σ:=by
  unfold J11_4
  simp only [J11_14_eq]
  refine cutK_of ?_
  kernel_rfl
def S11 (env:Env) (a0_a b1_a conv2_a:AV) (σ:AS) (K:AV->AS->Prop) (X:PV->AS->Prop):Prop :=
 (lock assertD prog a0_a 57 fun t20 =>
 (lock extractD t20 0 fun t21 =>
 (lock extractD t20 1 fun t22 =>
 (lock assertD prog b1_a 57 fun t25 =>
 (lock extractD t25 0 fun t26 =>
 (lock extractD t25 1 fun t27 =>
 (unD .not t22 fun t29 =>
 (guardD t29 true
 (unD .not t27 fun t32 =>
 (J11_4 env  (a0_a) (b1_a) (conv2_a) (t32) σ K X))
 (J11_4 env  (a0_a) (b1_a) (conv2_a) (.pv (.bool false)) σ K X)))))))))
theorem S11_eq (env:Env) (a0_a b1_a conv2_a:AV) (σ:AS) (K:AV->AS->Prop) (X:PV->AS->Prop):S11 env a0_a b1_a conv2_a σ K X=bodyD prog env an11 f11 [a0_a,b1_a,conv2_a] σ K X:=by
  unfold S11
  simp only [J11_4_eq]
  kernel_rfl
theorem S11_ok:(match f11.body with | some c=>okCode an11 prog f11.ntmps c | none=>false)=true:=by kernel_rfl
end Go.AD

set_option linter.unusedVariables false
set_option linter.unusedSimpArgs false
set_option maxRecDepth 100000
namespace Go.AD.Fl
open Go.Proofs RowKit Go.AD.Fp
abbrev kNum : Bytes := [110, 117, 109]
abbrev kStr : Bytes := [115, 116, 114]
abbrev kBoth : Bytes := [98, 111, 116, 104]
abbrev kNone : Bytes := [110, 111, 110, 101]
inductive VV where
  | none
  | num (b : Nat)
  | str (s : Bytes)
  | both (b : Nat) (s : Bytes)
def vAV : VV -> AV
  | .none => .pv (.iface 63 true [])
  | .num b => .pv (.iface 56 false [.float .f64 b])
  | .str s => .pv (.iface 57 false [.str s])
  | .both b s => .pv (.iface 61 true [.float .f64 b, .str s])
def pC (k : Bytes) (b : Nat) (s : Bytes) : List AV := [st k, f64 b, st s]
def plAV (k : Bytes) (b : Nat) (s : Bytes) : AV := .agg (pC k b s)
def kindV : VV -> Bytes
  | .none => kNone
  | .num _ => kNum
  | .str _ => kStr
  | .both _ _ => kBoth
def bitsV : VV -> Nat
  | .num b => b
  | .both b _ => b
  | _ => 0
def strV : VV -> Bytes
  | .str s => s
  | .both _ s => s
  | _ => []
def plainAV (v : VV) : AV := plAV (kindV v) (bitsV v) (strV v)
def ofV (k : Bytes) (b : Nat) (s : Bytes) : VV := if k = kNum then .num b else if k = kStr then .str s else if k = kBoth then .both (prefV s) s else .none
def numV : VV -> Nat
  | .num b => b
  | .both b _ => b
  | .str s => prefV s
  | .none => 0
def isStr : VV -> Bool
  | .str _ => true
  | _ => false
def isNum : VV -> Bool
  | .num _ => true
  | _ => false
def outV (s : Bytes) : VV := if looksB s = true then .both (prefV s) s else .str s
section
variable {env : Env} {args : List AV} {σ0 σ τ : AS} {K : AV -> AS -> Prop} {X : PV -> AS -> Prop}
theorem ifNum {b : Nat} {Q : AV -> Prop} : ifaceD PS 56 (f64 b) Q = Q (vAV (.num b)) := by
  have h : PS.underlying 56 = some (.float .f64) := by kernel_rfl
  simp [ifaceD, h, toPV, vAV]
theorem ifStr {s : Bytes} {Q : AV -> Prop} : ifaceD PS 57 (st s) Q = Q (vAV (.str s)) := by
  have h : PS.underlying 57 = some .string := by kernel_rfl
  simp [ifaceD, h, toPV, vAV]
theorem isSt {t : TypeId} (h : (match PS.underlying t with | some (.struct _) => true | _ => false) = true) : ∃ fs, PS.underlying t = some (.struct fs) := by
  cases e : PS.underlying t with
  | none => rw [e] at h; cases h
  | some d => rw [e] at h; cases d <;> first | exact ⟨_, rfl⟩ | cases h
theorem ifBoth {b : Nat} {s : Bytes} {Q : AV -> Prop} : ifaceD PS 61 (.agg [f64 b, st s]) Q = Q (vAV (.both b s)) := by
  obtain ⟨fs, h⟩ := isSt (t := 61) (by kernel_rfl)
  simp [ifaceD, h, toPVs, toPV, vAV]
theorem ifNone {Q : AV -> Prop} : ifaceD PS 63 (.agg []) Q = Q (vAV .none) := by
  obtain ⟨fs, h⟩ := isSt (t := 63) (by kernel_rfl)
  simp [ifaceD, h, toPVs, vAV]
theorem bdNone {Q : AV -> Prop} : buildD PS 63 [] Q = Q (.agg []) := by
  simp [buildD, buildFill, go_sem, AV.cells, AV.cellOk, setAll]
theorem bdBoth {b : Nat} {s : Bytes} {Q : AV -> Prop} : buildD PS 61 [(0, f64 b), (1, st s)] Q = Q (.agg [f64 b, st s]) := by
  simp [buildD, buildFill, go_sem, AV.cells, AV.cellOk, setAll]
theorem bdV01 {k : Bytes} {b : Nat} {Q : AV -> Prop} : buildD PS 24 [(0, st k), (1, f64 b)] Q = Q (plAV k b []) := by
  simp [buildD, buildFill, go_sem, AV.cells, AV.cellOk, setAll, plAV, pC]
theorem bdV02 {k s : Bytes} {Q : AV -> Prop} : buildD PS 24 [(0, st k), (2, st s)] Q = Q (plAV k 0 s) := by
  simp [buildD, buildFill, go_sem, AV.cells, AV.cellOk, setAll, plAV, pC]
theorem bdV0 {k : Bytes} {Q : AV -> Prop} : buildD PS 24 [(0, st k)] Q = Q (plAV k 0 []) := by
  simp [buildD, buildFill, go_sem, AV.cells, AV.cellOk, setAll, plAV, pC]
theorem bdV012 {k s : Bytes} {b : Nat} {Q : AV -> Prop} : buildD PS 24 [(0, st k), (1, f64 b), (2, st s)] Q = Q (plAV k b s) := by
  simp [buildD, buildFill, go_sem, AV.cells, AV.cellOk, setAll, plAV, pC]
theorem zeroVal : zeroOf PS 24 = some (pC [] 0 []) := by kernel_rfl
theorem zeroBoth : zeroOf PS 61 = some [f64 0, st []] := by kernel_rfl
theorem stVal {a : Nat} {k k' s s' : Bytes} {b b' : Nat} {mk : Option TypeId} {Q : AS -> Prop} (hg : σ a = some (.cells (pC k b s) mk)) : storeD PS σ 24 (.addr a 0) (plAV k' b' s') Q = Q (σ.set a (.cells (pC k' b' s') mk)) := by
  rw [store_addr (v := plAV k' b' s') T.hT24 (by rw [T.sz24]; rfl) rfl hg]
  exact propext ⟨fun h => h.2, fun h => ⟨(Nat.le_refl 3 : 0 + 3 <= 3), h⟩⟩
theorem ldVal {a : Nat} {k s : Bytes} {b : Nat} {mk : Option TypeId} {Q : AV -> Prop} (hg : σ a = some (.cells (pC k b s) mk)) : loadD PS σ 24 (.addr a 0) Q = Q (plAV k b s) := by
  rw [load_addrA T.hT24 T.ag24 hg, T.sz24]
  exact propext ⟨fun h => h.2, fun h => ⟨(Nat.le_refl 3 : 0 + 3 <= 3), h⟩⟩
theorem ldVk {a : Nat} {k s : Bytes} {b : Nat} {mk : Option TypeId} {Q : AV -> Prop} (hg : σ a = some (.cells (pC k b s) mk)) : loadD PS σ 9 (.addr a 0) Q = Q (st k) := by rw [T.ld9, hg, ldM_cells]; simp [pC]
theorem ldVn {a : Nat} {k s : Bytes} {b : Nat} {mk : Option TypeId} {Q : AV -> Prop} (hg : σ a = some (.cells (pC k b s) mk)) : loadD PS σ 22 (.addr a 1) Q = Q (f64 b) := by rw [T.ld22, hg, ldM_cells]; simp [pC]
theorem ldVs {a : Nat} {k s : Bytes} {b : Nat} {mk : Option TypeId} {Q : AV -> Prop} (hg : σ a = some (.cells (pC k b s) mk)) : loadD PS σ 9 (.addr a 2) Q = Q (st s) := by rw [T.ld9, hg, ldM_cells]; simp [pC]
theorem bqs {x y : Bytes} {t : TypeId} {Q : AV -> Prop} : binD PS .eql t (st x) (st y) Q = Q (bo (decide (x = y))) := by
  rw [bin_seql]; congr 3; rw [Bool.eq_iff_iff, beq_iff_eq, decide_eq_true_eq]
def T_vOf : Tr := fun args σ K _ => ∃ (k : Bytes) (b : Nat) (s : Bytes), args = [plAV k b s] /\ s.length <= 800 /\ K (vAV (ofV k b s)) σ
theorem T_vOf_ok (hP : env 26 = T_dPrefix) (h : T_vOf args σ K X) : bodyD PS env an9 Tryz.f9 args σ K X := by
  obtain ⟨k, b, s, rfl, hs, hK⟩ := h
  unfold ofV at hK
  rw [<- S9_eq env, S9]
  simp only [lock_eq]
  refine ⟨rfl, fun a ha => ?_⟩
  have hg : (σ.set a (.cells (plAV k b s).cells none)) a = some (.cells (pC k b s) none) := set_same _ _ _
  have hsub := sub_set (AObj.cells (plAV k b s).cells none) ha
  simp only [T.fa24_0, T.fa24_1, T.fa24_2, Nat.zero_add, ldVk hg, ldVn hg, ldVs hg, bqs, cond_bool, ifNum, ifStr]
  refine iteI (fun g => ?_) (fun g => ?_)
  · rw [if_pos (of_decide_eq_true g)] at hK
    exact retV_sub hsub hK
  rw [if_neg (fun e => g (decide_eq_true e))] at hK
  refine iteI (fun g2 => ?_) (fun g2 => ?_)
  · rw [if_pos (of_decide_eq_true g2)] at hK
    exact retV_sub hsub hK
  rw [if_neg (fun e => g2 (decide_eq_true e))] at hK
  refine iteI (fun g3 => ?_) (fun g3 => ?_)
  · rw [if_pos (of_decide_eq_true g3)] at hK
    rw [hP]
    refine ⟨s, rfl, hs, ?_⟩
    simp only [ext0, ext1, T.fa24_2, Nat.zero_add, ldVs hg, bdBoth, ifBoth]
    exact retV_sub hsub hK
  · rw [if_neg (fun e => g3 (decide_eq_true e))] at hK
    rw [bdNone, ifNone]
    exact retV_sub hsub hK
theorem plain_end {a : Nat} {v : AV} {k : Bytes} {b : Nat} {s : Bytes} {τ : AS} (ha : τ a = some (.cells (pC [] 0 []) (some 24))) (hv : v = plAV k b s) (hsub : σ.sub τ) (hn : σ a = none) (hK : K (plAV k b s) σ) :
    storeD PS τ 24 (.addr a 0) v fun σ2 => loadD PS σ2 24 (.addr a 0) fun r0 => retV r0 σ2 K := by
  subst hv
  rw [stVal ha, ldVal (set_same _ _ _)]
  refine retV_sub ?_ hK
  intro i o hi
  rw [set_ne _ _ (fun e => by rw [e, hn] at hi; cases hi)]
  exact hsub i o hi
def T_pNum : Tr := fun args σ K _ => ∃ b : Nat, args = [f64 b] /\ K (plAV kNum b []) σ
theorem T_pNum_ok (h : T_pNum args σ K X) : bodyD PS env an236 Tryz.f236 args σ K X := by
  obtain ⟨b, rfl, hK⟩ := h
  rw [<- S236_eq env, S236]
  simp only [lock_eq]
  refine alloc_of zeroVal rfl fun a ha => ?_
  rw [bdV01]
  exact plain_end (set_same _ _ _) rfl (sub_set _ ha) ha hK
def T_pStr : Tr := fun args σ K _ => ∃ s : Bytes, args = [st s] /\ K (plAV kStr 0 s) σ
theorem T_pStr_ok (h : T_pStr args σ K X) : bodyD PS env an237 Tryz.f237 args σ K X := by
  obtain ⟨s, rfl, hK⟩ := h
  rw [<- S237_eq env, S237]
  simp only [lock_eq]
  refine alloc_of zeroVal rfl fun a ha => ?_
  rw [bdV02]
  exact plain_end (set_same _ _ _) rfl (sub_set _ ha) ha hK
def T_pBoth : Tr := fun args σ K _ => ∃ (b : Nat) (s : Bytes), args = [.agg [f64 b, st s]] /\ K (plAV kBoth b s) σ
theorem T_pBoth_ok (h : T_pBoth args σ K X) : bodyD PS env an238 Tryz.f238 args σ K X := by
  obtain ⟨b, s, rfl, hK⟩ := h
  rw [<- S238_eq env, S238]
  simp only [lock_eq]
  refine ⟨rfl, fun t ht => ?_⟩
  refine alloc_of zeroVal rfl fun a ha => ?_
  have hat : a ≠ t := by
    intro e; rw [e, set_same] at ha; cases ha
  have hg : ((σ.set t (.cells (AV.agg [f64 b, st s]).cells none)).set a (.cells (pC [] 0 []) (some 24))) t = some (.cells [f64 b, st s] none) := by rw [set_ne _ _ (Ne.symm hat), set_same]; rfl
  simp only [T.fa61_0, T.fa61_1, Nat.zero_add, T.ld22, T.ld9, hg, ldM_cells, List.getElem?_cons_zero, List.getElem?_cons_succ, someEx]
  rw [bdV012]
  have han : σ a = none := by rw [set_ne _ _ hat] at ha; exact ha
  exact plain_end (set_same _ _ _) rfl ((sub_set _ ht).trans (sub_set _ ha)) han hK
def T_pNone : Tr := fun args σ K _ => args = [.agg []] /\ K (plAV kNone 0 []) σ
theorem T_pNone_ok (h : T_pNone args σ K X) : bodyD PS env an239 Tryz.f239 args σ K X := by
  obtain ⟨rfl, hK⟩ := h
  rw [<- S239_eq env, S239]
  simp only [lock_eq]
  refine ⟨rfl, fun t ht => ?_⟩
  refine alloc_of zeroVal rfl fun a ha => ?_
  have hat : a ≠ t := by
    intro e; rw [e, set_same] at ha; cases ha
  rw [bdV0]
  have han : σ a = none := by rw [set_ne _ _ hat] at ha; exact ha
  exact plain_end (set_same _ _ _) rfl ((sub_set _ ht).trans (sub_set _ ha)) han hK
theorem invP (hN : env 236 = T_pNum) (hS : env 237 = T_pStr) (hB : env 238 = T_pBoth) (hO : env 239 = T_pNone) {v : VV} (hK : K (plainAV v) σ) : invokeD PS env (vAV v) "tedder/value.plain" [] σ K X := by
  cases v with
  | none =>
    have hm : methOf PS 63 "tedder/value.plain" = some 239 := by kernel_rfl
    simp only [vAV, invokeD, hm, hO]
    exact ⟨rfl, hK⟩
  | num b =>
    have hm : methOf PS 56 "tedder/value.plain" = some 236 := by kernel_rfl
    simp only [vAV, invokeD, hm, hN]
    exact ⟨b, rfl, hK⟩
  | str s =>
    have hm : methOf PS 57 "tedder/value.plain" = some 237 := by kernel_rfl
    simp only [vAV, invokeD, hm, hS]
    exact ⟨s, rfl, hK⟩
  | both b s =>
    have hm : methOf PS 61 "tedder/value.plain" = some 238 := by kernel_rfl
    simp only [vAV, invokeD, hm, hB]
    exact ⟨b, s, rfl, hK⟩
theorem unValue : ∃ ms, PS.underlying 30 = some (.interface ms) := by
  cases e : PS.underlying 30 with
  | none => exact absurd (show (PS.underlying 30).isSome = true by kernel_rfl) (by rw [e]; decide)
  | some t =>
    have : (match PS.underlying 30 with | some (.interface _) => true | _ => false) = true := by kernel_rfl
    rw [e] at this
    cases t <;> first | exact ⟨_, rfl⟩ | cases this
def T_vPlain : Tr := fun args σ K _ => ∃ v : VV, (args = [vAV v] \/ (args = [.pv .nilIface] /\ v = .none)) /\ K (plainAV v) σ
theorem T_vPlain_ok (hN : env 236 = T_pNum) (hS : env 237 = T_pStr) (hB : env 238 = T_pBoth) (hO : env 239 = T_pNone) (h : T_vPlain args σ K X) : bodyD PS env an10 Tryz.f10 args σ K X := by
  obtain ⟨v, ha, hK⟩ := h
  obtain ⟨ms, hm⟩ := unValue
  rcases ha with rfl | ⟨rfl, rfl⟩
  · rw [<- S10_eq env, S10]
    simp only [lock_eq]
    refine alloc_of zeroVal rfl fun a ha => ?_
    have hnil : ∀ Q : AV -> Prop, nilB PS .eql 30 (vAV v) Q = Q (bo false) := by
      intro Q
      cases v <;> exact nil_eql1 hm
    rw [hnil, cond_bool, if_neg (by decide)]
    refine invP hN hS hB hO ?_
    exact plain_end (set_same _ _ _) rfl (sub_set _ ha) ha hK
  · rw [<- S10_eq env, S10]
    simp only [lock_eq]
    refine alloc_of zeroVal rfl fun a ha => ?_
    rw [nil_eql0 hm, cond_bool, if_pos rfl, bdNone, ifNone]
    refine invP hN hS hB hO ?_
    exact plain_end (set_same _ _ _) rfl (sub_set _ ha) ha hK
theorem zvNum : zeroV PS 56 = some (f64 0) := by kernel_rfl
theorem zvStr : zeroV PS 57 = some (st []) := by kernel_rfl
theorem zvBoth : zeroV PS 61 = some (.agg [f64 0, st []]) := by kernel_rfl
theorem noIf {t : TypeId} (h : (match PS.underlying t with | some (.interface _) => false | some _ => true | none => false) = true) : (match PS.underlying t with | some (.interface _) => False | some _ => True | none => False) := by
  cases e : PS.underlying t with
  | none => rw [e] at h; cases h
  | some d => rw [e] at h; cases d <;> first | trivial | cases h
def asNum (v : VV) : AV := match v with | .num b => .tuple [f64 b, bo true] | _ => .tuple [f64 0, bo false]
def asStr (v : VV) : AV := match v with | .str s => .tuple [st s, bo true] | _ => .tuple [st [], bo false]
def asBoth (v : VV) : AV := match v with | .both b s => .tuple [.agg [f64 b, st s], bo true] | _ => .tuple [.agg [f64 0, st []], bo false]
theorem asD {v : VV} {t : TypeId} {z : AV} {Q : AV -> Prop} (hi : (match PS.underlying t with | some (.interface _) => False | some _ => True | none => False)) (hz : zeroV PS t = some z) {x y : AV} (hx : x = vAV v)
    (hK : (match x with
    | .pv (.iface t' b cs) => if t' = t then (match b, cs with
      | false, [p] => Q (.tuple [.pv p, .pv (.bool true)])
      | true, cs => Q (.tuple [.agg (cs.map .pv), .pv (.bool true)])
      | _, _ => False) else Q (.tuple [z, .pv (.bool false)])
    | _ => False)) : assertD PS x t Q := by
  refine ⟨hi, ?_⟩
  subst hx
  rw [hz]
  cases v <;> exact hK
theorem aNum {v : VV} {Q : AV -> Prop} (h : Q (asNum v)) : assertD PS (vAV v) 56 Q := asD (noIf (by kernel_rfl)) zvNum (y := .undef) rfl (by cases v <;> exact h)
theorem aStr {v : VV} {Q : AV -> Prop} (h : Q (asStr v)) : assertD PS (vAV v) 57 Q := asD (noIf (by kernel_rfl)) zvStr (y := .undef) rfl (by cases v <;> exact h)
theorem aBoth {v : VV} {Q : AV -> Prop} (h : Q (asBoth v)) : assertD PS (vAV v) 61 Q := asD (noIf (by kernel_rfl)) zvBoth (y := .undef) rfl (by cases v <;> exact h)
theorem stBoth {a b b' : Nat} {s s' : Bytes} {mk : Option TypeId} {Q : AS -> Prop} (hg : σ a = some (.cells [f64 b, st s] mk)) : storeD PS σ 61 (.addr a 0) (.agg [f64 b', st s']) Q = Q (σ.set a (.cells [f64 b', st s'] mk)) := by
  rw [store_addr (v := .agg [f64 b', st s']) T.hT61 (by rw [T.sz61]; rfl) rfl hg]
  exact propext ⟨fun h => h.2, fun h => ⟨(Nat.le_refl 2 : 0 + 2 <= 2), h⟩⟩
def lenV : VV -> Nat
  | .str s => s.length
  | _ => 0
def T_vNumber : Tr := fun args σ K _ => ∃ v : VV, args = [vAV v] /\ lenV v <= 800 /\ K (f64 (numV v)) σ
theorem T_vNumber_ok (hP : env 26 = T_dPrefix) (h : T_vNumber args σ K X) : bodyD PS env an18 Tryz.f18 args σ K X := by
  obtain ⟨v, rfl, hl, hK⟩ := h
  rw [<- S18_eq env, S18]
  simp only [lock_eq]
  refine aNum ?_
  cases v with
  | num b =>
    simp only [asNum, ext0, ext1, cond_bool]
    rw [if_pos trivial]
    exact retV_self hK
  | none =>
    simp only [asNum, ext0, ext1, cond_bool]
    rw [if_neg (by decide)]
    refine aBoth ?_
    simp only [asBoth, ext0, ext1, cond_bool]
    rw [if_neg (by decide)]
    refine aStr ?_
    simp only [asStr, ext0, ext1, cond_bool]
    rw [if_neg (by decide)]
    exact retV_self hK
  | both b s =>
    simp only [asNum, ext0, ext1, cond_bool]
    rw [if_neg (by decide)]
    refine aBoth ?_
    simp only [asBoth, ext0, ext1, cond_bool]
    rw [if_pos trivial]
    refine alloc_of zeroBoth rfl fun a ha => ?_
    rw [stBoth (set_same _ _ _), set_set, T.fa61_0, T.ld22, set_same, ldM_cells]
    simp only [Nat.zero_add, List.getElem?_cons_zero, someEx]
    exact retV_sub (sub_set _ ha) hK
  | str s =>
    simp only [asNum, ext0, ext1, cond_bool]
    rw [if_neg (by decide)]
    refine aBoth ?_
    simp only [asBoth, ext0, ext1, cond_bool]
    rw [if_neg (by decide)]
    refine aStr ?_
    simp only [asStr, ext0, ext1, cond_bool]
    rw [if_pos trivial, hP]
    refine ⟨s, rfl, hl, ?_⟩
    simp only [ext0, ext1]
    exact retV_self hK
def textV : VV -> Bytes
  | .str s => s
  | .both _ s => s
  | _ => []
def T_vText : Tr := fun args σ K _ => ∃ (v : VV) (c : Bytes), args = [vAV v, st c] /\ isNum v = false /\ K (.tuple [st (textV v), bo true]) σ
theorem T_vText_ok (h : T_vText args σ K X) : bodyD PS env an27 Tryz.f27 args σ K X := by
  obtain ⟨v, c, rfl, hn, hK⟩ := h
  rw [<- S27_eq env, S27]
  simp only [lock_eq]
  refine aStr ?_
  cases v with
  | num b => cases hn
  | str s =>
    simp only [asStr, ext0, ext1, cond_bool]
    rw [if_pos trivial]
    exact retV_self hK
  | none =>
    simp only [asStr, ext0, ext1, cond_bool]
    rw [if_neg (by decide)]
    refine aBoth ?_
    simp only [asBoth, ext0, ext1, cond_bool]
    rw [if_neg (by decide)]
    refine aNum ?_
    simp only [asNum, ext0, ext1, cond_bool]
    rw [if_neg (by decide)]
    exact retV_self hK
  | both b s =>
    simp only [asStr, ext0, ext1, cond_bool]
    rw [if_neg (by decide)]
    refine aBoth ?_
    simp only [asBoth, ext0, ext1, cond_bool]
    rw [if_pos trivial]
    refine alloc_of zeroBoth rfl fun a ha => ?_
    rw [stBoth (set_same _ _ _), set_set, T.fa61_1, T.ld9, set_same, ldM_cells]
    simp only [Nat.zero_add, List.getElem?_cons_zero, List.getElem?_cons_succ, someEx]
    exact retV_sub (sub_set _ ha) hK
def T_vOutside : Tr := fun args σ K _ => ∃ s : Bytes, args = [st s] /\ s.length <= 800 /\ K (vAV (outV s)) σ
theorem T_vOutside_ok (hL : env 33 = T_dLooks) (hP : env 26 = T_dPrefix) (h : T_vOutside args σ K X) : bodyD PS env an22 Tryz.f22 args σ K X := by
  obtain ⟨s, rfl, hs, hK⟩ := h
  unfold outV at hK
  rw [<- S22_eq env, S22]
  simp only [lock_eq]
  rw [hL]
  refine ⟨s, rfl, hs, ?_⟩
  dsimp only
  rw [cond_bool]
  refine iteI (fun g => ?_) (fun g => ?_)
  · rw [if_pos g] at hK
    rw [hP]
    refine ⟨s, rfl, hs, ?_⟩
    simp only [ext0, ext1, bdBoth, ifBoth]
    exact retV_self hK
  · rw [if_neg g] at hK
    rw [ifStr]
    exact retV_self hK
def cmpB (x y : Bytes) : Int := if Op.bytesLess x y = true then -1 else if Op.bytesLess x y = true \/ x = y then 0 else 1
def cmpF (x y : Nat) : Int := if FloatKind.f64.format.order x y = some .lt then -1 else if FloatKind.f64.format.order x y = some .gt then 1 else 0
def cmpV (a b : VV) : Int := if isStr a = false /\ isStr b = false then cmpF (numV a) (numV b) else cmpB (textV a) (textV b)
def T_cmpNaN : Tr := fun args σ K _ => ∃ x : Bytes, args = [st x] /\ K (bo false) σ
theorem T_cmpNaN_ok (h : T_cmpNaN args σ K X) : bodyD PS env an42 Tryz.f42 args σ K X := by
  obtain ⟨x, rfl, hK⟩ := h
  rw [<- S42_eq env, S42]
  simp only [lock_eq, bin_sneq, beq_self_eq_true, Bool.not_true]
  exact retV_self hK
def T_cmpS : Tr := fun args σ K _ => ∃ x y : Bytes, args = [st x, st y] /\ K (i64 (cmpB x y)) σ
theorem T_cmpS_ok (hN : env 42 = T_cmpNaN) (h : T_cmpS args σ K X) : bodyD PS env an28 Tryz.f28 args σ K X := by
  obtain ⟨x, y, rfl, hK⟩ := h
  unfold cmpB at hK
  rw [<- S28_eq env, S28]
  simp only [lock_eq]
  rw [hN]
  refine ⟨x, rfl, ?_⟩
  refine ⟨y, rfl, ?_⟩
  simp only [cond_bool, bin_slss, bin_sgtr]
  rw [if_neg (by decide), if_neg (by decide)]
  refine iteI (fun g => ?_) (fun g => ?_)
  · rw [if_pos g] at hK
    exact retV_self hK
  · rw [if_neg g] at hK
    have g' : Op.bytesLess x y = false := by simpa using g
    rw [g', Bool.false_or]
    refine iteI (fun g2 => ?_) (fun g2 => ?_)
    · have : ¬ (Op.bytesLess x y = true \/ x = y) := by
        rintro (h | h)
        · exact g h
        · rw [h] at g2; simp at g2
      rw [if_neg this] at hK
      exact retV_self hK
    · have : x = y := by simpa using g2
      rw [if_pos (.inr this)] at hK
      exact retV_self hK
def T_vCompare : Tr := fun args σ K _ => ∃ (a b : VV) (c : Bytes), args = [vAV a, vAV b, st c] /\ lenV a <= 800 /\ lenV b <= 800 /\ ((isStr a = false /\ isStr b = false) \/ (isNum a = false /\ isNum b = false)) /\ K (.tuple [i64 (cmpV a b), bo true]) σ
theorem asStr_eq (v : VV) : ∃ s, asStr v = .tuple [st s, bo (isStr v)] := by cases v <;> exact ⟨_, rfl⟩
theorem T_vCompare_ok (hN : env 18 = T_vNumber) (hT : env 27 = T_vText) (hC : env 28 = T_cmpS) (h : T_vCompare args σ K X) : bodyD PS env an11 Tryz.f11 args σ K X := by
  obtain ⟨a, b, c, rfl, ha, hb, hor, hK⟩ := h
  have j4 : ∀ z : Bool, (z = true ↔ isStr a = false /\ isStr b = false) -> J11_4 env (vAV a) (vAV b) (st c) (bo z) σ K X := by
    intro z hz
    unfold J11_4
    simp only [lock_eq, cond_bool]
    unfold cmpV at hK
    refine iteI (fun g => ?_) (fun g => ?_)
    · rw [if_pos (hz.1 g)] at hK
      rw [hN]
      refine ⟨a, rfl, ha, ?_⟩
      refine ⟨b, rfl, hb, ?_⟩
      unfold cmpF at hK
      simp only [bin_flss, bin_fgtr, cond_bool]
      refine iteI (fun g => ?_) (fun g => ?_)
      · rw [if_pos (eq_of_beq g)] at hK
        exact retV_self hK
      · rw [if_neg (fun e => g (by rw [e]; rfl))] at hK
        refine iteI (fun g2 => ?_) (fun g2 => ?_)
        · rw [if_pos (eq_of_beq g2)] at hK
          exact retV_self hK
        · rw [if_neg (fun e => g2 (by rw [e]; rfl))] at hK
          exact retV_self hK
    · have hns : ¬ (isStr a = false /\ isStr b = false) := fun e => g (hz.2 e)
      rw [if_neg hns] at hK
      obtain ⟨n1, n2⟩ := hor.resolve_left hns
      rw [hT]
      refine ⟨a, c, rfl, n1, ?_⟩
      simp only [ext0, ext1]
      refine ⟨b, c, rfl, n2, ?_⟩
      simp only [ext0, ext1, un_not, guard_false, cond_bool]
      rw [if_neg (by decide), if_neg (by decide)]
      unfold J11_14
      rw [hC]
      exact ⟨_, _, rfl, retV_self hK⟩
  rw [<- S11_eq env, S11]
  simp only [lock_eq]
  refine aStr ?_
  obtain ⟨s1, h1⟩ := asStr_eq a
  obtain ⟨s2, h2⟩ := asStr_eq b
  rw [h1]
  simp only [ext0, ext1]
  refine aStr ?_
  rw [h2]
  simp only [ext0, ext1, un_not, guard_true]
  refine iteI (fun g => ?_) (fun g => ?_)
  · exact j4 _ (by simp at g; simp [g])
  · exact j4 _ (by simp at g; simp [g])
end
end Go.AD.Fl
