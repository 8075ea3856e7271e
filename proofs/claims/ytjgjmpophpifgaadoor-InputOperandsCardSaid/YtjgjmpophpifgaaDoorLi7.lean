/- input: the laws. -/
import Derived.Test.YtjgjmpophpifgaaDoorLi6
set_option linter.unusedVariables false
set_option linter.unusedSimpArgs false
set_option maxRecDepth 100000
namespace Go.AD.Lx
open Go.Proofs
/-! ### records put together and parted again -/
def splR (r : UInt8) : Bytes → Bytes → List Bytes
  | [], cur => if cur = [] then [] else [cur]
  | c :: t, cur => if c = r then cur :: splR r t [] else splR r t (cur ++ [c])
theorem spR_split {r : UInt8} {s : Bytes} : ∀ (t pre : Bytes) (a : Nat), s = pre ++ t → a ≤ pre.length → (spR r t a pre.length).map (cutS s) = splR r t (pre.drop a)
  | [], pre, a, hs, ha => by
    rw [spR, splR]
    rw [List.append_nil] at hs
    subst hs
    by_cases h : a < s.length
    · rw [if_pos h, if_neg (drop_ne h)]
      simp [cutS]
    · rw [if_neg h, if_pos (List.drop_eq_nil_of_le (by omega))]; rfl
  | c :: t, pre, a, hs, ha => by
    have hs' : s = (pre ++ [c]) ++ t := by rw [hs]; simp
    have hl : (pre ++ [c]).length = pre.length + 1 := by simp
    rw [spR, splR]
    by_cases h : c = r
    · rw [if_pos h, if_pos h, List.map_cons]
      have ih := spR_split (r := r) t (pre ++ [c]) (pre.length + 1) hs' (by omega)
      rw [hl] at ih
      rw [ih]
      have e1 : (pre ++ [c]).drop (pre.length + 1) = [] := List.drop_eq_nil_of_le (by omega)
      rw [e1]
      have e2 : cutS s (a, pre.length) = pre.drop a := by
        unfold cutS
        rw [hs]
        simp
      rw [e2]
    · rw [if_neg h, if_neg h]
      have ih := spR_split (r := r) t (pre ++ [c]) a hs' (by omega)
      rw [hl] at ih
      rw [ih, List.drop_append_of_le_length ha]
theorem splR_word {r : UInt8} : ∀ (x t cur : Bytes), r ∉ x → splR r (x ++ r :: t) cur = (cur ++ x) :: splR r t []
  | [], t, cur, _ => by rw [List.nil_append, splR, if_pos rfl, List.append_nil]
  | c :: x, t, cur, h => by
    have h1 : ¬ c = r := fun e => h (by simp [e])
    rw [List.cons_append, splR, if_neg h1, splR_word x t _ (fun e => h (by simp [e]))]
    simp
def joinR (r : UInt8) : List Bytes → Bytes
  | [] => []
  | x :: l => x ++ r :: joinR r l
theorem joinR_snoc {r : UInt8} (l : List Bytes) (x : Bytes) : joinR r (l ++ [x]) = joinR r l ++ (x ++ [r]) := by
  induction l with
  | nil => simp [joinR]
  | cons y l ih => simp [joinR, ih]
theorem splR_join {r : UInt8} : ∀ (l : List Bytes), (∀ x ∈ l, r ∉ x) → splR r (joinR r l) [] = l
  | [], _ => by simp [joinR, splR]
  | x :: l, h => by
    rw [joinR, splR_word x _ _ (h x (by simp)), splR_join l (fun y hy => h y (by simp [hy]))]
    rfl
theorem recs_join {r : UInt8} {l : List Bytes} (h : ∀ x ∈ l, r ∉ x) : recsS (joinR r l) ([r] ++ [120]) = l := by
  unfold recsS spansS
  rw [if_neg (by simp)]
  have := spR_split (r := r) (s := joinR r l) (joinR r l) [] 0 rfl (Nat.le_refl _)
  rw [List.drop_nil, splR_join l h] at this
  exact this
theorem awake_recs : recsS [97, 10, 98] [10] = [[97], [98]] := by decide +kernel
theorem awake_asg : asgS [120, 61, 49] = some ([120], [49]) := by decide +kernel
section
variable {env : Env} {args : List AV} {σ0 σ τ : AS} {K : AV → AS → Prop} {X : PV → AS → Prop}
def T_awake15 : Tr := fun args σ K _ => args = [] ∧ ∀ σ', σ.sub σ' → K (.pv (.bool true)) σ'
theorem T_awake15_ok (h1 : env 13 = T_recs) (h2 : env 15 = T_asg) (h : T_awake15 args σ K X) : bodyD PS env an9 Tryd.f9 args σ K X := by
  obtain ⟨rfl, hK⟩ := h
  rw [← S9_eq env, S9, h1]
  refine ⟨_, _, rfl, by decide, fun σ1 hs1 => ?_⟩
  rw [awake_recs, h2]
  refine ⟨_, rfl, by decide, fun σ2 hs2 => ?_⟩
  rw [awake_asg]
  have x1 : ∀ K : AV → Prop, indexAddrD PS 27 (.pv (.lst 2 [.str [97], .str [98]])) (.pv (.int .i64 1)) K = K (.elemP [.str [97], .str [98]] 1) := fun K => T.ixl27 (i := 1) (by decide) rfl
  have c1 : ([.str [97], .str [98]] : List PV)[1]? = some (.str [98]) := rfl
  simp only [asgV, lock_eq, ext_tuple, List.getElem?_cons_zero, List.getElem?_cons_succ, someEx, List.map_cons, List.map_nil, List.length_cons, List.length_nil, Nat.reduceAdd, T.lnl27, bin_eql, x1, T.le9, c1, bin_seql]
  simp only [go_sem]
  repeat (rw [if_pos (by decide)])
  exact retV_self (hK _ (AS.sub_trans hs1 hs2))
theorem neqA {a b : Int} {K : AV → Prop} : binD PS .neq 25 (.agg [.pv (.int .i64 a), .pv (.int .i64 b)]) (.agg [.pv (.int .i64 a), .pv (.int .i64 b)]) K = K (.pv (.bool false)) := by
  have hu : PS.underlying 25 = some (.array 2 3) := Tryd.underlying25
  have hi : PS.underlying 3 = some (.int .i64) := Tryd.underlying3
  have h1 : PS.stoodInHeld 25 = false := by kernel_rfl
  have h2 : PS.eqGuardType PS.depth 25 = false := by kernel_rfl
  simp [binD, eqD, hu, hi, h1, h2, sameAt, T.iS3, T.sz3]
def T_lawI1 : Tr := fun args σ K _ => ∃ s : Bytes, args = [.pv (.str s)] ∧ ∀ σ', K (.pv (.bool true)) σ'
def T_lawI2 : Tr := fun args σ K _ => ∃ s t : Bytes, args = [.pv (.str s), .pv (.str t)] ∧ ∀ σ', K (.pv (.bool true)) σ'
def T_lawI3 : Tr := fun args σ K _ => ∃ (l : List Bytes) (r : UInt8), args = [.pv (.lst l.length (l.map .str)), .pv (.int .u8 r.toNat)] ∧ (∀ x ∈ l, x.length ≤ 140737488351232) ∧ ∀ σ', K (.pv (.bool true)) σ'
theorem T_InputOperands_ok (h1 : env 9 = T_awake15) (h2 : env 15 = T_asg) (h3 : env 16 = T_asg) (h : T_lawI1 args σ K X) : bodyD PS env an5 Tryd.f5 args σ K X := by
  obtain ⟨s, rfl, hK⟩ := h
  rw [← S5_eq env, S5, h1]
  refine ⟨rfl, fun σ1 _ => ?_⟩
  simp only [go_sem, Bool.not_true, Bool.false_eq_true, if_false]
  refine iteI (fun _ => retV_self (hK _)) (fun hl => ?_)
  rw [h2]
  refine ⟨s, rfl, by omega, fun σ2 _ => ?_⟩
  cases ha : asgS s with
  | none =>
    simp only [asgV, lock_eq, ext_tuple, List.getElem?_cons_zero, List.getElem?_cons_succ, someEx]
    rw [h3]
    refine ⟨s, rfl, by omega, fun σ3 _ => ?_⟩
    rw [ha]
    simp only [asgV, lock_eq, ext_tuple, List.getElem?_cons_zero, List.getElem?_cons_succ, someEx, bin_seql, bin_beql (P := PS) (t := 4) Tryd.underlying4, beq_self_eq_true, guard_true, if_true]
    exact retV_self (hK _)
  | some x =>
    obtain ⟨a, b⟩ := x
    simp only [asgV, lock_eq, ext_tuple, List.getElem?_cons_zero, List.getElem?_cons_succ, someEx]
    rw [h3]
    refine ⟨s, rfl, by omega, fun σ3 _ => ?_⟩
    rw [ha]
    simp only [asgV, lock_eq, ext_tuple, List.getElem?_cons_zero, List.getElem?_cons_succ, someEx, bin_seql, bin_beql (P := PS) (t := 4) Tryd.underlying4, beq_self_eq_true, guard_true, if_true]
    exact retV_self (hK _)
theorem T_InputRecords_ok (h1 : env 9 = T_awake15) (h2 : env 10 = T_spans) (h3 : env 11 = T_spans) (h4 : env 13 = T_recs) (h5 : env 14 = T_recs) (h6 : env 12 = T_same10) (h : T_lawI2 args σ K X) : bodyD PS env an3 Tryd.f3 args σ K X := by
  obtain ⟨s, rs, rfl, hK⟩ := h
  rw [← S3_eq env, S3, h1]
  refine ⟨rfl, fun σ1 _ => ?_⟩
  simp only [go_sem, Bool.not_true, Bool.false_eq_true, if_false]
  refine iteI (fun _ => retV_self (hK _)) (fun hl => ?_)
  refine iteI (fun _ => retV_self (hK _)) (fun hl2 => ?_)
  have hfew := spans_few (s := s) (rs := rs)
  unfold J3_5
  rw [h2]
  refine ⟨s, rs, rfl, by omega, fun σ2 _ => ?_⟩
  rw [h3]
  refine ⟨s, rs, rfl, by omega, fun σ3 _ => ?_⟩
  generalize hsp : spansS s rs = sp at hfew
  simp only [spV, lock_eq, go_sem, T.lnl23, bne, beq_self_eq_true, Bool.not_true, Bool.false_eq_true, if_false]
  refine lp3_9 (fun (j : Nat) _ => sp.length - j) (fun j τ => j ≤ sp.length) (fun j => .pv (.int .i64 ((j : Nat) : Int))) 0 (Nat.zero_le _) ?_
  intro j τ hj
  unfold L3_9
  simp (disch := omega) only [lock_eq, go_sem]
  refine iteI (fun g1 => ?_) (fun g1 => ?_)
  · have hx : ∀ K : AV → Prop, indexAddrD PS 23 (.pv (.lst sp.length (flatP sp))) (.pv (.int .i64 (j : Nat))) K = K (.elemP (flatP sp) (j * 2)) := fun K => T.ixl23 g1 (flatP_len sp)
    have hld : ∀ σ K, loadD PS σ 25 (.elemP (flatP sp) (j * 2)) K = K (.agg ((spPV sp[j]).map .pv)) := by
      intro σ K
      rw [load_elemA T.hT25 T.ag25, T.sz25, flatP_get sp _ g1]
      exact propext ⟨fun h => h.2, fun h => ⟨by rw [flatP_len]; omega, h⟩⟩
    simp only [hx, hld]
    generalize sp[j] = p
    refine alloc_of T.zo25 rfl ?_
    intro t7 ht7
    have hS1 := (Sep.start τ).alloc ht7 (.cells [.pv (.int .i64 0), .pv (.int .i64 0)] (some 25))
    have hg : (τ.set t7 (.cells [.pv (.int .i64 0), .pv (.int .i64 0)] (some 25))) t7 = some (.cells [.pv (.int .i64 0), .pv (.int .i64 0)] (some 25)) := hS1.get (by simp)
    rw [storeD]
    simp only [hg]
    refine ⟨T.hT25, by rw [T.sz25]; rfl, rfl, by simp [AV.cells, spPV], ?_⟩
    have hS2 := Sep.set1 hS1 (.cells (setAll [.pv (.int .i64 0), .pv (.int .i64 0)] 0 (AV.cells (.agg ((spPV p).map .pv)))) (some 25))
    have hg2 := hS2.get (i := t7) (o := .cells (setAll [.pv (.int .i64 0), .pv (.int .i64 0)] 0 (AV.cells (.agg ((spPV p).map .pv)))) (some 25)) (by simp)
    have hcs : setAll [.pv (.int .i64 0), .pv (.int .i64 0)] 0 (AV.cells (.agg ((spPV p).map .pv))) = [.pv (.int .i64 (p.1 : Nat)), .pv (.int .i64 (p.2 : Nat))] := rfl
    rw [hcs] at hg2 ⊢
    generalize ((τ.set t7 (.cells [.pv (.int .i64 0), .pv (.int .i64 0)] (some 25))).set t7 (.cells [.pv (.int .i64 (p.1 : Nat)), .pv (.int .i64 (p.2 : Nat))] (some 25))) = σ4 at hg2 ⊢
    have hla : ∀ K : AV → Prop, loadD PS σ4 25 (.addr t7 0) K = K (.agg [.pv (.int .i64 (p.1 : Nat)), .pv (.int .i64 (p.2 : Nat))]) := by
      intro K
      rw [load_addrA T.hT25 T.ag25 hg2, T.sz25]
      simp
    have hpp : (spPV p).map AV.pv = [.pv (.int .i64 (p.1 : Nat)), .pv (.int .i64 (p.2 : Nat))] := rfl
    simp only [hla, hx, hld, hpp, neqA]
    simp (disch := omega) only [go_sem, Bool.false_eq_true, if_false]
    exact back (j + 1) rfl (by omega) g1
  · rw [h4]
    refine ⟨s, rs, rfl, by omega, fun σ5 _ => ?_⟩
    rw [h5]
    refine ⟨s, rs, rfl, by omega, fun σ6 _ => ?_⟩
    rw [h6]
    refine ⟨recsS s rs, rfl, ?_, retV_self (hK _)⟩
    unfold recsS
    rw [List.length_map, hsp]
    omega
theorem T_InputBack_ok (h1 : env 9 = T_awake15) (h4 : env 13 = T_recs) (h6 : env 12 = T_same10) (h : T_lawI3 args σ K X) : bodyD PS env an4 Tryd.f4 args σ K X := by
  obtain ⟨l, r, rfl, hlx, hK⟩ := h
  rw [← S4_eq env, S4, h1]
  refine ⟨rfl, fun σ1 _ => ?_⟩
  simp only [go_sem, T.lnl27, Bool.not_true, Bool.false_eq_true, if_false]
  refine iteI (fun _ => retV_self (hK _)) (fun hl => ?_)
  have hbr : ∀ (τ : AS) (K : AV → AS → Prop), buildSliceD PS false τ 30 1 1 [(0, .pv (.int .u8 r.toNat))] K = K (.full 1 (pvBytes [r])) τ := fun τ K => bb1 r rfl
  have hcv : ∀ (τ : AS) (K : AV → Prop), convD PS τ 30 9 (.full 1 (pvBytes [r])) K = K (.pv (.str [r])) := fun τ K => conv_bytes (l := [r]) (isSlice T.el30) Tryd.underlying9 Tryd.underlying5 T.sz5 rfl
  refine lp4_7 (fun (a : Nat × Bytes) _ => l.length - a.1) (fun a τ => a.1 ≤ l.length ∧ a.2 = joinR r (l.take a.1) ∧ a.2.length ≤ 3000 ∧ ∀ x ∈ l.take a.1, r ∉ x) (fun a => .pv (.str a.2)) (fun a => .pv (.int .i64 ((a.1 : Nat) : Int))) (0, []) ⟨Nat.zero_le _, rfl, Nat.zero_le _, by simp⟩ ?_
  rintro ⟨j, s⟩ τ ⟨hj, hs, hsl, hno⟩
  simp only at hj hs hsl hno
  unfold L4_7
  simp (disch := omega) only [lock_eq, go_sem]
  refine iteI (fun g1 => ?_) (fun g1 => ?_)
  · have e3 : (l.map PV.str).length = l.length * 1 := by simp
    have hc : (l.map PV.str)[j]? = some (.str l[j]) := by simp [g1]
    have htk : l.take (j + 1) = l.take j ++ [l[j]] := by rw [List.take_add_one, List.getElem?_eq_getElem g1]; rfl
    simp (disch := omega) only [T.ixl27, go_sem, hc, Nat.mul_one]
    have hxl := hlx l[j] (List.getElem_mem _)
    generalize l[j] = x at htk hxl
    refine lp4_10 (fun (i : Nat) _ => x.length - i) (fun i τ' => τ' = τ ∧ i ≤ x.length ∧ r ∉ x.take i) (fun i => .pv (.int .i64 ((i : Nat) : Int))) 0 ⟨rfl, Nat.zero_le _, by simp⟩ ?_
    rintro i τ' ⟨rfl, hi, hnx⟩
    unfold L4_10
    simp (disch := omega) only [lock_eq, go_sem]
    refine iteI (fun g2 => ?_) (fun g2 => ?_)
    · simp (disch := omega) only [T.is9, go_sem, beq_iff_eq]
      refine iteI (fun g3 => retV_self (hK _)) (fun g3 => ?_)
      refine back (i + 1) rfl (by omega) ⟨rfl, g2, ?_⟩
      rw [take_snocD (d := 0) g2, List.mem_append]
      rintro (h | h)
      · exact hnx h
      · have : r = x.getD i 0 := by simpa [-List.getD_eq_getElem?_getD] using h
        exact g3 (by rw [this])
    · rw [List.take_of_length_le (by omega)] at hnx
      simp only [hbr, hcv, go_sem]
      refine ⟨by simp; omega, ?_⟩
      refine ⟨by simp; omega, ?_⟩
      refine iteI (fun g3 => retV_self (hK _)) (fun g3 => ?_)
      refine back (j + 1, s ++ (x ++ [r])) rfl (by simp only; omega) ⟨g1, ?_, by simp only; omega, ?_⟩
      · simp only
        rw [htk, joinR_snoc, ← hs]
      · simp only
        intro y hy
        rw [htk] at hy
        rcases List.mem_append.1 hy with hy | hy
        · exact hno y hy
        · have : y = x := by simpa using hy
          rw [this]; exact hnx
  · rw [List.take_of_length_le (by omega)] at hs hno
    simp only [hbr, hcv, go_sem]
    refine ⟨by simp, ?_⟩
    rw [h4]
    refine ⟨s, [r] ++ [120], rfl, by omega, fun σ5 _ => ?_⟩
    rw [hs, recs_join hno, h6]
    exact ⟨l, rfl, by omega, retV_self (hK _)⟩
end
theorem F_WriteString (hm : HM) : SoundF PS 46 T_WriteString := body_sound hm (envR3_ok hm) an46 Tryd.func46 Tryd.call46 S46_ok (fun args σ K X h => (T_WriteString_ok rfl h))
theorem F_xSpans (hm : HM) : SoundF PS 11 T_spans := body_sound hm (envR3_ok hm) an11 Tryd.func11 Tryd.call11 S11_ok (fun args σ K X h => T_xSpans_ok h)
theorem F_same10 (hm : HM) : SoundF PS 12 T_same10 := body_sound hm (envR3_ok hm) an12 Tryd.func12 Tryd.call12 S12_ok (fun args σ K X h => T_same10_ok h)
theorem F_named (hm : HM) : SoundF PS 26 T_named := body_sound hm (envR3_ok hm) an26 Tryd.func26 Tryd.call26 S26_ok (fun args σ K X h => T_named_ok h)
theorem F_xOperand (hm : HM) : SoundF PS 16 T_asg := body_sound hm (envR3_ok hm) an16 Tryd.func16 Tryd.call16 S16_ok (fun args σ K X h => (T_xOperand_ok rfl h))
def envI1 : Env := (((((((((envR3.add 42 (strT2 fun s t => .pv (.int .i64 (Lib.index s t)))).add 41 (T_trim Lib.trimLeftB)).add 40 (T_trim Lib.trimRightB)).add 25 T_Cut).add 46 T_WriteString).add 11 T_spans).add 12 T_same10).add 26 T_named).add 16 T_asg)
theorem envI1_ok (hm : HM) : EnvOk PS envI1 := EnvOk.add (EnvOk.add (EnvOk.add (EnvOk.add (EnvOk.add (EnvOk.add (EnvOk.add (EnvOk.add (EnvOk.add (envR3_ok hm) (F_Index)) (F_TrimLeft)) (F_TrimRight)) (F_Cut)) (F_WriteString hm)) (F_xSpans hm)) (F_same10 hm)) (F_named hm)) (F_xOperand hm)
theorem F_blocks (hm : HM) : SoundF PS 23 T_blocks := body_sound hm (envI1_ok hm) an23 Tryd.func23 Tryd.call23 S23_ok (fun args σ K X h => (T_blocks_ok rfl rfl rfl h))
theorem F_quoted15 (hm : HM) : SoundF PS 28 T_quoted15 := body_sound hm (envI1_ok hm) an28 Tryd.func28 Tryd.call28 S28_ok (fun args σ K X h => (T_quoted15_ok rfl rfl rfl h))
theorem F_xRecords (hm : HM) : SoundF PS 14 T_recs := body_sound hm (envI1_ok hm) an14 Tryd.func14 Tryd.call14 S14_ok (fun args σ K X h => (T_xRecords_ok rfl h))
def envI2 : Env := (((envI1.add 23 T_blocks).add 28 T_quoted15).add 14 T_recs)
theorem envI2_ok (hm : HM) : EnvOk PS envI2 := EnvOk.add (EnvOk.add (EnvOk.add (envI1_ok hm) (F_blocks hm)) (F_quoted15 hm)) (F_xRecords hm)
theorem F_iSpans (hm : HM) : SoundF PS 10 T_spans := body_sound hm (envI2_ok hm) an10 Tryd.func10 Tryd.call10 S10_ok (fun args σ K X h => (T_iSpans_ok rfl rfl h))
theorem F_iOperand (hm : HM) : SoundF PS 15 T_asg := body_sound hm (envI2_ok hm) an15 Tryd.func15 Tryd.call15 S15_ok (fun args σ K X h => (T_iOperand_ok rfl rfl rfl rfl h))
def envI3 : Env := ((envI2.add 10 T_spans).add 15 T_asg)
theorem envI3_ok (hm : HM) : EnvOk PS envI3 := EnvOk.add (EnvOk.add (envI2_ok hm) (F_iSpans hm)) (F_iOperand hm)
theorem F_iRecords (hm : HM) : SoundF PS 13 T_recs := body_sound hm (envI3_ok hm) an13 Tryd.func13 Tryd.call13 S13_ok (fun args σ K X h => (T_iRecords_ok rfl h))
def envI4 : Env := (envI3.add 13 T_recs)
theorem envI4_ok (hm : HM) : EnvOk PS envI4 := EnvOk.add (envI3_ok hm) (F_iRecords hm)
theorem F_awake15 (hm : HM) : SoundF PS 9 T_awake15 := body_sound hm (envI4_ok hm) an9 Tryd.func9 Tryd.call9 S9_ok (fun args σ K X h => (T_awake15_ok rfl rfl h))
def envI5 : Env := (envI4.add 9 T_awake15)
theorem envI5_ok (hm : HM) : EnvOk PS envI5 := EnvOk.add (envI4_ok hm) (F_awake15 hm)
theorem F_InputRecords (hm : HM) : SoundF PS 3 T_lawI2 := body_sound hm (envI5_ok hm) an3 Tryd.func3 Tryd.call3 S3_ok (fun args σ K X h => (T_InputRecords_ok rfl rfl rfl rfl rfl rfl h))
theorem F_InputBack (hm : HM) : SoundF PS 4 T_lawI3 := body_sound hm (envI5_ok hm) an4 Tryd.func4 Tryd.call4 S4_ok (fun args σ K X h => (T_InputBack_ok rfl rfl rfl h))
theorem F_InputOperands (hm : HM) : SoundF PS 5 T_lawI1 := body_sound hm (envI5_ok hm) an5 Tryd.func5 Tryd.call5 S5_ok (fun args σ K X h => (T_InputOperands_ok rfl rfl rfl h))
def envI6 : Env := (((envI5.add 3 T_lawI2).add 4 T_lawI3).add 5 T_lawI1)
theorem envI6_ok (hm : HM) : EnvOk PS envI6 := EnvOk.add (EnvOk.add (EnvOk.add (envI5_ok hm) (F_InputRecords hm)) (F_InputBack hm)) (F_InputOperands hm)
end Go.AD.Lx
