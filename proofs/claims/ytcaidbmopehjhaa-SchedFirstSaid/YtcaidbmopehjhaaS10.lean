/- sched.Plan, the whole. -/
import Derived.Test.YtcaidbmopehjhaaS9
set_option linter.unusedVariables false
set_option linter.unusedSimpArgs false
set_option maxRecDepth 100000
namespace Go.AD.Sc
open Go.Proofs
def planV (cs : List Nat) (room : Nat) (picks : List Int) : AV := .tuple [.pv (.lst (plan cs room (pickAt picks)).1.length (flatS (plan cs room (pickAt picks)).1)), .pv (.int .i64 (plan cs room (pickAt picks)).2)]
def noPlan : AV := .tuple [.pv (.lst 0 []), .pv (.int .i64 0)]
def T24 : Tr := fun args σ K _ => ∃ (l picks : List Int) (room : Int), args = [.pv (.lst l.length (i64s l)), .pv (.int .i64 room), .pv (.lst picks.length (i64s picks))] ∧ (∀ c ∈ picks, in64 c) ∧ picks.length ≤ 100000000000000 ∧
  (rightS l room = none → K noPlan σ) ∧
  (∀ (cs : List Nat) (r : Nat), l = ints cs → room = r → rightS l room ≠ none → 1 ≤ cs.length → cs.length ≤ 4096 → 1 ≤ r → r ≤ 4096 → cs.sum ≤ 1048576 → ∀ σ', σ.sub σ' → K (planV cs r picks) σ')
theorem mk22S {σ0 σ : AS} {L : Objs} (hS : Sep σ0 σ L) {k : Nat} (hk : k ≤ 4096) {K : AV → AS → Prop} (h : ∀ id σ', Sep σ0 σ' ((id, .cells (intsA (List.replicate k 0)) none) :: L) → K (.msl id 0 k 1) σ') : makeSliceD PS true σ 22 (.pv (.int .i64 k)) (.pv (.int .i64 k)) K := by
  refine make_mu (e := 3) T.el22 T.hT3 (by rw [T.sz3]; decide) T.zo3 (by rw [T.sz3]; rfl) rfl (by omega) (by omega) (by rw [T.by3]; omega) (by omega) ?_
  intro id hid
  rw [T.sz3, Int.toNat_natCast, intsA_rep]
  exact h id _ (hS.alloc hid _)
theorem boolsA_rep (n : Nat) : List.flatten (List.replicate n [AV.pv (.bool false)]) = boolsA (List.replicate n false) := by
  induction n with
  | zero => rfl
  | succ n ih => simp only [List.replicate_succ, List.flatten_cons, ih]; rfl
theorem mk66S {σ0 σ : AS} {L : Objs} (hS : Sep σ0 σ L) {k : Nat} (hk : k ≤ 4096) {K : AV → AS → Prop} (h : ∀ id σ', Sep σ0 σ' ((id, .cells (boolsA (List.replicate k false)) none) :: L) → K (.msl id 0 k 1) σ') : makeSliceD PS true σ 66 (.pv (.int .i64 k)) (.pv (.int .i64 k)) K := by
  refine make_mu (e := 4) T.el66 T.hT4 (by rw [T.sz4]; decide) T.zo4 (by rw [T.sz4]; rfl) rfl (by omega) (by omega) (by rw [T.by4]; omega) (by omega) ?_
  intro id hid
  rw [T.sz4, Int.toNat_natCast, boolsA_rep]
  exact h id _ (hS.alloc hid _)
theorem call45S {env : Env} (h45 : env 45 = T45) {σ0 σ : AS} {L : Objs} (hS : Sep σ0 σ L) {k : Nat} (hk1 : 1 ≤ k) (hk : k ≤ 4096) {K : AV → AS → Prop} {X : PV → AS → Prop} (h : ∀ t s n σ', (∃ h, n = 2 ^ h) ∧ k ≤ n ∧ n ≤ 8192 → Sep σ0 σ' ((t, .cells [.pv (.int .i64 n), .msl s 0 (2 * n) 1] none) :: (s, .cells (intsA (List.replicate (2 * n) 0)) none) :: L) → K (.addr t 0) σ') : env 45 [.pv (.int .i64 k)] σ K X := by
  rw [h45]
  refine ⟨k, rfl, hk1, hk, ?_⟩
  intro t s n hh hp hkn hn8 hs ht
  exact h t s n _ ⟨⟨hh, hp⟩, hkn, hn8⟩ ((hS.alloc hs _).alloc ht _)
/-- The machine is made. -/
theorem tail24 {env : Env} (h46 : env 46 = T46) (h47 : env 47 = T47) {cs : List Nat} {room n : Nat} {picks : List Int} {σ : AS} {d r a t s : Nat} (hr : 1 ≤ room) (hr2 : room ≤ 4096) (hk1 : 1 ≤ cs.length) (hk4 : cs.length ≤ 4096) (hsum : cs.sum ≤ 1048576) (hp : ∀ c ∈ picks, in64 c) (hpl : picks.length ≤ 100000000000000)
    (hcs : ∀ c ∈ cs, c ≤ 1048576)
    {K : AV → AS → Prop} {X : PV → AS → Prop} (hK : ∀ σ', σ.sub σ' → K (planV cs room picks) σ') {L : Objs} {τ : AS} (hS : Sep σ τ L) (hn : (∃ h, n = 2 ^ h) ∧ cs.length ≤ n ∧ n ≤ 8192)
    (hm : ∀ p ∈ [(d, AObj.cells (intsA (List.replicate cs.length 0)) none), (r, .cells (intsA (List.replicate cs.length 0)) none), (a, .cells (boolsA (List.replicate cs.length false)) none), (t, .cells [.pv (.int .i64 n), .msl s 0 (2 * n) 1] none), (s, .cells (intsA (List.replicate (2 * n) 0)) none)], p ∈ L) (hd : [d, r, a, t, s].Nodup) :
    (buildD PS 70 [(0, .pv (.lst cs.length (i64s (ints cs)))), (1, .msl d 0 cs.length 1), (2, .msl r 0 cs.length 1), (3, .msl a 0 cs.length 1), (5, .pv (.int .i64 room)), (8, .addr t 0), (9, .pv (.bool true))] fun t37 =>
      ((boxD τ t37 fun t38 σ120 => (lenD PS 22 (.pv (.lst cs.length (i64s (ints cs)))) fun t40 =>
        (∃ I7 : Nat → List AV → AS → Prop, (∃ m, I7 m [.pv (.lst picks.length (i64s picks)), .pv (.int .i64 cs.sum), .pv (.int .i64 cs.length), t38, .pv (.lst cs.length (i64s (ints cs))), t40, .pv (.int .i64 0)] σ120) ∧ ∀ (m7 : Nat) (x0 x1 x2 x3 x4 x5 x6 : AV), ∀ σ12, I7 m7 [x0, x1, x2, x3, x4, x5, x6] σ12 → L24_7 env I7 m7 x0 x1 x2 x3 x4 x5 x6 σ12 K X))) ∧ True)) := by
  obtain ⟨hpw, hkn, hn8⟩ := hn
  have hcl : (ints cs).length = cs.length := ints_len cs
  have bd : ∀ (K : AV → Prop), buildD PS 70 [(0, .pv (.lst cs.length (i64s (ints cs)))), (1, .msl d 0 cs.length 1), (2, .msl r 0 cs.length 1), (3, .msl a 0 cs.length 1), (5, .pv (.int .i64 room)), (8, .addr t 0), (9, .pv (.bool true))] K =
      K (.agg [.pv (.lst cs.length (i64s (ints cs))), .msl d 0 cs.length 1, .msl r 0 cs.length 1, .msl a 0 cs.length 1, .nilS, .pv (.int .i64 room), .pv (.int .i64 0), .pv (.int .i64 0), .addr t 0, .pv (.bool true)]) := by
    intro K
    simp [buildD, buildFill, go_sem, AV.cells, AV.cellOk, setAll]
  rw [bd]
  refine ⟨⟨rfl, ?_⟩, trivial⟩
  intro m hmn
  simp only [go_sem]
  have hS1 := Sep.of_mem hS hm hd
  have hS2 := hS1.alloc hmn (.cells (mCells ⟨m, d, r, a, t, s⟩ (initM cs room n 0 (List.replicate (2 * n) 0)) .nilS) none)
  have e1 : mCells ⟨m, d, r, a, t, s⟩ (initM cs room n 0 (List.replicate (2 * n) 0)) .nilS = [.pv (.lst cs.length (i64s (ints cs))), .msl d 0 cs.length 1, .msl r 0 cs.length 1, .msl a 0 cs.length 1, .nilS, .pv (.int .i64 room), .pv (.int .i64 0), .pv (.int .i64 0), .addr t 0, .pv (.bool true)] := by
    simp only [mCells, initM, hcl]; rfl
  have e2 : (initM cs room n 0 (List.replicate (2 * n) 0)).ready = List.replicate cs.length 0 := by
    simp only [initM, Nat.not_lt_zero, false_and, if_false]
    rw [List.map_const']; simp
  rw [← e1]
  refine init7 (σ0 := σ) (I := ⟨m, d, r, a, t, s⟩) h46 h47 hr hr2 hk1 hk4 hsum hp hpl hcs hkn hn8 hpw ?_ ?_
  · have : (mObs ⟨m, d, r, a, t, s⟩ (initM cs room n 0 (List.replicate (2 * n) 0)) .nilS ++ []) ++ treeO t s n (List.replicate (2 * n) 0) = [(m, .cells (mCells ⟨m, d, r, a, t, s⟩ (initM cs room n 0 (List.replicate (2 * n) 0)) .nilS) none), (d, AObj.cells (intsA (List.replicate cs.length 0)) none), (r, .cells (intsA (List.replicate cs.length 0)) none), (a, .cells (boolsA (List.replicate cs.length false)) none), (t, .cells [.pv (.int .i64 n), .msl s 0 (2 * n) 1] none), (s, .cells (intsA (List.replicate (2 * n) 0)) none)] := by
      simp only [mObs, e2, treeO, List.append_nil]; rfl
    rw [this]
    exact hS2
  · intro σ' out' ho hsub
    exact ⟨planV cs room picks, σ', .inr ⟨.inr ⟨_, ho, rfl⟩, .inl rfl, trivial⟩, sub_refl _, hK _ hsub⟩
theorem mem_le_sum {cs : List Nat} {c : Nat} (h : c ∈ cs) : c ≤ cs.sum := by
  induction cs with
  | nil => cases h
  | cons x cs ih =>
    rw [List.sum_cons]
    rcases List.mem_cons.1 h with rfl | h
    · omega
    · have := ih h; omega
set_option maxHeartbeats 2000000 in
theorem T24_ok {env : Env} (h44 : env 44 = T44) (h45 : env 45 = T45) (h46 : env 46 = T46) (h47 : env 47 = T47) (args : List AV) (σ : AS) (K : AV → AS → Prop) (X : PV → AS → Prop) (h : T24 args σ K X) : bodyD PS env an24 Try.f24 args σ K X := by
  obtain ⟨l, picks, room, rfl, hp, hpl, hK1, hK2⟩ := h
  rw [← S24_eq env, S24, h44]
  refine ⟨l, room, rfl, ?_⟩
  cases hrs : rightS l room with
  | none =>
    simp only [rightV, go_sem, List.getElem?_cons_zero, List.getElem?_cons_succ, Bool.not_false, if_true]
    exact ⟨noPlan, σ, .inr ⟨.inr ⟨_, rfl, rfl⟩, .inl rfl, trivial⟩, sub_refl _, hK1 hrs⟩
  | some n =>
    obtain ⟨cs, r, rfl, rfl, hk1, hk4, hr, hr2, rfl, hsum⟩ := right_some hrs
    have hK := hK2 cs r rfl rfl (by rw [hrs]; simp) hk1 hk4 hr hr2 hsum
    have hcl : (ints cs).length = cs.length := ints_len cs
    have hcs : ∀ c ∈ cs, c ≤ 1048576 := fun c hc => Nat.le_trans (mem_le_sum hc) hsum
    rw [hcl]
    simp only [rightV, lock_eq, ext_tuple, List.getElem?_cons_zero, List.getElem?_cons_succ, someEx, un_not, cond_bool, Bool.not_true, Bool.false_eq_true, if_false, T.lnl22]
    have hS := Sep.start σ
    repeat' (first
      | exact trivial
      | (refine mk22S hS hk4 ?_; intro _ _ hS)
      | (refine mk66S hS hk4 ?_; intro _ _ hS)
      | (refine call45S h45 hS hk1 hk4 ?_; intro _ _ _ _ hn hS)
      | exact tail24 h46 h47 hr hr2 hk1 hk4 hsum hp hpl hcs hK hS hn (by intro p hp; simp only [List.mem_cons, List.not_mem_nil, or_false] at hp ⊢; rcases hp with rfl | rfl | rfl | rfl | rfl <;> first | exact .inl rfl | exact .inr (.inl rfl) | exact .inr (.inr (.inl rfl)) | exact .inr (.inr (.inr (.inl rfl))) | exact .inr (.inr (.inr (.inr rfl)))) (by have := hS.nodup; simp at this ⊢; omega)
      | refine And.intro ?_ ?_)
end Go.AD.Sc
