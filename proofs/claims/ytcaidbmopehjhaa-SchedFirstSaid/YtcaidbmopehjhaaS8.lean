/- sched.Plan's main loop. -/
import Derived.Test.YtcaidbmopehjhaaS7
set_option linter.unusedVariables false
set_option linter.unusedSimpArgs false
set_option maxRecDepth 100000
namespace Go.AD.Sc
open Go.Proofs
def stepPV (s : Stp) : List PV := [.str (names s.1), .int .i64 s.2.1, .int .i64 s.2.2]
def flatS : List Stp → List PV
  | [] => []
  | s :: l => stepPV s ++ flatS l
theorem flatS_app (a b : List Stp) : flatS (a ++ b) = flatS a ++ flatS b := by
  induction a with
  | nil => rfl
  | cons s a ih => simp [flatS, ih]
theorem flatS_len (a : List Stp) : (flatS a).length = a.length * 3 := by
  induction a with
  | nil => rfl
  | cons s a ih => simp [flatS, stepPV, ih]; omega
def pickAt (picks : List Int) (j : Nat) : Nat := if j < picks.length then (max (picks.getD j 0) 0).toNat else 0
theorem rowT36 : RowT PS 36 42 := ⟨T.el36, by rw [T.sz42]; decide, _, T.zo42, by rw [T.sz42]; rfl⟩
/-- The main loop, from a state on. -/
theorem main15 {env : Env} (h47 : env 47 = T47) {cs : List Nat} {room : Nat} {picks : List Int} {σ0 : AS} {I : Ids} (hr : 1 ≤ room) (hcs : ∀ c ∈ cs, c ≤ 1048576) (hk1 : 1 ≤ cs.length) (hk4 : cs.length ≤ 4096) (hsum : cs.sum ≤ 1048576) (hp : ∀ c ∈ picks, in64 c) (hpl : picks.length ≤ 100000000000000)
    {K : AV → AS → Prop} {X : PV → AS → Prop} {σ : AS} {M : Ms} {out : AV} {ol : Objs} (R : Rel cs room (st0 cs) M) (hO : RowV PS 42 out ol 0 []) (hA : MachAt (σ0.adds ol) σ I M (leafF M)) (hn : (ol.map (·.1)).Nodup) (h0 : ∀ p ∈ ol, σ0 p.1 = none)
    (hK : ∀ σ' out', toPV out' = some (.lst (plan cs room (pickAt picks)).1.length (flatS (plan cs room (pickAt picks)).1)) → σ0.sub σ' → retV (.tuple [out', .pv (.int .i64 (plan cs room (pickAt picks)).2)]) σ' K) :
    ∃ I15 : Nat → List AV → AS → Prop, (∃ m, I15 m [.pv (.lst picks.length (i64s picks)), .pv (.int .i64 cs.length), .addr I.m 0, out, .pv (.int .i64 (0 : Nat))] σ) ∧ ∀ (m15 : Nat) (x0 x1 x2 x3 x4 : AV), ∀ σ12, I15 m15 [x0, x1, x2, x3, x4] σ12 → L24_15 env I15 m15 x0 x1 x2 x3 x4 σ12 K X := by
  have hV0 : Inv cs room (st0 cs) := Inv.start (by omega)
  refine lp24_15 (fun (a : Nat × St × List Stp × Nat × AV) _ => total cs - a.1) (fun a τ => a.1 ≤ total cs ∧ Inv cs room a.2.1 ∧ pot a.2.1 = a.1 ∧ a.2.2.1.length = a.1 ∧ a.2.2.2.1 ≤ cs.length ∧
      plan cs room (pickAt picks) = (a.2.2.1 ++ (planL cs room (pickAt picks) (total cs - a.1) a.1 a.2.1).1, max a.2.2.2.1 (planL cs room (pickAt picks) (total cs - a.1) a.1 a.2.1).2) ∧
      ∃ M ol, Rel cs room a.2.1 M ∧ RowV PS 42 a.2.2.2.2 ol a.2.2.1.length (flatS a.2.2.1) ∧ MachAt (σ0.adds ol) τ I M (leafF M) ∧ (ol.map (·.1)).Nodup ∧ (∀ p ∈ ol, σ0 p.1 = none))
    (fun a => a.2.2.2.2) (fun a => .pv (.int .i64 a.2.2.2.1)) (0, st0 cs, [], 0, out)
    ⟨by simp, hV0, by simp [pot, st0], rfl, by simp, by simp [plan], M, ol, R, hO, hA, hn, h0⟩ ?_
  rintro ⟨j, st, acc, held, ov⟩ τ ⟨hj, V, hpot, hacc, hheld, hplan, M, ol, R, hO, hA, hn, h0⟩
  simp only at hj V hpot hacc hheld hplan R hO
  obtain ⟨ok, ⟨wv, wl, hR, hS⟩, hT, hB⟩ := id hA
  have hm : τ I.m = some (.cells (mCells I M wv) none) := hS.get (by simp [mObs])
  have htot : total cs = cs.sum + 3 * cs.length := rfl
  have hnb := V.nx
  unfold L24_15
  simp (disch := omega) only [go_sem, hm, ldM_cells, mCells, List.getElem?_cons_zero, List.getElem?_cons_succ, T.lnv36 hO.toPV, R.hnx]
  split
  · rename_i hnx
    have hjt : j < total cs := by
      have h1 := V.step (sel_mem V hr hnx (pickAt picks) j) hnx
      have h2 := pot_le h1.1
      omega
    have hstep := V.step (sel_mem V hr hnx (pickAt picks) j) hnx
    have j19 : J24_19 env (AD.Inv (fun a : Nat × St × List Stp × Nat × AV => [.pv (.lst picks.length (i64s picks)), .pv (.int .i64 cs.length), .addr I.m 0, a.2.2.2.2, .pv (.int .i64 a.2.2.2.1)]) (fun a _ => total cs - a.1) (fun a τ => a.1 ≤ total cs ∧ Inv cs room a.2.1 ∧ pot a.2.1 = a.1 ∧ a.2.2.1.length = a.1 ∧ a.2.2.2.1 ≤ cs.length ∧
      plan cs room (pickAt picks) = (a.2.2.1 ++ (planL cs room (pickAt picks) (total cs - a.1) a.1 a.2.1).1, max a.2.2.2.1 (planL cs room (pickAt picks) (total cs - a.1) a.1 a.2.1).2) ∧
      ∃ M ol, Rel cs room a.2.1 M ∧ RowV PS 42 a.2.2.2.2 ol a.2.2.1.length (flatS a.2.2.1) ∧ MachAt (σ0.adds ol) τ I M (leafF M) ∧ (ol.map (·.1)).Nodup ∧ (∀ p ∈ ol, σ0 p.1 = none))) (total cs - j)
      (.pv (.lst picks.length (i64s picks))) (.pv (.int .i64 cs.length)) (.addr I.m 0) ov (.pv (.int .i64 held)) (.pv (.int .i64 (pickAt picks j : Nat))) τ K X := by
      unfold J24_19
      have hpk : pickAt picks j < 9223372036854775808 := by
        unfold pickAt
        split
        · rename_i h
          have := hp _ (getD_mem (l := picks) h)
          unfold in64 at this
          omega
        · omega
      refine step_call h47 hr hk4 R V hA hnx hpk ?_
      intro σ2 M2 R2 hA2
      obtain ⟨ok2, ⟨wv2, wl2, hR2, hS2⟩, hT2, hB2⟩ := hA2
      have hS3 : Sep σ0 σ2 (ol ++ ((mObs I M2 wv2 ++ wl2) ++ treeO I.t I.s M2.n M2.sum)) := hS2.pop hn h0
      simp only [lock_eq]
      have hsv : stpV (sel cs room (pickAt picks) j st) = .agg ((stepPV (sel cs room (pickAt picks) j st)).map .pv) := rfl
      rw [hsv, build1 (ys := stepPV (sel cs room (pickAt picks) j st)) rowT36 T.hT42 (by rw [T.sz42]; rfl) rfl rfl (by rw [T.sz42]; decide)]
      refine hO.append (l := ((mObs I M2 wv2 ++ wl2) ++ treeO I.t I.s M2.n M2.sum)) (hS3.perm List.perm_append_comm) rowT36 rfl (by rw [T.sz42]; rfl) (by omega) (by rw [T.by42]; omega) (by omega) ?_
      intro ov3 ol3 σ3 hO3 hS4
      have hS5 := hS4.perm (List.perm_append_comm)
      have hn3 : (ol3.map (·.1)).Nodup := by
        have := hS5.nodup
        rw [List.map_append, List.nodup_append] at this
        exact this.1
      have h03 : ∀ p ∈ ol3, σ0 p.1 = none := fun p hp => hS5.new p (by simp [hp])
      have hS6 := hS5.push
      have hm3 := hS6.get (i := I.m) (o := .cells (mCells I M2 wv2) none) (by simp [mObs])
      have hV2 := hstep.1
      have hhb := held_bd hV2
      simp (disch := omega) only [go_sem, hm3, ldM_cells, mCells, List.getElem?_cons_zero, List.getElem?_cons_succ, R2.hhe]
      refine back (j + 1, app st (sel cs room (pickAt picks) j st), acc ++ [sel cs room (pickAt picks) j st], max held (app st (sel cs room (pickAt picks) j st)).held, ov3) rfl (by simp only; omega)
        ⟨by simp only; omega, hV2, by simp only; omega, by simp [hacc], by simp only; omega, ?_, M2, ol3, R2, ?_, ⟨ok2, ⟨wv2, wl2, hR2, hS6⟩, hT2, hB2⟩, hn3, h03⟩
      · simp only
        rw [hplan]
        have e : total cs - j = (total cs - (j + 1)) + 1 := by omega
        rw [e, planL, if_pos hnx]
        simp only [List.append_assoc, List.singleton_append, Prod.mk.injEq, true_and]
        omega
      · simp only
        rw [flatS_app, List.length_append]
        have : flatS [sel cs room (pickAt picks) j st] = stepPV (sel cs room (pickAt picks) j st) := by simp [flatS]
        rw [this]
        exact hO3
    have il : (i64s picks).length = picks.length * 1 := by simp [i64s]
    split
    · rename_i hlt
      rw [hacc] at hlt ⊢
      simp (disch := omega) only [go_sem, T.ixl22, i64s_getD]
      have e : max (picks.getD j 0) 0 = ((pickAt picks j : Nat) : Int) := by unfold pickAt; rw [if_pos hlt]; omega
      rw [e]
      exact j19
    · rename_i hlt
      rw [hacc] at hlt
      have e : (0 : Int) = ((pickAt picks j : Nat) : Int) := by unfold pickAt; rw [if_neg hlt]; rfl
      rw [e]
      exact j19
  · rename_i hnx
    have e : (planL cs room (pickAt picks) (total cs - j) j st) = ([], 0) := by
      cases h : total cs - j with
      | zero => rfl
      | succ f => rw [planL, if_neg hnx]
    rw [e] at hplan
    simp only [List.append_nil, Nat.max_zero] at hplan
    have := hK τ ov (by rw [hplan]; exact hO.toPV) (by
      have h1 := hA.sep
      obtain ⟨_, _, _, h2⟩ := h1
      exact (h2.pop hn h0).sub)
    rw [hplan] at this
    exact this
end Go.AD.Sc
