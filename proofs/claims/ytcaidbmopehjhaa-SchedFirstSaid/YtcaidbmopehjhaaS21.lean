/- sched: the document's Plan, its loops, and the whole. -/
import Derived.Test.YtcaidbmopehjhaaS20
set_option linter.unusedVariables false
set_option linter.unusedSimpArgs false
set_option maxRecDepth 100000
namespace Go.AD.Sc
open Go.Proofs
theorem loop21 {env : Env} {cs : List Nat} {room : Nat} {picks : List Int} {σ0 σ : AS} {I : RIds} (hr : 1 ≤ room) (hr2 : room ≤ 4096) (hcs : ∀ c ∈ cs, c ≤ 1048576) (hk : cs.length ≤ 64) (hsum : cs.sum ≤ 1048576) (hp : ∀ c ∈ picks, in64 c) (hpl : picks.length ≤ 100000000000000)
    {K : AV → AS → Prop} {X : PV → AS → Prop} (hA : RefAt σ0 σ I cs (st0 cs) .nilS [])
    (hK : ∀ σ' out', toPV out' = some (.lst (plan cs room (pickAt picks)).1.length (flatS (plan cs room (pickAt picks)).1)) → σ0.sub σ' → retV (.tuple [out', .pv (.int .i64 (plan cs room (pickAt picks)).2)]) σ' K) :
    ∃ I21 : Nat → List AV → AS → Prop, (∃ m, I21 m [.pv (.lst cs.length (i64s (ints cs))), .pv (.int .i64 room), .pv (.lst picks.length (i64s picks)), .pv (.int .i64 cs.length), .msl I.d 0 cs.length 1, .msl I.s 0 cs.length 1, .msl I.a 0 cs.length 1, .nilS, .pv (.int .i64 (0 : Nat)), .pv (.int .i64 (0 : Nat)), .pv (.int .i64 (0 : Nat)), .nilS] σ) ∧ ∀ (m : Nat) (x0 x1 x2 x3 x4 x5 x6 x7 x8 x9 x10 x11 : AV), ∀ σ, I21 m [x0, x1, x2, x3, x4, x5, x6, x7, x8, x9, x10, x11] σ →
      L25_21 env I21 m x0 x1 x2 x3 x4 x5 x6 x7 x8 x9 x10 x11 σ K X := by
  have hV0 : Inv cs room (st0 cs) := Inv.start (by omega)
  have htot : total cs = cs.sum + 3 * cs.length := rfl
  have hc : ∀ i, cs.getD i 0 ≤ 1048576 := by
    intro i
    by_cases h : i < cs.length
    · rw [List.getD_eq_getElem?_getD, List.getElem?_eq_getElem h]; exact hcs _ (List.getElem_mem h)
    · rw [List.getD_eq_getElem?_getD, List.getElem?_eq_none (by omega)]; exact Nat.zero_le _
  refine lp25_21 (fun (a : Nat × St × List Stp × Nat × AV × AV) _ => total cs - a.1) (fun a τ => a.1 ≤ total cs ∧ Inv cs room a.2.1 ∧ pot a.2.1 = a.1 ∧ a.2.2.1.length = a.1 ∧
      plan cs room (pickAt picks) = (a.2.2.1 ++ (planL cs room (pickAt picks) (total cs - a.1) a.1 a.2.1).1, max a.2.2.2.1 (planL cs room (pickAt picks) (total cs - a.1) a.1 a.2.1).2) ∧
      ∃ ol, RefAt σ0 τ I cs a.2.1 a.2.2.2.2.1 ol ∧ RowV PS 42 a.2.2.2.2.2 ol a.2.2.1.length (flatS a.2.2.1))
    (fun a => a.2.2.2.2.1) (fun a => .pv (.int .i64 a.2.1.next)) (fun a => .pv (.int .i64 a.2.1.held)) (fun a => .pv (.int .i64 a.2.2.2.1)) (fun a => a.2.2.2.2.2) (0, st0 cs, [], 0, .nilS, .nilS)
    ⟨by simp, hV0, by simp [pot, st0], rfl, by simp [plan], [], hA, RowV.nil PS 42⟩ ?_
  rintro ⟨j, st, acc, most, wv, ov⟩ τ ⟨hj, V, hpot, hacc, hplan, ol, hA, hO⟩
  simp only at hj V hpot hacc hplan hA hO
  unfold L25_21
  simp (disch := omega) only [go_sem]
  refine iteI (fun hnx => ?_) (fun hnx => ?_)
  · have hstep := V.step (sel_mem V hr hnx (pickAt picks) j) hnx
    have hjt : j < total cs := by
      have h2 := pot_le hstep.1
      omega
    refine loop24 (ol := ol) V hnx (by rw [List.append_nil]; exact hA) hk hr2 hcs ?_
    intro τ' mv ml hA' hM
    have hgo := V.go hr hnx
    have hol : (opts cs room st).length ≤ 1000 := by
      have := optsTo_len cs room st cs.length
      have e : (opts cs room st).length = (optsTo cs room st cs.length).length + ((tList st).length + (fList st).length) := by
        unfold opts optsTo wList
        rw [List.length_append, List.length_append]
      have h1 : (tList st).length ≤ 1 := by unfold tList; split <;> simp
      have h2 : (fList st).length ≤ 1 := by unfold fList; split <;> simp
      omega
    refine pick34 hO.toPV hM.toPV hgo (by omega) (by omega) hp hpl ?_
    refine step37 V hnx hA' hO hM (Nat.mod_lt _ hgo) hk hr2 hc (by omega) ?_
    intro τ2 wv' out' ol' s hs hA2 hO2
    rw [hacc] at hs
    have hs : s = sel cs room (pickAt picks) j st := hs
    subst hs
    refine back (j + 1, app st (sel cs room (pickAt picks) j st), acc ++ [sel cs room (pickAt picks) j st], max most (app st (sel cs room (pickAt picks) j st)).held, wv', out') rfl (by simp only; omega)
      ⟨by simp only; omega, hstep.1, by simp only; omega, by simp [hacc], ?_, ol', hA2, hO2⟩
    simp only
    rw [hplan]
    have e : total cs - j = (total cs - (j + 1)) + 1 := by omega
    rw [e, planL, if_pos hnx]
    simp only [List.append_assoc, List.singleton_append, Prod.mk.injEq, true_and]
    omega
  · have e : (planL cs room (pickAt picks) (total cs - j) j st) = ([], 0) := by
      cases h : total cs - j with
      | zero => rfl
      | succ f => rw [planL, if_neg hnx]
    rw [e] at hplan
    simp only [List.append_nil, Nat.max_zero] at hplan
    obtain ⟨wl, _, hS⟩ := hA.row
    have := hK τ ov (by rw [hplan]; exact hO.toPV) hS.sub
    rw [hplan] at this
    exact this
def T25 : Tr := fun args σ K _ => ∃ (l picks : List Int) (room : Int), args = [.pv (.lst l.length (i64s l)), .pv (.int .i64 room), .pv (.lst picks.length (i64s picks))] ∧ (∀ c ∈ picks, in64 c) ∧ picks.length ≤ 100000000000000 ∧
  (rightS l room = none → K noPlan σ) ∧ (rightS l room ≠ none → l.length ≤ 64) ∧
  (∀ (cs : List Nat) (r : Nat), l = ints cs → room = r → rightS l room ≠ none → 1 ≤ cs.length → cs.length ≤ 4096 → 1 ≤ r → r ≤ 4096 → cs.sum ≤ 1048576 → ∀ σ', σ.sub σ' → K (planV cs r picks) σ')
theorem T25_ok {env : Env} (args : List AV) (σ : AS) (K : AV → AS → Prop) (X : PV → AS → Prop) (h : T25 args σ K X) : bodyD PS env an25 Try.f25 args σ K X := by
  obtain ⟨l, picks, room, rfl, hp, hpl, hK1, hl64, hK2⟩ := h
  rw [← S25_eq env, S25]
  have bad : rightS l room = none → retV (.tuple [.nilS, .pv (.int .i64 0)]) σ K := fun h => ⟨noPlan, σ, .inr ⟨.inr ⟨_, rfl, rfl⟩, .inl rfl, trivial⟩, sub_refl _, hK1 h⟩
  have bad1 : (l.length < 1 ∨ 4096 < l.length ∨ room < 1 ∨ 4096 < room) → rightS l room = none := fun h => by rw [rightS, if_pos h]
  simp only [go_sem]
  refine iteI (fun h1 => bad (bad1 (.inl (by omega)))) (fun h1 => ?_)
  refine iteI (fun h2 => bad (bad1 (.inr (.inl (by omega))))) (fun h2 => ?_)
  refine iteI (fun h3 => bad (bad1 (.inr (.inr (.inl (by omega)))))) (fun h3 => ?_)
  refine iteI (fun h4 => bad (bad1 (.inr (.inr (.inr (by omega)))))) (fun h4 => ?_)
  have hrs : rightS l room = sumOk l 0 := by rw [rightS, if_neg (by omega)]
  unfold J25_4
  refine lp25_6 (fun (a : Nat × Int) _ => l.length - a.1) (fun a τ => τ = σ ∧ a.1 ≤ l.length ∧ 0 ≤ a.2 ∧ a.2 ≤ 1048576 ∧ sumOk l 0 = sumOk (l.drop a.1) a.2) (fun a => .pv (.int .i64 a.2)) (fun a => .pv (.int .i64 a.1)) (0, 0) ⟨rfl, by simp, by simp, by simp, by simp⟩ ?_
  rintro ⟨i, n⟩ τ ⟨rfl, hi, hn0, hn1, he⟩
  simp only at hi hn0 hn1 he
  have il : (i64s l).length = l.length * 1 := by simp [i64s]
  unfold L25_6 J25_10
  simp (disch := omega) only [go_sem]
  refine iteI (fun hlt => ?_) (fun hge => ?_)
  · have hd : l.drop i = l.getD i 0 :: l.drop (i + 1) := drop_consD hlt
    rw [hd, sumOk] at he
    simp (disch := omega) only [go_sem, T.ixl22, i64s_getD]
    refine iteI (fun h5 => ?_) (fun h5 => ?_)
    · rw [if_pos (by omega)] at he
      exact bad (by rw [hrs, he])
    refine iteI (fun h6 => ?_) (fun h6 => ?_)
    · rw [if_pos (by omega)] at he
      exact bad (by rw [hrs, he])
    refine iteI (fun h7 => ?_) (fun h7 => ?_)
    · rw [if_pos (by omega)] at he
      exact bad (by rw [hrs, he])
    rw [if_neg (by omega)] at he
    exact back (i + 1, n + l.getD i 0) rfl (by simp only; omega) ⟨rfl, by simp only; omega, by simp only; omega, by simp only; omega, he⟩
  · rw [List.drop_eq_nil_of_le (by omega), sumOk] at he
    have hne : rightS l room = some n := by rw [hrs, he]
    have h64 := hl64 (by rw [hne]; simp)
    obtain ⟨cs, r, rfl, rfl, hk1, hk4, hr, hr2, rfl, hsum⟩ := right_some hne
    have hcl : (ints cs).length = cs.length := ints_len cs
    rw [hcl] at h64 ⊢
    have hK := hK2 cs r rfl rfl (by rw [hne]; simp) hk1 hk4 hr hr2 hsum
    have hcs : ∀ c ∈ cs, c ≤ 1048576 := fun c hc => Nat.le_trans (mem_le_sum hc) hsum
    refine mk22S (Sep.start τ) hk4 ?_
    intro d σ1 hS1
    refine mk66S hS1 hk4 ?_
    intro s σ2 hS2
    refine mk66S hS2 hk4 ?_
    intro a σ3 hS3
    refine loop21 (σ0 := τ) (I := ⟨d, s, a⟩) hr hr2 hcs h64 hsum hp hpl ⟨[], RowV.nil PS 3, ?_⟩ ?_
    · have e1 : intsA (ints (st0 cs).done) = intsA (List.replicate cs.length 0) := by simp [st0, ints]
      have e2 : ((st0 cs).stg.map fun x => decide (1 ≤ x)) = List.replicate cs.length false := by simp [st0]
      have e3 : ((st0 cs).stg.map fun x => decide (x = 2)) = List.replicate cs.length false := by simp [st0]
      rw [e1, e2, e3]
      refine hS3.perm ?_
      simp only [List.append_nil, List.nil_append]
      exact (List.Perm.swap _ _ _).trans ((List.Perm.cons _ (List.Perm.swap _ _ _)).trans ((List.Perm.swap _ _ _).trans (List.Perm.refl _))) |>.trans (by exact List.Perm.refl _)
    · intro σ' out' ho hsub
      exact ⟨planV cs r picks, σ', .inr ⟨.inr ⟨_, ho, rfl⟩, .inl rfl, trivial⟩, sub_refl _, hK _ hsub⟩
end Go.AD.Sc
