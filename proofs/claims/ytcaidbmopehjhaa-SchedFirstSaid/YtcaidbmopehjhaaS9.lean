/- sched.Plan. -/
import Derived.Test.YtcaidbmopehjhaaS8
set_option linter.unusedVariables false
set_option linter.unusedSimpArgs false
set_option maxRecDepth 100000
namespace Go.AD.Sc
open Go.Proofs
theorem sumOk_some : ∀ (l : List Int) (n m : Int), 0 ≤ n → n ≤ 1048576 → sumOk l n = some m → ∃ cs : List Nat, l = ints cs ∧ m = n + cs.sum ∧ m ≤ 1048576
  | [], n, m, h0, h1, h => by
    simp only [sumOk, Option.some.injEq] at h
    exact ⟨[], rfl, by simp; omega, by omega⟩
  | c :: l, n, m, h0, h1, h => by
    rw [sumOk] at h
    split at h
    · cases h
    · rename_i hc
      obtain ⟨cs, e1, e2, e3⟩ := sumOk_some l (n + c) m (by omega) (by omega) h
      refine ⟨c.toNat :: cs, ?_, ?_, e3⟩
      · simp only [ints, List.map_cons] at e1 ⊢
        rw [e1]
        congr 1
        omega
      · simp only [List.sum_cons]
        omega
theorem right_some {l : List Int} {room n : Int} (h : rightS l room = some n) : ∃ (cs : List Nat) (r : Nat), l = ints cs ∧ room = r ∧ 1 ≤ cs.length ∧ cs.length ≤ 4096 ∧ 1 ≤ r ∧ r ≤ 4096 ∧ n = cs.sum ∧ cs.sum ≤ 1048576 := by
  unfold rightS at h
  split at h
  · cases h
  · rename_i hc
    obtain ⟨cs, e1, e2, e3⟩ := sumOk_some l 0 n (by omega) (by omega) h
    have hl : l.length = cs.length := by rw [e1, ints_len]
    exact ⟨cs, room.toNat, e1, by omega, by omega, by omega, by omega, by omega, by omega, by omega⟩
theorem Sep.of_mem {σ0 σ : AS} {L l : Objs} (h : Sep σ0 σ L) (hm : ∀ p ∈ l, p ∈ L) (hn : (l.map (·.1)).Nodup) : Sep σ0 σ l :=
  ⟨h.sub, hn, fun p hp => h.new p (hm p hp), fun p hp => h.here p (hm p hp)⟩
def initM (cs : List Nat) (room n : Nat) (i : Nat) (sum : List Int) : Ms := { cs := ints cs, done := List.replicate cs.length 0, ready := (List.range cs.length).map fun j => if j < i ∧ cs.getD j 0 = 0 then 1 else 0, aside := List.replicate cs.length false, way := [], room := room, next := 0, held := 0, opn := true, n := n, sum := sum }
def initL (i : Nat) : Nat → Int := fun j => if j < i then 1 else 0
theorem rng_getD (f : Nat → Int) (k j : Nat) (h : j < k) : ((List.range k).map f).getD j 0 = f j := by
  simp only [List.getD_eq_getElem?_getD, List.getElem?_map, List.getElem?_range h]
  rfl
theorem rep_getD (k j : Nat) : (List.replicate k (0 : Int)).getD j 0 = 0 := by
  simp only [List.getD_eq_getElem?_getD, List.getElem?_replicate]; split <;> rfl
theorem init_may (cs : List Nat) (room n i : Nat) (sum : List Int) (j : Nat) (hj : j < cs.length) : mayB (initM cs room n i sum) j = (decide (0 < cs.getD j 0) || decide (j < i ∧ cs.getD j 0 = 0)) := by
  unfold mayB initM
  simp only [rep_getD, ints_getD, rng_getD _ _ _ hj, Bool.and_true]
  congr 1
  · rw [decide_eq_decide]; omega
  · rw [decide_eq_decide]
    split <;> simp_all
theorem init_leaf (cs : List Nat) (room n : Nat) (sum : List Int) (j : Nat) : initL cs.length j = leafF (initM cs room n cs.length sum) j := by
  unfold initL leafF
  have e : (initM cs room n cs.length sum).cs.length = cs.length := by simp [initM, ints]
  rw [e]
  by_cases h : j < cs.length
  · rw [if_pos h, if_pos h, init_may _ _ _ _ _ _ h]
    have : (decide (0 < cs.getD j 0) || decide (j < cs.length ∧ cs.getD j 0 = 0)) = true := by
      rcases Nat.eq_zero_or_pos (cs.getD j 0) with h0 | h0
      · simp [-List.getD_eq_getElem?_getD, h0, h]
      · simp [-List.getD_eq_getElem?_getD, h0]
    rw [this]; rfl
  · rw [if_neg h, if_neg h]
theorem init_rel (cs : List Nat) (room n : Nat) (sum : List Int) (hr : 1 ≤ room) : Rel cs room (st0 cs) (initM cs room n cs.length sum) := by
  refine ⟨rfl, ?_, by simp [initM], ?_, by simp [initM], ?_, rfl, rfl, rfl, rfl, ?_⟩
  · simp only [initM, st0, ints, List.map_replicate]; rfl
  · intro i hi
    simp only [initM, st0, rng_getD _ _ _ hi, getD_rep]
    split
    · rename_i h
      exact ⟨fun _ => ⟨h.2.symm, by first | rfl | trivial⟩, fun _ => rfl⟩
    · rename_i h
      constructor
      · intro h2; omega
      · intro h2; exact absurd ⟨hi, h2.1.symm⟩ h
  · intro i hi _
    simp [initM, st0, hi, List.getD_eq_getElem?_getD]
  · show true = decide (0 < room)
    simp; omega
theorem initL_bits (i : Nat) : Bits (initL i) := by
  intro j; unfold initL; split <;> simp
/-- The first loop, and what follows. -/
theorem init7 {env : Env} (h46 : env 46 = T46) (h47 : env 47 = T47) {cs : List Nat} {room n : Nat} {picks : List Int} {σ0 : AS} {I : Ids} (hr : 1 ≤ room) (hr2 : room ≤ 4096) (hk1 : 1 ≤ cs.length) (hk4 : cs.length ≤ 4096) (hsum : cs.sum ≤ 1048576) (hp : ∀ c ∈ picks, in64 c) (hpl : picks.length ≤ 100000000000000)
    (hcs : ∀ c ∈ cs, c ≤ 1048576) (hkn : cs.length ≤ n) (hn8 : n ≤ 8192) (hpw : ∃ h, n = 2 ^ h)
    {K : AV → AS → Prop} {X : PV → AS → Prop} {σ : AS} (hS : Sep σ0 σ ((mObs I (initM cs room n 0 (List.replicate (2 * n) 0)) .nilS ++ []) ++ treeO I.t I.s n (List.replicate (2 * n) 0)))
    (hK : ∀ σ' out', toPV out' = some (.lst (plan cs room (pickAt picks)).1.length (flatS (plan cs room (pickAt picks)).1)) → σ0.sub σ' → retV (.tuple [out', .pv (.int .i64 (plan cs room (pickAt picks)).2)]) σ' K) :
    ∃ I7 : Nat → List AV → AS → Prop, (∃ m, I7 m [.pv (.lst picks.length (i64s picks)), .pv (.int .i64 cs.sum), .pv (.int .i64 cs.length), .addr I.m 0, .pv (.lst cs.length (i64s (ints cs))), .pv (.int .i64 cs.length), .pv (.int .i64 (0 : Nat))] σ) ∧ ∀ (m7 : Nat) (x0 x1 x2 x3 x4 x5 x6 : AV), ∀ σ12, I7 m7 [x0, x1, x2, x3, x4, x5, x6] σ12 → L24_7 env I7 m7 x0 x1 x2 x3 x4 x5 x6 σ12 K X := by
  have hcl : (ints cs).length = cs.length := ints_len cs
  have okI : ∀ i sum, MOk (initM cs room n i sum) := by
    intro i sum
    refine ⟨by simp [initM, ints], by simp [initM, ints], by simp [initM, ints], by simp only [initM]; omega, hn8, hpw, by simp [initM], hr2, ?_, ?_⟩
    · intro c hc
      obtain ⟨x, hx, rfl⟩ := List.mem_map.1 hc
      have := hcs x hx
      omega
    · intro c hc
      have := List.eq_of_mem_replicate hc
      omega
  refine lp24_7 (fun (i : Nat) _ => cs.length - i) (fun i τ => i ≤ cs.length ∧ ∃ sum, MachAt σ0 τ I (initM cs room n i sum) (initL i)) (fun i => .pv (.int .i64 i)) 0 ⟨by omega, _, ⟨okI _ _, ⟨.nilS, [], RowV.nil _ _, hS⟩, ⟨by simp [initM], fun j hj => by show (List.replicate (2 * n) (0 : Int)).getD (n + j) 0 = _; rw [rep_getD]; simp [initL], fun a _ _ => by show (List.replicate (2 * n) (0 : Int)).getD a 0 = (List.replicate (2 * n) (0 : Int)).getD (2 * a) 0 + (List.replicate (2 * n) (0 : Int)).getD (2 * a + 1) 0; rw [rep_getD, rep_getD, rep_getD]; rfl⟩, initL_bits 0⟩⟩ ?_
  rintro i τ ⟨hi, sum, hA⟩
  have hil : (initM cs room n i sum).cs.length = cs.length := hcl
  obtain ⟨ok, ⟨wv, wl, hR, hS⟩, hT, hB⟩ := id hA
  have hm : τ I.m = some (.cells (mCells I (initM cs room n i sum) wv) none) := hS.get (by simp [mObs])
  have hrd : τ I.r = some (.cells (intsA (initM cs room n i sum).ready) none) := hS.get (by simp [mObs])
  have hrl : (initM cs room n i sum).ready.length = cs.length := by simp [initM]
  have il : (i64s (ints cs)).length = cs.length * 1 := by simp [i64s, ints]
  unfold L24_7
  simp (disch := omega) only [go_sem]
  split
  · rename_i hlt
    have nxt : ∀ τ' sum', MachAt σ0 τ' I (initM cs room n (i + 1) sum') (initL i) → env 46 [.addr I.m 0, .pv (.int .i64 i)] τ' (fun t56 σ9 => ∃ m', m' < cs.length - i ∧ AD.Inv (fun i : Nat => [.pv (.lst picks.length (i64s picks)), .pv (.int .i64 cs.sum), .pv (.int .i64 cs.length), .addr I.m 0, .pv (.lst cs.length (i64s (ints cs))), .pv (.int .i64 cs.length), .pv (.int .i64 i)]) (fun i _ => cs.length - i) (fun i τ => i ≤ cs.length ∧ ∃ sum, MachAt σ0 τ I (initM cs room n i sum) (initL i)) m' [.pv (.lst picks.length (i64s picks)), .pv (.int .i64 cs.sum), .pv (.int .i64 cs.length), .addr I.m 0, .pv (.lst cs.length (i64s (ints cs))), .pv (.int .i64 cs.length), .pv (.int .i64 (i + 1 : Nat))] σ9) (panV X) := by
      intro τ' sum' hA'
      rw [h46]
      refine ⟨σ0, I, _, _, i, rfl, hA', by simp only [initM]; omega, ?_⟩
      intro σ2 sum2 hA2
      refine back (i + 1) rfl (by omega) ⟨hlt, sum2, hA2.congr (initL_bits _) ?_⟩
      intro j
      unfold updL initL
      by_cases e : j = i
      · subst e
        rw [if_pos rfl, if_pos (by omega), init_may _ _ _ _ _ _ hlt]
        rcases Nat.eq_zero_or_pos (cs.getD j 0) with h0 | h0
        · simp [-List.getD_eq_getElem?_getD, h0, bitOf]
        · simp [-List.getD_eq_getElem?_getD, h0, bitOf]
      · rw [if_neg e]
        by_cases h : j < i
        · rw [if_pos h, if_pos (by omega)]
        · rw [if_neg h, if_neg (by omega)]
    have hix : ∀ (K : AV → Prop), indexAddrD PS 22 (.pv (.lst cs.length (i64s (ints cs)))) (.pv (.int .i64 i)) K = K (.elemP (i64s (ints cs)) (i * 1)) := fun K => T.ixl22 hlt il
    have hgd : (i64s (ints cs))[i]? = some (.int .i64 ((cs.getD i 0 : Nat) : Int)) := by
      rw [i64s_getD _ i (by omega), ints_getD]
    rw [hix]
    simp (disch := omega) only [go_sem, hgd]
    split
    · rename_i hz
      have hz : cs.getD i 0 = 0 := by simpa [-List.getD_eq_getElem?_getD] using hz
      have hmc : mCells I (initM cs room n i sum) wv = [.pv (.lst (ints cs).length (i64s (ints cs))), .msl I.d 0 (ints cs).length 1, .msl I.r 0 (ints cs).length 1, .msl I.a 0 (ints cs).length 1, wv, .pv (.int .i64 room), .pv (.int .i64 (0 : Nat)), .pv (.int .i64 (0 : Nat)), .addr I.t 0, .pv (.bool true)] := rfl
      rw [hmc] at hm
      have hix2 : ∀ (K : AV → Prop), indexAddrD PS 22 (.msl I.r 0 (ints cs).length 1) (.pv (.int .i64 i)) K = K (.addr I.r (0 + i * 1)) := fun K => T.ixm22 (by omega)
      simp (disch := omega) only [go_sem, hm, hrd, ldM_cells, stM_cells, List.getElem?_cons_zero, List.getElem?_cons_succ, hix2, intsA_len, intsA_set, hrl]
      refine ⟨hlt, ?_⟩
      have hS2 := upR hS ((initM cs room n i sum).ready.set i 1)
      have e : (initM cs room n i sum).ready.set i 1 = (initM cs room n (i + 1) sum).ready := by
        apply List.ext_getElem
        · simp [initM]
        · intro j h1 h2
          simp only [initM, List.getElem_set, List.getElem_map, List.getElem_range]
          by_cases ej : i = j
          · subst ej; rw [if_pos rfl, if_pos ⟨by omega, hz⟩]
          · rw [if_neg ej]
            by_cases hc : j < i ∧ cs.getD j 0 = 0
            · rw [if_pos hc, if_pos ⟨by omega, hc.2⟩]
            · rw [if_neg hc, if_neg (by omega)]
      rw [e] at hS2 ⊢
      exact nxt _ sum ⟨okI _ _, ⟨wv, wl, hR, hS2⟩, hT, hB⟩
    · rename_i hz
      have hz : ¬ cs.getD i 0 = 0 := by simpa [-List.getD_eq_getElem?_getD] using hz
      have e : initM cs room n i sum = initM cs room n (i + 1) sum := by
        unfold initM
        congr 1
        apply List.map_congr_left
        intro j _
        by_cases ej : j = i
        · subst ej; rw [if_neg (fun h => hz h.2), if_neg (fun h => hz h.2)]
        · by_cases hc : j < i ∧ cs.getD j 0 = 0
          · rw [if_pos hc, if_pos ⟨by omega, hc.2⟩]
          · rw [if_neg hc, if_neg (by omega)]
      rw [e] at hA
      exact nxt _ sum hA
  · rename_i hge
    have hie : i = cs.length := by omega
    subst hie
    have hA2 := hA.congr (leafF_bits (initM cs room n cs.length sum)) (init_leaf cs room n sum)
    have e3 : (3 : Int) * ((cs.length : Nat) : Int) = ((3 * cs.length : Nat) : Int) := by omega
    rw [e3]
    simp (disch := omega) only [go_sem]
    have mk : ∀ (m : Nat) (K' : AV → AS → Prop), m ≤ 2000000 → (∀ id, τ id = none → K' (.grow id 0 []) (τ.set id (.front 0 (szOf PS 42) (some 42)))) → makeSliceD PS false τ 36 (.pv (.int .i64 0)) (.pv (.int .i64 m)) K' := by
      intro m K' hm h
      simp only [makeSliceD, T.el36, T.zo42, newRowD]
      refine ⟨T.hT42, by rw [T.sz42]; decide, by decide, by omega, by rw [T.by42]; omega, by omega, by rw [T.sz42]; rfl, ?_⟩
      simpa [toPVs] using h
    refine mk _ _ (by omega) ?_
    intro id hid
    obtain ⟨ok2, ⟨wv2, wl2, hR2, hS2⟩, hT2, hB2⟩ := hA2
    have hS3 := (hS2.alloc hid (.front 0 (szOf PS 42) (some 42))).hide
    exact main15 h47 hr hcs hk1 hk4 hsum hp hpl (init_rel cs room n sum hr) (ol := [(id, .front 0 (szOf PS 42) (some 42))]) ⟨by simp, .inr ⟨id, _, rfl, rfl⟩⟩ ⟨ok2, ⟨wv2, wl2, hR2, hS3⟩, hT2, hB2⟩ (by simp) (by
      intro p hp
      have : p = (id, .front 0 (szOf PS 42) (some 42)) := by simpa using hp
      subst this
      exact (hS2.free hid).1) hK
end Go.AD.Sc
