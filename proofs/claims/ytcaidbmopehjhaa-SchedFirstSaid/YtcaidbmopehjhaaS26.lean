/- sched: the law SchedWhole, the whole; the functions, one behind the other. -/
import Derived.Test.YtcaidbmopehjhaaS25
set_option linter.unusedVariables false
set_option linter.unusedSimpArgs false
set_option maxRecDepth 100000
namespace Go.AD.Sc
open Go.Proofs
theorem ints_app (a b : List Nat) : ints (a ++ b) = ints a ++ ints b := by simp [ints]
theorem T24_ofN {l picks : List Int} {room : Int} {σ : AS} {K : AV → AS → Prop} {X : PV → AS → Prop} {n : Nat} (hn : n = l.length) (hp : ∀ c ∈ picks, in64 c) (hpl : picks.length ≤ 100000000000000) (hK : ∀ σ', σ.sub σ' → K (outV (planR l room picks)) σ') :
    T24 [.pv (.lst n (i64s l)), .pv (.int .i64 room), .pv (.lst picks.length (i64s picks))] σ K X := by
  subst hn
  exact T24_of hp hpl hK
set_option maxHeartbeats 2000000 in
theorem reg16 {env : Env} {σ : AS} {cs : List Nat} {r : Nat} {pk : Nat → Nat} {K : AV → AS → Prop} {X : PV → AS → Prop} (hr1 : 1 ≤ r) (hc : ∀ i, cs.getD i 0 ≤ 1048576) (hsum : cs.sum ≤ 1048576) (hcl : cs.length ≤ 4096) (hr4 : r ≤ 4096) (hK : ∀ σ', K (.pv (.bool true)) σ') :
    J9_16 env (.pv (.lst cs.length (i64s (ints cs)))) (.pv (.int .i64 r)) (.pv (.lst (plan cs r pk).1.length (flatS (plan cs r pk).1))) σ K X := by
  unfold J9_16
  simp only [lock_eq, T.lnl22]
  have hS := Sep.start σ
  repeat' (first
    | exact trivial
    | (refine mk22S hS hcl ?_; intro _ _ hS)
    | exact loop19 hr1 hc hsum hcl hr4 hS hK
    | exact loop19 hr1 hc hsum hcl hr4 (hS.perm (List.Perm.swap _ _ _)) hK
    | refine And.intro ?_ ?_)
theorem T9_ok {env : Env} (h22 : env 22 = T22) (h24 : env 24 = Tr.wk T24) (args : List AV) (σ : AS) (K : AV → AS → Prop) (X : PV → AS → Prop) (h : T9 args σ K X) : bodyD PS env an9 Try.f9 args σ K X := by
  obtain ⟨l, picks, room, rfl, hl, hp, hll, hpl, hK⟩ := h
  rw [← S9_eq env, S9, h22]
  refine ⟨rfl, fun σ1 _ => ?_⟩
  simp only [go_sem, Bool.not_true, Bool.false_eq_true, if_false]
  refine iteI (fun _ => retV_self (hK _)) (fun g1 => ?_)
  refine iteI (fun _ => retV_self (hK _)) (fun g2 => ?_)
  refine iteI (fun _ => retV_self (hK _)) (fun g3 => ?_)
  refine iteI (fun _ => retV_self (hK _)) (fun g4 => ?_)
  have g1 : l.length ≠ 0 := by simpa using g1
  unfold J9_5
  simp only [go_sem]
  refine lp9_7 (fun (a : Nat × List Nat) _ => l.length - a.1) (fun a τ => τ = σ1 ∧ a.1 ≤ l.length ∧ l.take a.1 = ints a.2 ∧ a.2.sum ≤ 2000) (fun a => .pv (.int .i64 a.2.sum)) (fun a => .pv (.int .i64 a.1)) (0, []) ⟨rfl, by simp, by simp [ints], by simp⟩ ?_
  rintro ⟨i, cs⟩ τ ⟨rfl, hi, he, hs⟩
  simp only at hi he hs
  have il : (i64s l).length = l.length * 1 := by simp [i64s]
  unfold L9_7 J9_11
  simp (disch := omega) only [go_sem]
  refine iteI (fun hlt => ?_) (fun hge => ?_)
  · simp (disch := omega) only [go_sem, T.ixl22, i64s_getD]
    refine iteI (fun _ => retV_self (hK _)) (fun g5 => ?_)
    refine iteI (fun _ => retV_self (hK _)) (fun g6 => ?_)
    obtain ⟨c, hc⟩ : ∃ c : Nat, l.getD i 0 = c := ⟨(l.getD i 0).toNat, by omega⟩
    rw [hc] at g5 g6 ⊢
    simp (disch := omega) only [go_sem]
    refine back (i + 1, cs ++ [c]) ?_ (by simp only; omega) ⟨rfl, by simp only; omega, ?_, ?_⟩
    · simp only [List.sum_append, List.sum_cons, List.sum_nil, Nat.add_zero]
    · simp only
      rw [take_snocD (d := 0) hlt, he, ints_app, hc]; rfl
    · simp only [List.sum_append, List.sum_cons, List.sum_nil, Nat.add_zero]
      omega
  · have : i = l.length := by omega
    subst this
    rw [List.take_length] at he
    subst he
    obtain ⟨r, rfl⟩ : ∃ r : Nat, room = r := ⟨room.toNat, by omega⟩
    rw [ints_len] at g1 g2 hll ⊢
    have hne := right_of (cs := cs) (r := r) (by omega) (by omega) (by omega) (by omega) (by omega)
    have e := planR_eq (room := (r : Int)) picks hne
    have e2 : csOf (ints cs) = cs := ints_back cs
    rw [e2, Int.toNat_natCast] at e
    rw [h24]
    refine Tr.wk_same (T24_ofN (ints_len cs).symm hp hpl ?_)
    · intro σ3 _
      rw [e]
      have hlen := plan_len (cs := cs) (room := r) (by omega) (pickAt picks)
      have hmost := plan_most (cs := cs) (room := r) (by omega) (by omega) (pickAt picks)
      have htot : total cs = cs.sum + 3 * cs.length := rfl
      have hc : ∀ i, cs.getD i 0 ≤ 1048576 := by
        intro i
        by_cases h : i < cs.length
        · rw [List.getD_eq_getElem?_getD, List.getElem?_eq_getElem h]
          have := mem_le_sum (List.getElem_mem h)
          simp only [Option.getD_some]; omega
        · rw [List.getD_eq_getElem?_getD, List.getElem?_eq_none (by omega)]; exact Nat.zero_le _
      simp (disch := omega) only [go_sem, outV, List.getElem?_cons_zero, List.getElem?_cons_succ]
      refine iteI (fun h1 => ?_) (fun _ => ?_)
      · exfalso
        simp only [bne_iff_ne, ne_eq] at h1
        omega
      refine iteI (fun h1 => by omega) (fun _ => ?_)
      refine iteI (fun h1 => by omega) (fun _ => ?_)
      exact reg16 (by omega) hc (by omega) (by omega) (by omega) hK
abbrev HM : Prop := Go.Proofs.Try.prog.follows .mixedOrders = true
theorem F23 (hm : HM) : SoundF PS 23 T23 := body_sound hm (env0_ok _) an23 Try.func23 Try.call23 S23_ok T23_ok
theorem F55 (hm : HM) : SoundF PS 55 T55 := body_sound hm (env0_ok _) an55 Try.func55 Try.call55 S55_ok T55_ok
theorem F57 (hm : HM) : SoundF PS 57 T57 := body_sound hm (env0_ok _) an57 Try.func57 Try.call57 S57_ok T57_ok
theorem F44 (hm : HM) : SoundF PS 44 T44 := body_sound hm (env0_ok _) an44 Try.func44 Try.call44 S44_ok T44_ok
theorem F45 (hm : HM) : SoundF PS 45 T45 := body_sound hm (env0_ok _) an45 Try.func45 Try.call45 S45_ok T45_ok
theorem F26 (hm : HM) : SoundF PS 26 T26 := body_sound hm (env0_ok _) an26 Try.func26 Try.call26 S26_ok T26_ok
theorem F25 (hm : HM) : SoundF PS 25 T25 := body_sound hm (env0_ok _) an25 Try.func25 Try.call25 S25_ok T25_ok
def envS1 : Env := (((((env0.add 23 T23).add 55 T55).add 57 T57).add 44 T44).add 45 T45)
theorem envS1_ok (hm : HM) : EnvOk PS envS1 := EnvOk.add (EnvOk.add (EnvOk.add (EnvOk.add (EnvOk.add (env0_ok _) (F23 hm)) (F55 hm)) (F57 hm)) (F44 hm)) (F45 hm)
theorem F46 (hm : HM) : SoundF PS 46 T46 := body_sound hm (envS1_ok hm) an46 Try.func46 Try.call46 S46_ok (T46_ok rfl)
def envS2 : Env := (envS1.add 46 T46)
theorem envS2_ok (hm : HM) : EnvOk PS envS2 := EnvOk.add (envS1_ok hm) (F46 hm)
theorem F58 (hm : HM) : SoundF PS 58 T58 := body_sound hm (envS2_ok hm) an58 Try.func58 Try.call58 S58_ok (T58_ok rfl)
def envS3 : Env := (envS2.add 58 T58)
theorem envS3_ok (hm : HM) : EnvOk PS envS3 := EnvOk.add (envS2_ok hm) (F58 hm)
theorem F56 (hm : HM) : SoundF PS 56 T56 := body_sound hm (envS3_ok hm) an56 Try.func56 Try.call56 S56_ok (T56_ok rfl rfl)
def envS4 : Env := (envS3.add 56 T56)
theorem envS4_ok (hm : HM) : EnvOk PS envS4 := EnvOk.add (envS3_ok hm) (F56 hm)
theorem F47 (hm : HM) : SoundF PS 47 T47 := body_sound hm (envS4_ok hm) an47 Try.func47 Try.call47 S47_ok (T47_ok rfl rfl rfl)
def envS5 : Env := (envS4.add 47 T47)
theorem envS5_ok (hm : HM) : EnvOk PS envS5 := EnvOk.add (envS4_ok hm) (F47 hm)
theorem F24 (hm : HM) : SoundF PS 24 T24 := body_sound hm (envS5_ok hm) an24 Try.func24 Try.call24 S24_ok (T24_ok rfl rfl rfl rfl)
def envS6 : Env := (((envS5.add 24 (Tr.wk T24)).add 25 (Tr.wk T25)).add 26 (Tr.wk T26))
theorem envS6_ok (hm : HM) : EnvOk PS envS6 := EnvOk.add (EnvOk.add (EnvOk.add (envS5_ok hm) (F24 hm).wk) (F25 hm).wk) (F26 hm).wk
theorem F22 (hm : HM) : SoundF PS 22 T22 := body_sound hm (envS6_ok hm) an22 Try.func22 Try.call22 S22_ok (T22_ok rfl)
def envS7 : Env := (envS6.add 22 T22)
theorem envS7_ok (hm : HM) : EnvOk PS envS7 := EnvOk.add (envS6_ok hm) (F22 hm)
theorem F8 (hm : HM) : SoundF PS 8 T8 := body_sound hm (envS7_ok hm) an8 Try.func8 Try.call8 S8_ok (T8_ok rfl rfl rfl rfl rfl)
theorem F9 (hm : HM) : SoundF PS 9 T9 := body_sound hm (envS7_ok hm) an9 Try.func9 Try.call9 S9_ok (T9_ok rfl rfl)
theorem F10 (hm : HM) : SoundF PS 10 T10 := body_sound hm (envS7_ok hm) an10 Try.func10 Try.call10 S10_ok (T10_ok rfl rfl rfl rfl)
end Go.AD.Sc
