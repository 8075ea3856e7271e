/- sched: may there be a schedule; a tree of zeros. -/
import Derived.Test.YtcaidbmopehjhaaS4
set_option linter.unusedVariables false
set_option linter.unusedSimpArgs false
set_option maxRecDepth 100000
namespace Go.AD.Sc
open Go.Proofs
def sumOk : List Int → Int → Option Int
  | [], n => some n
  | c :: l, n => if c < 0 ∨ c > 1048576 - n then none else sumOk l (n + c)
def rightS (l : List Int) (room : Int) : Option Int := if l.length < 1 ∨ 4096 < l.length ∨ room < 1 ∨ 4096 < room then none else sumOk l 0
def rightV (o : Option Int) : AV := match o with
  | none => .tuple [.pv (.int .i64 0), .pv (.bool false)]
  | some n => .tuple [.pv (.int .i64 n), .pv (.bool true)]
def T44 : Tr := fun args σ K _ => ∃ (l : List Int) (room : Int), args = [.pv (.lst l.length (i64s l)), .pv (.int .i64 room)] ∧ K (rightV (rightS l room)) σ
theorem T44_ok {env : Env} (args : List AV) (σ : AS) (K : AV → AS → Prop) (X : PV → AS → Prop) (h : T44 args σ K X) : bodyD PS env an44 Try.f44 args σ K X := by
  obtain ⟨l, room, rfl, hK⟩ := h
  rw [← S44_eq env, S44]
  have bad : (l.length < 1 ∨ 4096 < l.length ∨ room < 1 ∨ 4096 < room) → K (.tuple [.pv (.int .i64 0), .pv (.bool false)]) σ := by
    intro h
    rw [rightS, if_pos h] at hK
    exact hK
  simp only [go_sem]
  split
  · exact retV_self (bad (.inl (by omega)))
  split
  · exact retV_self (bad (.inr (.inl (by omega))))
  split
  · exact retV_self (bad (.inr (.inr (.inl (by omega)))))
  split
  · exact retV_self (bad (.inr (.inr (.inr (by omega)))))
  rename_i h1 h2 h3 h4
  rw [rightS, if_neg (by omega)] at hK
  unfold J44_3
  simp only [go_sem]
  refine lp44_5 (fun (a : Nat × Int) _ => l.length - a.1) (fun a τ => τ = σ ∧ a.1 ≤ l.length ∧ 0 ≤ a.2 ∧ a.2 ≤ 1048576 ∧ sumOk l 0 = sumOk (l.drop a.1) a.2) (fun a => .pv (.int .i64 a.2)) (fun a => .pv (.int .i64 a.1)) (0, 0) ⟨rfl, by simp, by simp, by simp, by simp⟩ ?_
  rintro ⟨i, n⟩ τ ⟨rfl, hi, hn0, hn1, he⟩
  simp only at hi hn0 hn1 he
  have il : (i64s l).length = l.length * 1 := by simp [i64s]
  unfold L44_5 J44_9
  simp (disch := omega) only [go_sem]
  split
  · rename_i hlt
    have hd : l.drop i = l.getD i 0 :: l.drop (i + 1) := drop_consD hlt
    rw [he, hd, sumOk] at hK
    simp (disch := omega) only [go_sem, T.ixl22, i64s_getD]
    split
    · rw [if_pos (by omega)] at hK
      exact retV_self hK
    split
    · rw [if_pos (by omega)] at hK
      exact retV_self hK
    · rw [if_neg (by omega)] at hK
      refine back (i + 1, n + l.getD i 0) ?_ (by simp only; omega) ⟨rfl, by simp only; omega, by simp only; omega, by simp only; omega, ?_⟩
      · simp only
      · simp only
        rw [he, hd, sumOk, if_neg (by omega)]
  · rename_i hge
    rw [he, List.drop_eq_nil_of_le (by omega), sumOk] at hK
    exact retV_self hK
def T45 : Tr := fun args σ K _ => ∃ k : Nat, args = [.pv (.int .i64 k)] ∧ 1 ≤ k ∧ k ≤ 4096 ∧ ∀ (t s n h : Nat), n = 2 ^ h → k ≤ n → n ≤ 8192 → σ s = none → (σ.set s (.cells (intsA (List.replicate (2 * n) 0)) none)) t = none → K (.addr t 0) ((σ.set s (.cells (intsA (List.replicate (2 * n) 0)) none)).set t (.cells [.pv (.int .i64 n), .msl s 0 (2 * n) 1] none))
theorem T45_ok {env : Env} (args : List AV) (σ : AS) (K : AV → AS → Prop) (X : PV → AS → Prop) (h : T45 args σ K X) : bodyD PS env an45 Try.f45 args σ K X := by
  obtain ⟨k, rfl, hk1, hk2, hK⟩ := h
  rw [← S45_eq env, S45]
  refine lp45_2 (fun (h : Nat) _ => k - 2 ^ h) (fun h τ => τ = σ ∧ 2 ^ h ≤ 8192 ∧ (2 ^ h < k → 2 ^ h ≤ 4096)) (fun h => .pv (.int .i64 (2 ^ h : Nat))) 0 ⟨rfl, by decide, fun _ => by decide⟩ ?_
  rintro h τ ⟨rfl, hb, hb2⟩
  have hp : 1 ≤ 2 ^ h := Nat.one_le_two_pow
  unfold L45_2
  simp only [go_sem]
  split
  · rename_i hlt
    have e : 2 ^ (h + 1) = 2 ^ h * 2 := Nat.pow_succ 2 h
    simp (disch := omega) only [go_sem]
    refine back (h + 1) (by rw [e]) (by rw [e]; omega) ⟨rfl, by rw [e]; omega, fun h2 => by rw [e] at h2 ⊢; omega⟩
  · rename_i hge
    have e2 : (2 : Int) * ((2 ^ h : Nat) : Int) = ((2 * 2 ^ h : Nat) : Int) := by omega
    rw [e2, wrap64 (by omega) (by omega)]
    refine make_mu (e := 3) T.el22 T.hT3 (by rw [T.sz3]; decide) T.zo3 (by rw [T.sz3]; rfl) rfl (by omega) (by omega) (by rw [T.by3]; omega) (by omega) ?_
    intro s hs
    rw [T.sz3, Int.toNat_natCast, intsA_rep]
    have bd : ∀ (K : AV → Prop), buildD PS 79 [(0, .pv (.int .i64 (2 ^ h : Nat))), (1, .msl s 0 (2 * 2 ^ h) 1)] K = K (.agg [.pv (.int .i64 (2 ^ h : Nat)), .msl s 0 (2 * 2 ^ h) 1]) := by
      intro K
      simp [buildD, buildFill, go_sem, AV.cells, AV.cellOk, setAll]
    rw [bd]
    refine ⟨rfl, ?_⟩
    intro t ht
    exact retV_self (hK t s (2 ^ h) h rfl (by omega) hb hs ht)
end Go.AD.Sc
