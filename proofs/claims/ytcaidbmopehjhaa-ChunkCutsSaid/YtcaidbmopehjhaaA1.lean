/- chunk.Cut and few: what they compute. -/
import Derived.Test.YtcaidbmopehjhaaG1
import Derived.Test.YtcaidbmopehjhaaAd15
set_option linter.unusedVariables false
namespace Go.AD

/-- What 'few' says. -/
def fewS : List Int → Int → Bool
  | [], _ => true
  | c :: l, n => if c > 200 - n then false else fewS l (n + max c 0)
def few (l : List Int) : Bool := if l.length > 40 then false else fewS l 0
def T23 : Tr := fun args σ K _ => ∃ l : List Int, args = [.pv (.lst l.length (i64s l))] ∧ (∀ c ∈ l, in64 c) ∧ K (.pv (.bool (few l))) σ
theorem T23_ok (args : List AV) (σ : AS) (K : AV → AS → Prop) (X : PV → AS → Prop) (h : T23 args σ K X) : bodyD Go.Proofs.Try.prog env0 an23 Go.Proofs.Try.f23 args σ K X := by
  obtain ⟨l, rfl, hl, h⟩ := h
  rw [← S23_eq env0]
  unfold S23
  simp only [go_sem, gt_iff_lt]
  split
  · rename_i h1
    refine retV_self ?_
    rwa [few, if_pos (by omega)] at h
  · rename_i h1
    rw [few, if_neg (by omega)] at h
    refine ⟨fun m vs τ => τ = σ ∧ ∃ (i : Nat) (n : Int), m + i = l.length ∧ 0 ≤ n ∧ n ≤ 200 ∧ vs = [.pv (.int .i64 n), .pv (.lst l.length (i64s l)), .pv (.int .i64 l.length), .pv (.int .i64 i)] ∧ fewS l 0 = fewS (l.drop i) n, ⟨l.length, rfl, 0, 0, by omega, by omega, by omega, by simp, by simp⟩, ?_⟩
    rintro m a b c d τ ⟨rfl, i, n, hm, hn0, hn1, hv, he⟩
    simp only [List.cons.injEq, and_true] at hv
    obtain ⟨rfl, rfl, rfl, rfl⟩ := hv
    unfold L23_5
    simp only [go_sem]
    split
    · rename_i hi
      have hi : i < l.length := by omega
      have hc : in64 l[i] := hl _ (List.getElem_mem hi)
      have hd : l.drop i = l[i] :: l.drop (i + 1) := List.drop_eq_getElem_cons hi
      refine ⟨by omega, _, i64s_get l i (by omega), ?_⟩
      simp only [go_sem]
      rw [wrap64 (by omega) (by omega)]
      unfold in64 at hc
      split
      · rename_i h2
        rw [he, hd, fewS, if_pos (by omega)] at h
        exact retV_self h
      · rename_i h2
        rw [wrap64 (by omega) (by omega), wrap64 (by omega) (by omega)]
        refine ⟨m - 1, by omega, i + 1, n + max l[i] 0, by omega, by omega, by omega, by simp, ?_⟩
        rw [he, hd, fewS, if_neg (by omega)]
    · rename_i hi
      refine retV_self ?_
      rw [he, List.drop_eq_nil_of_le (by omega), fewS] at h
      exact h
theorem F23 (hm : Go.Proofs.Try.prog.follows .mixedOrders = true) : SoundF Go.Proofs.Try.prog 23 T23 := body_sound hm (env0_ok _) an23 Go.Proofs.Try.func23 Go.Proofs.Try.call23 S23_ok T23_ok
end Go.AD
