/- octet: where a text stands. -/
import Derived.Test.YtcaidbmopehjhaaO7
import Derived.Test.YtcaidbmopehjhaaSh
set_option linter.unusedVariables false
set_option maxRecDepth 100000
namespace Go.AD
open Go.Proofs RowKit
def T51 : Tr := fun args σ K _ => ∃ s t : List UInt8, args = [.pv (.str s), .pv (.str t)] ∧ s.length ≤ 5000 ∧ K (.pv (.int .i64 (Lib.index s t))) σ
theorem F51 : SoundF Try.prog 51 T51 := by
  rintro w0 hS ρ σ w args us K X H hr ⟨s, t, rfl, hs, hK⟩
  obtain ⟨u, us', rfl, hu, hr⟩ := hr.uncons
  obtain ⟨v, us'', rfl, hv, hnil⟩ := hr.uncons
  obtain rfl : us'' = [] := hnil.nil_inv
  rw [relStr hu, relStr hv]
  refine ⟨Try.call51 _ w, ?_⟩
  obtain ⟨m, hm⟩ := Try.laysM143.s1_3 w0 hS
  have hsz : 0 < w0.heap.size := by
    rcases Nat.eq_zero_or_pos w0.heap.size with h | h
    · exfalso
      unfold World.cell? at hm
      simp [h] at hm
    · exact h
  have hm' : w.cell? ⟨0, 0, none⟩ = some (.int .i64 m) := (H.below.cell (p := ⟨0, 0, none⟩) hsz).trans hm
  refine (Try.strings_Index ⟨s.toArray⟩ ⟨t.toArray⟩ m w (by simp [ByteArray.size]; omega) hm').mono fun e W' ⟨he, hW⟩ => ?_
  subst he hW
  exact ⟨ρ, σ, Gh.le_refl ρ, H, _, .pv (.int _ _), hK⟩
def idxS (s t : List UInt8) : Int := if t = [] then 0 else Lib.index s t + 1
def T31 : Tr := fun args σ K _ => ∃ s t : List UInt8, args = [.pv (.str s), .pv (.str t)] ∧ s.length ≤ 5000 ∧ K (.pv (.int .i64 (idxS s t))) σ
theorem T31_ok {env : Env} (h51 : env 51 = T51) (args : List AV) (σ : AS) (K : AV → AS → Prop) (X : PV → AS → Prop) (h : T31 args σ K X) : bodyD PA env an31 Try.f31 args σ K X := by
  obtain ⟨s, t, rfl, hs, h⟩ := h
  rw [← S31_eq env, S31]
  simp only [go_sem, beq_iff_eq]
  unfold idxS at h
  split
  · rename_i e
    rw [if_pos e] at h
    exact retV_self h
  · rename_i e
    rw [if_neg e] at h
    rw [h51]
    refine ⟨s, t, rfl, hs, ?_⟩
    have h1 := Lib.index_ge s t
    have h2 := Lib.index_le s t
    simp (disch := omega) only [go_sem]
    exact retV_self h
theorem occ_iff (s t : List UInt8) (i : Nat) (h : i + t.length ≤ s.length) : (((s.take (i + t.length)).drop i == t) = true) ↔ Lib.occAt s t i = true := by
  unfold Lib.occAt
  rw [List.drop_take, show i + t.length - i = t.length by omega, beq_iff_eq, List.isPrefixOf_iff_prefix]
  constructor
  · intro e; rw [← e]; exact List.take_prefix _ _
  · intro e; exact (List.prefix_iff_eq_take.1 e).symm
theorem T32_ok {env : Env} (args : List AV) (σ : AS) (K : AV → AS → Prop) (X : PV → AS → Prop) (h : (∃ s t : List UInt8, args = [.pv (.str s), .pv (.str t)] ∧ s.length ≤ 5000 ∧ t.length ≤ 5000 ∧ K (.pv (.int .i64 (idxS s t))) σ)) : bodyD PA env an32 Try.f32 args σ K X := by
  obtain ⟨s, t, rfl, hs, ht, h⟩ := h
  rw [← S32_eq env, S32]
  simp only [go_sem, beq_iff_eq]
  unfold idxS at h
  split
  · rename_i e
    rw [if_pos e] at h
    exact retV_self h
  · rename_i e
    rw [if_neg e] at h
    have htl : 0 < t.length := List.length_pos_iff.2 e
    refine lp32_4 (fun (i : Nat) _ => s.length + 1 - i) (fun i τ => τ = σ ∧ i ≤ s.length + 1 ∧ Lib.NoOcc s t i) (fun i => .pv (.int .i64 i)) 0 ⟨rfl, by omega, Lib.NoOcc.zero s t⟩ ?_
    rintro i τ ⟨rfl, hi, hn⟩
    unfold L32_4
    simp (disch := omega) only [go_sem]
    split
    · rename_i hle
      rw [sl9b (by omega) hle]
      simp (disch := omega) only [go_sem]
      split
      · rename_i ho
        rw [occ_iff s t i hle] at ho
        rw [Lib.index_hit hn (by omega) ho] at h
        exact retV_self h
      · rename_i ho
        rw [occ_iff s t i hle] at ho
        exact back (i + 1) rfl (by omega) ⟨rfl, by omega, hn.succ (by simpa using ho)⟩
    · rename_i hle
      rw [Lib.index_past e hn (by omega)] at h
      exact retV_self h
def T32 : Tr := fun args σ K _ => ∃ s t : List UInt8, args = [.pv (.str s), .pv (.str t)] ∧ s.length ≤ 5000 ∧ t.length ≤ 5000 ∧ K (.pv (.int .i64 (idxS s t))) σ
/-! ### awake -/
def T17 : Tr := fun args σ K _ => args = [] ∧ ∀ σ', σ.sub σ' → K (.pv (.bool true)) σ'
theorem show10 : showS [10] = [92, 48, 49, 50] := by
  rw [showS_step (by simp)]
  have : stepS [10] = ([92, 48, 49, 50], 1) := by decide +kernel
  rw [this]
  simp [showS_nil]
theorem T17_ok {env : Env} (h18 : env 18 = T18) (h20 : env 20 = T20) (h27 : env 27 = T27) (args : List AV) (σ : AS) (K : AV → AS → Prop) (X : PV → AS → Prop) (h : T17 args σ K X) : bodyD PA env an17 Try.f17 args σ K X := by
  obtain ⟨rfl, h⟩ := h
  rw [← S17_eq env, S17, h18]
  refine ⟨_, _, _, rfl, by decide, by unfold in64; omega, by unfold in64; omega, ?_⟩
  have e1 : cutS [104, 101, 108, 108, 111] 0 3 = [104, 101] := by decide +kernel
  rw [e1]
  simp only [go_sem]
  rw [if_pos (by decide), h20]
  refine ⟨_, rfl, by decide, ?_⟩
  intro σ2 h2
  rw [show10]
  simp only [go_sem]
  rw [if_pos (by decide), h27]
  refine ⟨_, rfl, by decide, ?_⟩
  have e2 : List.map upB [97] = [65] := by decide +kernel
  rw [e2]
  simp only [go_sem]
  exact retV_self (h _ h2)
end Go.AD
