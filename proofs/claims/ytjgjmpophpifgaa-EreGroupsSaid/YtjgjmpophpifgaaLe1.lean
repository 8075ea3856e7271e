/- ere: the reader in memory; the small functions. -/
import Derived.Test.YtjgjmpophpifgaaLe0
import Derived.Test.YtjgjmpophpifgaaLx2
import Derived.Test.YtjgjmpophpifgaaLf
import Derived.Test.YtjgjmpophpifgaaG7
set_option linter.unusedVariables false
set_option linter.unusedSimpArgs false
set_option maxRecDepth 100000
namespace Go.AD.Lx
open Go.Proofs RowKit
section
variable {env : Env} {args : List AV} {σ0 σ τ : AS} {K : AV → AS → Prop} {X : PV → AS → Prop} {l : Nat} {s : Bytes} {d : Nat} {Y : Objs}
def T_CutPrefix : Tr := fun args σ K _ => ∃ s p : List UInt8, args = [.pv (.str s), .pv (.str p)] ∧ K (.tuple [.pv (.str (Lib.trimPrefix s p)), .pv (.bool (Lib.hasPrefix s p))]) σ
theorem F_CutPrefix : SoundF PS 61 T_CutPrefix := by
  rintro w0 hS ρ σ w args us K X H hr ⟨s, p, rfl, hK⟩
  obtain ⟨u, us', rfl, hu, hr⟩ := hr.uncons
  obtain ⟨v, us'', rfl, hv, hnil⟩ := hr.uncons
  obtain rfl : us'' = [] := hnil.nil_inv
  rw [relStr hu, relStr hv]
  refine ⟨Try.call61 _ w, ?_⟩
  refine (Try.strings_CutPrefix ⟨s.toArray⟩ ⟨p.toArray⟩ w).mono fun e W' ⟨he, hW⟩ => ?_
  subst he hW
  refine ⟨ρ, σ, Gh.le_refl ρ, H, _, ?_, hK⟩
  exact RelV.of_tuple (.cons (.pv (.str _)) (.cons (.pv (.bool _)) (.nil ρ)))
def T_CutE : Tr := fun args σ K _ => ∃ s t : List UInt8, args = [.pv (.str s), .pv (.str t)] ∧ s.length ≤ 100000 ∧ K (.tuple [.pv (.str (Lib.cut s t).1), .pv (.str (Lib.cut s t).2.1), .pv (.bool (Lib.cut s t).2.2)]) σ
theorem F_CutE : SoundF PS 80 T_CutE := by
  rintro w0 hS ρ σ w args us K X H hr ⟨s, t, rfl, hs, hK⟩
  obtain ⟨u, us', rfl, hu, hr⟩ := hr.uncons
  obtain ⟨v, us'', rfl, hv, hnil⟩ := hr.uncons
  obtain rfl : us'' = [] := hnil.nil_inv
  rw [relStr hu, relStr hv]
  refine ⟨Try.call80 _ w, ?_⟩
  obtain ⟨m, hm⟩ := var0 hS H
  refine (Try.strings_Cut ⟨s.toArray⟩ ⟨t.toArray⟩ m w (by simp [ByteArray.size]; omega) hm).mono fun e W' ⟨he, n, hW⟩ => ?_
  subst he hW
  refine ⟨ρ, σ, Gh.le_refl ρ, H.drawn (w.drawn + n), _, ?_, hK⟩
  exact RelV.of_tuple (.cons (.pv (.str _)) (.cons (.pv (.str _)) (.cons (.pv (.bool _)) (.nil ρ))))
/-- The reader in memory. -/
def RdAt (σ0 σ : AS) (l : Nat) (s : Bytes) (d : Nat) (Y : Objs) : Prop := Sep σ0 σ ((l, .cells [.pv (.str s), .pv (.int .i64 (d : Nat))] none) :: Y)
theorem RdAt.get (h : RdAt σ0 σ l s d Y) : σ l = some (.cells [.pv (.str s), .pv (.int .i64 (d : Nat))] none) := Sep.get h (by simp)
theorem RdAt.sub (h : RdAt σ0 σ l s d Y) : σ0.sub σ := Sep.sub h
theorem RdAt.put (h : RdAt σ0 σ l s d Y) (s' : Bytes) : RdAt σ0 (σ.set l (.cells [.pv (.str s'), .pv (.int .i64 (d : Nat))] none)) l s' d Y := Sep.set1 h _
theorem RdAt.deep (h : RdAt σ0 σ l s d Y) (d' : Nat) : RdAt σ0 (σ.set l (.cells [.pv (.str s), .pv (.int .i64 (d' : Nat))] none)) l s d' Y := Sep.set1 h _
/-- A fault that is panicked with. -/
def faultV (n : Nat) : PV := .iface 51 false [.int .i64 (n : Nat)]
def okX {α : Type} (r : Except Nat α) (k : α → Prop) (x : Nat → Prop) : Prop := match r with
  | .ok a => k a
  | .error n => x n
theorem fault_go {n : Nat} (h : X (faultV n) σ) : ifaceD PS 51 (.pv (.int .i64 (n : Nat))) fun t => panicD σ t (panV X) := by
  have hu : PS.underlying 51 = some (.int .i64) := Try.underlying51
  simp only [ifaceD, hu, toPV, panicD, true_and]
  exact ⟨σ, sub_refl σ, h⟩
def T_ePeek : Tr := fun args σ K _ => ∃ (σ0 : AS) (l : Nat) (s : Bytes) (d : Nat) (Y : Objs), args = [.addr l 0] ∧ RdAt σ0 σ l s d Y ∧ K (.tuple [.pv (.int .u8 (s.getD 0 0).toNat), .pv (.bool (decide (s ≠ [])))]) σ
theorem T_ePeek_ok (h : T_ePeek args σ K X) : bodyD PS env an58 Try.f58 args σ K X := by
  obtain ⟨σ0, l, s, d, Y, rfl, hR, hK⟩ := h
  rw [← S58_eq env, S58]
  have hl := hR.get
  simp (disch := omega) only [lock_eq, go_sem, hl, ldM_cells, List.getElem?_cons_zero, someEx, beq_iff_eq]
  refine iteI (fun h1 => ?_) (fun h1 => ?_)
  · subst h1
    exact retV_self hK
  · have hp : 0 < s.length := List.length_pos_iff.2 h1
    have i0 : ∀ (K : AV → Prop), indexD PS 9 (.pv (.str s)) (.pv (.int .i64 0)) K = K (.pv (.int .u8 (s.getD 0 0).toNat)) := fun K => T.is9 (i := 0) hp
    rw [decide_eq_true h1] at hK
    simp only [i0]
    exact retV_self hK
def T_eTake : Tr := fun args σ K _ => ∃ (σ0 : AS) (l : Nat) (s t : Bytes) (d : Nat) (Y : Objs), args = [.addr l 0, .pv (.str t)] ∧ RdAt σ0 σ l s d Y ∧ ∀ σ', RdAt σ0 σ' l (if Lib.hasPrefix s t = true then s.drop t.length else s) d Y → K (.pv (.bool (Lib.hasPrefix s t))) σ'
theorem T_eTake_ok (h1 : env 61 = T_CutPrefix) (h : T_eTake args σ K X) : bodyD PS env an48 Try.f48 args σ K X := by
  obtain ⟨σ0, l, s, t, d, Y, rfl, hR, hK⟩ := h
  rw [← S48_eq env, S48]
  have hl := hR.get
  simp (disch := omega) only [lock_eq, go_sem, hl, ldM_cells, List.getElem?_cons_zero, someEx]
  rw [h1]
  refine ⟨s, t, rfl, ?_⟩
  have e : Lib.trimPrefix s t = if Lib.hasPrefix s t = true then s.drop t.length else s := rfl
  rw [e]
  simp (disch := omega) only [lock_eq, go_sem, hl, stM_cells, List.getElem?_cons_zero, List.getElem?_cons_succ, someEx, List.set_cons_zero]
  exact ⟨by simp, retV_self (hK _ (hR.put _))⟩
theorem take_call' (h : env 48 = T_eTake) (hR : RdAt σ0 σ l s d Y) {t : Bytes} (hK : ∀ σ', RdAt σ0 σ' l (if Lib.hasPrefix s t = true then s.drop t.length else s) d Y → K (.pv (.bool (Lib.hasPrefix s t))) σ') : env 48 [.addr l 0, .pv (.str t)] σ K X := by
  rw [h]; exact ⟨σ0, l, s, t, d, Y, rfl, hR, hK⟩
def T_eDigits : Tr := fun args σ K _ => ∃ (σ0 : AS) (l : Nat) (s : Bytes) (d : Nat) (Y : Objs) (g : UInt8) (most : Nat), args = [.addr l 0, .pv (.int .u8 g.toNat), .pv (.int .i64 (most : Nat))] ∧ RdAt σ0 σ l s d Y ∧ s.length ≤ 100000 ∧ ∀ σ', RdAt σ0 σ' l (s.drop (digN g most s)) d Y → K (.pv (.str (s.take (digN g most s)))) σ'
theorem T_eDigits_ok (h : T_eDigits args σ K X) : bodyD PS env an73 Try.f73 args σ K X := by
  obtain ⟨σ0, l, s, d, Y, g, most, rfl, hR, hlen, hK⟩ := h
  rw [← S73_eq env, S73]
  have hl := hR.get
  have hsp := span_le (upB g) s
  refine lp73_2 (fun (n : Nat) _ => s.length - n) (fun n τ => τ = σ ∧ n ≤ s.length ∧ n ≤ most ∧ spanL (upB g) s = n + spanL (upB g) (s.drop n)) (fun n => .pv (.int .i64 ((n : Nat) : Int))) 0 ⟨rfl, Nat.zero_le _, Nat.zero_le _, by simp⟩ ?_
  rintro n τ ⟨rfl, hn, hm, he⟩
  have j4 : n = digN g most s → J73_4 env (.addr l 0) (.pv (.int .i64 (n : Nat))) τ K X := by
    intro h
    rw [← h] at hK
    unfold J73_4
    simp (disch := omega) only [lock_eq, go_sem, hl, ldM_cells, stM_cells, List.getElem?_cons_zero, someEx, T.st9, T.ss9, List.set_cons_zero]
    exact ⟨by simp, retV_self (hK _ (hR.put _))⟩
  unfold L73_2
  simp (disch := omega) only [lock_eq, go_sem, hl, ldM_cells, List.getElem?_cons_zero, someEx]
  refine iteI (fun h1 => ?_) (fun h1 => j4 (by unfold digN; omega))
  refine iteI (fun h2 => ?_) (fun h2 => j4 (by unfold digN; omega))
  rw [span_drop h1] at he
  simp (disch := omega) only [T.is9, go_sem]
  refine iteI (fun h3 => ?_) (fun h3 => ?_)
  · refine iteI (fun h4 => ?_) (fun h4 => ?_)
    · rw [if_pos (by unfold upB; rw [decide_eq_true h3, decide_eq_true h4]; rfl)] at he
      exact back (n + 1) rfl (by omega) ⟨rfl, h1, h2, by omega⟩
    · rw [if_neg (by unfold upB; rw [decide_eq_false h4, Bool.and_false]; decide)] at he
      exact j4 (by unfold digN; omega)
  · rw [if_neg (by unfold upB; rw [decide_eq_false h3, Bool.false_and]; decide)] at he
    exact j4 (by unfold digN; omega)
end
end Go.AD.Lx
