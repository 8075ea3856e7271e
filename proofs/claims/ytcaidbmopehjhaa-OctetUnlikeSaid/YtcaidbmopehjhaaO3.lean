/- octet: digits, heads, encodings. -/
import Derived.Test.YtcaidbmopehjhaaO2
import Derived.Test.YtcaidbmopehjhaaB3
set_option linter.unusedVariables false
namespace Go.AD
open Go.Proofs
/-! ### a byte in base 8 -/
def o1 (c : UInt8) : UInt8 := (48 : UInt8) + c / (64 : UInt8)
def o2 (c : UInt8) : UInt8 := (48 : UInt8) + (c / (8 : UInt8)) % (8 : UInt8)
def o3 (c : UInt8) : UInt8 := (48 : UInt8) + c % (8 : UInt8)
def octB (c : UInt8) : List UInt8 := [92, o1 c, o2 c, o3 c]
theorem oct1 (c : UInt8) : IntKind.u8.wrap (48 + Int.fdiv (c.toNat : Int) (2 ^ min (6 : Int).toNat IntKind.u8.bits)) = ((o1 c).toNat : Int) := by revert c; exact allU8 (by decide +kernel)
theorem oct2 (c : UInt8) : IntKind.u8.wrap (48 + IntKind.u8.wrap (BitVec.ofInt IntKind.u8.bits (Int.fdiv (c.toNat : Int) (2 ^ min (3 : Int).toNat IntKind.u8.bits)) &&& BitVec.ofInt IntKind.u8.bits 7).toNat) = ((o2 c).toNat : Int) := by revert c; exact allU8 (by decide +kernel)
theorem oct3 (c : UInt8) : IntKind.u8.wrap (48 + IntKind.u8.wrap (BitVec.ofInt IntKind.u8.bits (c.toNat : Int) &&& BitVec.ofInt IntKind.u8.bits 7).toNat) = ((o3 c).toNat : Int) := by revert c; exact allU8 (by decide +kernel)
theorem octr1 (c : UInt8) : IntKind.u8.wrap (48 + IntKind.u8.wrap (Int.tdiv (c.toNat : Int) 64)) = ((o1 c).toNat : Int) := by revert c; exact allU8 (by decide +kernel)
theorem octr2 (c : UInt8) : IntKind.u8.wrap (48 + Int.tmod (IntKind.u8.wrap (Int.tdiv (c.toNat : Int) 8)) 8) = ((o2 c).toNat : Int) := by revert c; exact allU8 (by decide +kernel)
theorem octr3 (c : UInt8) : IntKind.u8.wrap (48 + Int.tmod (c.toNat : Int) 8) = ((o3 c).toNat : Int) := by revert c; exact allU8 (by decide +kernel)
theorem four45 {σ : AS} {a b c d : UInt8} {K : AV → AS → Prop} : buildSliceD PA false σ 45 4 4 [(0, .pv (.int .u8 a.toNat)), (1, .pv (.int .u8 b.toNat)), (2, .pv (.int .u8 c.toNat)), (3, .pv (.int .u8 d.toNat))] K = K (.full 4 (pvBytes [a, b, c, d])) σ := by
  simp [buildSliceD, go_sem, elemsFill, AV.cells, AV.cellOk, toPVs, toPV, pvBytes]
theorem two45 {σ : AS} {a b : UInt8} {K : AV → AS → Prop} : buildSliceD PA false σ 45 2 2 [(0, .pv (.int .u8 a.toNat)), (1, .pv (.int .u8 b.toNat))] K = K (.full 2 (pvBytes [a, b])) σ := by
  simp [buildSliceD, go_sem, elemsFill, AV.cells, AV.cellOk, toPVs, toPV, pvBytes]
theorem convF45 {σ : AS} {n : Nat} {l : List UInt8} {K : AV → Prop} (h : n = l.length) : convD PA σ 45 9 (.full n (pvBytes l)) K = K (.pv (.str l)) := by
  subst h
  exact conv_bytes (isSlice T.el45) Try.underlying9 Try.underlying5 T.sz5 rfl
def T43 : Tr := fun args σ K _ => ∃ c : UInt8, args = [.pv (.int .u8 c.toNat)] ∧ K (.pv (.str (octB c))) σ
theorem T43_ok {env : Env} (args : List AV) (σ : AS) (K : AV → AS → Prop) (X : PV → AS → Prop) (h : T43 args σ K X) : bodyD PA env an43 Try.f43 args σ K X := by
  obtain ⟨c, rfl, h⟩ := h
  rw [← S43_eq env, S43]
  have e92 : (.pv (.int .u8 92) : AV) = .pv (.int .u8 ((92 : UInt8).toNat : Int)) := rfl
  simp only [bin_quo, bin_rem, bin_add, octr1, octr2, octr3, e92, four45]
  refine ⟨by decide, by decide, by decide, by decide, ?_⟩
  rw [convF45 (n := 4) (l := [92, o1 c, o2 c, o3 c]) rfl]
  exact retV_self h
def T35 : Tr := fun args σ K _ => ∃ (id : Nat) (c : UInt8), args = [.addr id 0, .pv (.int .u8 c.toNat)] ∧ addT σ id (octB c) (K (.tuple []))
theorem T35_ok {env : Env} (h53 : env 53 = Tr.wk T53) (args : List AV) (σ : AS) (K : AV → AS → Prop) (X : PV → AS → Prop) (h : T35 args σ K X) : bodyD PA env an35 Try.f35 args σ K X := by
  obtain ⟨id, c, rfl, σ0, l, hB, hl, h⟩ := h
  rw [← S35_eq env, S35]
  have e92 : (.pv (.int .u8 92) : AV) = .pv (.int .u8 ((92 : UInt8).toNat : Int)) := rfl
  simp only [bin_shr, bin_add, bin_and, oct1, oct2, oct3, e92, four45, h53]
  refine ⟨by decide, by decide, ?_⟩
  refine Tr.wk_intro (args' := [.addr id 0, .pv (.lst 4 (pvBytes (octB c)))]) (wkS (wkP rfl wkN)) ?_
  exact ⟨id, octB c, rfl, σ0, l, hB, hl, fun σ' hB' => retV_self (h σ' hB')⟩
/-! ### digits of base 16 -/
def dig16 : List UInt8 := [48, 49, 50, 51, 52, 53, 54, 55, 56, 57, 65, 66, 67, 68, 69, 70]
def hexL (v : Nat) (s : List UInt8) : List UInt8 := if v > 0 ∨ s.length < 4 then hexL (v / 16) (dig16.getD (v % 16) 0 :: s) else s
  termination_by v + (4 - s.length)
  decreasing_by simp only [List.length_cons]; omega
theorem hexL_go {v : Nat} {s : List UInt8} (h : v > 0 ∨ s.length < 4) : hexL v s = hexL (v / 16) (dig16.getD (v % 16) 0 :: s) := by rw [hexL, if_pos h]
theorem hexL_end {v : Nat} {s : List UInt8} (h : ¬ (v > 0 ∨ s.length < 4)) : hexL v s = s := by rw [hexL, if_neg h]
theorem and15 (v : Nat) (h : v < 2147483648) : IntKind.i32.wrap (BitVec.ofInt IntKind.i32.bits (v : Int) &&& BitVec.ofInt IntKind.i32.bits 15).toNat = ((v % 16 : Nat) : Int) := by
  have e : (BitVec.ofInt IntKind.i32.bits (v : Int) &&& BitVec.ofInt IntKind.i32.bits 15).toNat = v % 16 := by
    have h1 : BitVec.ofInt IntKind.i32.bits (v : Int) = BitVec.ofNat 32 v := by
      apply BitVec.eq_of_toNat_eq
      simp [IntKind.bits]
    rw [h1]
    have h2 : BitVec.ofInt IntKind.i32.bits 15 = BitVec.ofNat 32 15 := rfl
    rw [h2]
    show (BitVec.ofNat 32 v &&& BitVec.ofNat 32 15).toNat = v % 16
    rw [BitVec.toNat_and]
    simp only [BitVec.toNat_ofNat]
    rw [Nat.mod_eq_of_lt (by omega)]
    exact Nat.and_two_pow_sub_one_eq_mod v 4
  rw [e, wrap32 (by omega) (by omega)]
theorem enc16 (n : Nat) (h : n < 16) : (Utf8.encode ((dig16.getD n 0).toNat : Int)).data.toList = [dig16.getD n 0] := by
  revert n; decide +kernel
def T38 : Tr := fun args σ K _ => ∃ v : Nat, args = [.pv (.int .i32 v)] ∧ v < 1114112 ∧ K (.pv (.str (hexL v []))) σ
theorem T38_ok {env : Env} (args : List AV) (σ : AS) (K : AV → AS → Prop) (X : PV → AS → Prop) (h : T38 args σ K X) : bodyD PA env an38 Try.f38 args σ K X := by
  obtain ⟨v, rfl, hv, h⟩ := h
  rw [← S38_eq env, S38]
  refine lp38_2 (fun (a : Nat × List UInt8) _ => a.1 + (4 - a.2.length)) (fun a τ => τ = σ ∧ a.1 + a.2.length ≤ 1114112 ∧ hexL v [] = hexL a.1 a.2) (fun a => .pv (.int .i32 a.1)) (fun a => .pv (.str a.2)) (v, []) ⟨rfl, by simp; omega, rfl⟩ ?_
  rintro ⟨r, s⟩ τ ⟨rfl, hr, he⟩
  simp only at hr he
  unfold L38_2
  have j4 : (r > 0 ∨ s.length < 4) → J38_4 env (Inv (fun a : Nat × List UInt8 => [.pv (.int .i32 a.1), .pv (.str a.2)]) (fun a _ => a.1 + (4 - a.2.length)) (fun a σ => σ = τ ∧ a.1 + a.2.length ≤ 1114112 ∧ hexL v [] = hexL a.1 a.2)) (r + (4 - s.length)) (.pv (.int .i32 r)) (.pv (.str s)) τ K X := by
    intro hg
    unfold J38_4
    simp only [bin_and, bin_shr, and15 r (by omega)]
    have hd : dig16.length = 16 := rfl
    show indexD PA 9 (.pv (.str dig16)) _ _
    rw [ix9 (by omega), cvS (by rw [Try.underlying5]; rfl) Try.underlying9, enc16 _ (by omega)]
    simp only [go_sem]
    refine ⟨by simp; omega, by decide, ?_⟩
    rw [show ((2 : Int) ^ min (4 : Int).toNat 32) = ((16 : Nat) : Int) from rfl, nFdiv]
    refine back (r / 16, dig16.getD (r % 16) 0 :: s) rfl (by simp only [List.length_cons]; omega) ⟨rfl, by simp only [List.length_cons]; omega, by rw [he, hexL_go hg]⟩
  simp only [go_sem]
  split
  · exact j4 (.inl (by omega))
  · split
    · exact j4 (.inr (by omega))
    · refine retV_self ?_
      rw [he, hexL_end (by omega)] at h
      exact h
def T42 : Tr := fun args σ K _ => ∃ v : Nat, args = [.pv (.int .i64 v)] ∧ v < 1114112 ∧ K (.pv (.str (hexL v []))) σ
theorem T42_ok {env : Env} (args : List AV) (σ : AS) (K : AV → AS → Prop) (X : PV → AS → Prop) (h : T42 args σ K X) : bodyD PA env an42 Try.f42 args σ K X := by
  obtain ⟨v, rfl, hv, h⟩ := h
  rw [← S42_eq env, S42]
  refine lp42_3 (fun (a : Nat × List UInt8) _ => a.1 + (4 - a.2.length)) (fun a τ => τ = σ ∧ a.1 + a.2.length ≤ 1114112 ∧ hexL v [] = hexL a.1 a.2) (fun a => .pv (.int .i64 a.1)) (fun a => .pv (.str a.2)) (v, []) ⟨rfl, by simp; omega, rfl⟩ ?_
  rintro ⟨r, s⟩ τ ⟨rfl, hr, he⟩
  simp only at hr he
  unfold L42_3
  have j4 : (r > 0 ∨ s.length < 4) → J42_4 env (Inv (fun a : Nat × List UInt8 => [.pv (.int .i64 a.1), .pv (.str dig16), .pv (.str a.2)]) (fun a _ => a.1 + (4 - a.2.length)) (fun a σ => σ = τ ∧ a.1 + a.2.length ≤ 1114112 ∧ hexL v [] = hexL a.1 a.2)) (r + (4 - s.length)) (.pv (.int .i64 r)) (.pv (.str dig16)) (.pv (.str s)) τ K X := by
    intro hg
    unfold J42_4
    have hd : dig16.length = 16 := rfl
    simp (disch := omega) only [go_sem, nTmodL, nAdd1, wrap64, sl9b, nTdivL]
    refine ⟨by decide, by decide, ?_, by decide, ?_⟩
    · simp [hd]; omega
    rw [take_snocD (d := 0) (by omega), List.drop_append_of_le_length (by simp [hd]; omega), List.drop_eq_nil_of_le (by simp [hd]; omega), List.nil_append]
    refine back (r / 16, dig16.getD (r % 16) 0 :: s) rfl (by simp only [List.length_cons]; omega) ⟨rfl, by simp only [List.length_cons]; omega, by rw [he, hexL_go hg]⟩
  simp only [go_sem]
  split
  · exact j4 (.inl (by omega))
  · split
    · exact j4 (.inr (by omega))
    · refine retV_self ?_
      rw [he, hexL_end (by omega)] at h
      exact h
def T39 : Tr := fun args σ K _ => ∃ v : Nat, args = [.pv (.int .i32 v)] ∧ v < 160 ∧ K (.pv (.int .i64 (if v < 128 then 1 else 2 : Nat))) σ
theorem T39_ok {env : Env} (args : List AV) (σ : AS) (K : AV → AS → Prop) (X : PV → AS → Prop) (h : T39 args σ K X) : bodyD PA env an39 Try.f39 args σ K X := by
  obtain ⟨v, rfl, hv, h⟩ := h
  rw [← S39_eq env, S39]
  simp only [go_sem]
  rw [if_neg (by omega)]
  split
  · rw [if_pos (by omega)] at h
    exact retV_self h
  · rw [if_neg (by omega)] at h
    rw [if_pos (by omega)]
    exact retV_self h
def hasPre (s p : List UInt8) : Bool := decide (p.length ≤ s.length) && (s.take p.length == p)
def T52 : Tr := fun args σ K _ => ∃ s p : List UInt8, args = [.pv (.str s), .pv (.str p)] ∧ K (.pv (.bool (hasPre s p))) σ
theorem T52_ok {env : Env} (args : List AV) (σ : AS) (K : AV → AS → Prop) (X : PV → AS → Prop) (h : T52 args σ K X) : bodyD PA env an52 Try.f52 args σ K X := by
  obtain ⟨s, p, rfl, h⟩ := h
  rw [← S52_eq env, S52]
  unfold hasPre at h
  simp only [go_sem, ge_iff_le, nLe]
  split
  · rename_i hp
    rw [sl9t hp, bin_seql]
    rw [decide_eq_true hp, Bool.true_and] at h
    exact retV_self h
  · rename_i hp
    rw [decide_eq_false hp, Bool.false_and] at h
    exact retV_self h
theorem T34_ok {env : Env} (h52 : env 52 = T52) (args : List AV) (σ : AS) (K : AV → AS → Prop) (X : PV → AS → Prop) (h : T52 args σ K X) : bodyD PA env an34 Try.f34 args σ K X := by
  obtain ⟨s, p, rfl, h⟩ := h
  rw [← S34_eq env, S34, h52]
  exact ⟨s, p, rfl, retV_self h⟩
end Go.AD
