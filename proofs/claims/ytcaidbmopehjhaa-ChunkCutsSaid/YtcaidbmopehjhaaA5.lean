/- chunk's awake. -/
import Derived.Test.YtcaidbmopehjhaaA4
set_option linter.unusedVariables false
namespace Go.AD
theorem eq28 (a b c d e f : Int) (K : AV → Prop) : binD PA .eql 28 (.agg [.pv (.int .i64 a), .pv (.int .i64 b), .pv (.int .i64 c)]) (.agg [.pv (.int .i64 d), .pv (.int .i64 e), .pv (.int .i64 f)]) K = K (.pv (.bool (a == d && (b == e && (c == f && true))))) := by
  have h1 : PA.stoodInHeld 28 = false := by kernel_rfl
  have h2 : PA.eqGuardType PA.depth 28 = false := by kernel_rfl
  simp [binD, eqD, h1, h2, Go.Proofs.Try.underlying28, sameFields, sameAt, Go.Proofs.Try.underlying3]
theorem neq28 (a b c d e f : Int) (K : AV → Prop) : binD PA .neq 28 (.agg [.pv (.int .i64 a), .pv (.int .i64 b), .pv (.int .i64 c)]) (.agg [.pv (.int .i64 d), .pv (.int .i64 e), .pv (.int .i64 f)]) K = K (.pv (.bool (!(a == d && (b == e && (c == f && true)))))) := by
  have h1 : PA.stoodInHeld 28 = false := by kernel_rfl
  have h2 : PA.eqGuardType PA.depth 28 = false := by kernel_rfl
  simp [binD, eqD, h1, h2, Go.Proofs.Try.underlying28, sameFields, sameAt, Go.Proofs.Try.underlying3]
/-- A row of shards is read. -/
theorem row_at {σ : AS} {id k : Nat} {rows : List AV} {i : Int} {v : AV} (h : σ id = some (.cells rows)) (h0 : 0 ≤ i) (h1 : i < (k : Int)) (hv : rows[i.toNat]? = some v) {K : AV → Prop} (hK : K v) :
    indexAddrD PA 24 (.msl id 0 k 1) (.pv (.int .i64 i)) fun a => loadD PA σ 26 a K := by
  simp only [go_sem]
  refine ⟨h0, h1, ?_⟩
  rw [load_addr T.hT26 T.ag26 h]
  exact ⟨v, hv, hK⟩
/-- A piece is read. -/
theorem piece_at {σ : AS} {v : AV} {l : List (Nat × Nat × Nat)} {i : Int} (hv : toPV v = some (.lst l.length (flat3 l))) (h0 : 0 ≤ i) (h1 : i.toNat < l.length) {K : AV → Prop} (hK : K (.agg [.pv (.int .i64 l[i.toNat].1), .pv (.int .i64 l[i.toNat].2.1), .pv (.int .i64 l[i.toNat].2.2)])) :
    indexAddrD PA 26 v (.pv (.int .i64 i)) fun a => loadD PA σ 28 a K := by
  refine ix_of (by rw [T.el26]; rfl) hv (by simp only [go_sem]) (by simp only [go_sem, flat3_length]) (by simp only [go_sem]) h0 (by omega) ?_
  simp only [go_sem]
  refine ⟨?_, ?_⟩
  · rw [flat3_length]; omega
  · rw [flat3_get l _ h1]
    exact hK
def T14 : Tr := fun args σ K _ => args = [] ∧ ∀ τ, σ.sub τ → K (.pv (.bool true)) τ
theorem T14_ok (args : List AV) (σ : AS) (K : AV → AS → Prop) (X : PV → AS → Prop) (h : T14 args σ K X) : bodyD Go.Proofs.Try.prog envA an14 Go.Proofs.Try.f14 args σ K X := by
  obtain ⟨rfl, h⟩ := h
  rw [← S14_eq envA]
  unfold S14
  have hb : ∀ (K : AV → AS → Prop), buildSliceD PA false σ 22 2 2 [(0, (.pv (.int .i64 3))), (1, (.pv (.int .i64 2)))] K = K (.full 2 [.int .i64 3, .int .i64 2]) σ := by
    intro K
    simp [buildSliceD, go_sem, elemsFill, AV.cells, AV.cellOk, toPVs, toPV]
  rw [hb, envA15]
  refine Tr.wk_intro (args' := [.pv (.lst 2 (i64s [3, 2])), .pv (.int .i64 2)]) ⟨.inr ⟨_, rfl, rfl⟩, .inl rfl, trivial⟩ ⟨[3, 2], 2, rfl, by simp [in64], by simp [in64], by simp, ?_⟩
  unfold Out15
  rw [if_neg (by decide)]
  intro id τ rows h1 h2 h3 h4
  obtain ⟨v0, ha, hb⟩ := h4 0 (by decide)
  obtain ⟨v1, hc, hd⟩ := h4 1 (by decide)
  have r0 : rowS [3, 2] (Int.toNat 2) 0 = [(0, 0, 2)] := by decide
  have r1 : rowS [3, 2] (Int.toNat 2) 1 = [(0, 2, 3), (1, 0, 2)] := by decide
  rw [r0] at hb
  rw [r1] at hd
  have hl : ∀ K, lenD PA 26 v0 K = K (.pv (.int .i64 1)) := fun K => by simpa using len_of (t := 26) (K := K) (P := PA) (by rw [T.el26]; rfl) hb
  have hl1 : ∀ K, lenD PA 26 v1 K = K (.pv (.int .i64 2)) := fun K => by simpa using len_of (t := 26) (K := K) (P := PA) (by rw [T.el26]; rfl) hd
  rw [len_msl (by rw [T.el24]; rfl), bin_eql, guard_true, if_pos (by decide)]
  refine row_at (i := 0) h2 (by decide) (by decide) ha ?_
  rw [hl, bin_eql, guard_true, if_pos (by decide)]
  refine row_at (i := 0) h2 (by decide) (by decide) ha ?_
  refine piece_at (i := 0) hb (by decide) (by decide) ?_
  rw [build28]
  rw [eq28, guard_true, if_pos (by decide)]
  refine row_at (i := 1) h2 (by decide) (by decide) hc ?_
  rw [hl1, bin_eql]
  exact retV_self (h τ h1)
theorem F14 (hm : Go.Proofs.Try.prog.follows .mixedOrders = true) : SoundF Go.Proofs.Try.prog 14 T14 := body_sound hm (envA_ok hm) an14 Go.Proofs.Try.func14 Go.Proofs.Try.call14 S14_ok T14_ok
def envB : Env := envA.add 14 (Tr.wk T14)
@[go_sem] theorem envB15 : envB 15 = Tr.wk T15 := rfl
@[go_sem] theorem envB14 : envB 14 = Tr.wk T14 := rfl
theorem envB_ok (hm : Go.Proofs.Try.prog.follows .mixedOrders = true) : EnvOk Go.Proofs.Try.prog envB := (envA_ok hm).add (F14 hm).wk
end Go.AD
