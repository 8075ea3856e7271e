/- ChunkCuts: it comes to true. -/
import Derived.Test.YtcaidbmopehjhaaA7
import Derived.Test.YtcaidbmopehjhaaA9
import Derived.Test.YtcaidbmopehjhaaG3
set_option linter.unusedVariables false
namespace Go.AD
theorem S2.mono {k oid : Nat} {σ τ τ' : AS} {R : Nat → List (Nat × Nat × Nat)} {rows : List AV} (h : S2 k oid σ τ R rows) (hs : τ.sub τ') : S2 k oid σ τ' R rows :=
  ⟨h.sub.trans hs, h.new, hs _ _ h.here, h.len, fun j hj => by
    obtain ⟨v, h1, h2⟩ := h.row j hj
    refine ⟨v, h1, ?_⟩
    rcases h2 with h2 | ⟨g, q1, q2, q3⟩
    · exact .inl h2
    · exact .inr ⟨g, q1, hs _ _ q2, q3⟩, h.apart⟩
/-- A piece of the document's row is read. -/
theorem mpiece_at {σ : AS} {g : Nat} {l : List (Nat × Nat × Nat)} {i : Int} (hv : σ g = some (.cells ((flat3 l).map .pv))) (h0 : 0 ≤ i) (h1 : i.toNat < l.length) {K : AV → Prop} (hK : K (.agg [.pv (.int .i64 l[i.toNat].1), .pv (.int .i64 l[i.toNat].2.1), .pv (.int .i64 l[i.toNat].2.2)])) :
    indexAddrD PA 26 (.msl g 0 l.length 3) (.pv (.int .i64 i)) fun a => loadD PA σ 28 a K := by
  simp only [ix_msl, go_sem]
  refine ⟨h0, by omega, ?_⟩
  rw [load_addrA T.hT28 T.ag28 hv, T.sz28]
  refine ⟨by rw [List.length_map, flat3_length]; omega, ?_⟩
  rw [← List.map_drop, ← List.map_take, flat3_get l _ h1]
  exact hK
theorem in3 {l : List Int} {k ida idb : Nat} {σ τ : AS} {K : AV → AS → Prop} {X : PV → AS → Prop} {ra rb : List AV} (hk : k ≤ 4096) (hn : sumN l ≤ 1000000) (ha : τ ida = some (.cells ra)) (hra : ∀ j, j < k → ∃ v, ra[j]? = some v ∧ toPV v = some (.lst (rowS l k j).length (flat3 (rowS l k j))))
    (hb : S2 k idb σ τ (rowS l k) rb) (hK : ∀ τ, K (.pv (.bool true)) τ) :
    ∃ I15 : Nat → List AV → AS → Prop, (∃ m, I15 m [.msl idb 0 k 1, .msl ida 0 k 1, .pv (.int .i64 k), .pv (.int .i64 0)] τ) ∧ ∀ (m15 : Nat) (a b c d : AV), ∀ σ5, I15 m15 [a, b, c, d] σ5 → L3_15 envC I15 m15 a b c d σ5 K X := by
  refine ⟨fun m vs τ => τ ida = some (.cells ra) ∧ S2 k idb σ τ (rowS l k) rb ∧ ∃ (i : Nat), m + i = k ∧ vs = [.msl idb 0 k 1, .msl ida 0 k 1, .pv (.int .i64 k), .pv (.int .i64 i)], ⟨k, ha, hb, 0, by omega, rfl⟩, ?_⟩
  rintro m a b c d τ1 ⟨ha, hb, i, hm, hv⟩
  simp only [List.cons.injEq, and_true] at hv
  obtain ⟨rfl, rfl, rfl, rfl⟩ := hv
  unfold L3_15
  rw [bin_lss, cond_bool]
  split
  · rename_i hi
    have hi : i < k := by simp at hi; omega
    obtain ⟨v, hv1, hv2⟩ := hra i hi
    obtain ⟨w, hw1, hw2⟩ := hb.row i hi
    have hlen : (rowS l k i).length ≤ 1000000 := by
      have := pieces_length l 0 (lowS l k i) (lowS l k (i + 1))
      have := lowS_top l k (i + 1) (by omega)
      unfold rowS
      omega
    have hwl : ∀ K, lenD PA 26 w K = K (.pv (.int .i64 (rowS l k i).length)) := by
      intro K
      rcases hw2 with ⟨rfl, e⟩ | ⟨g, rfl, _⟩
      · rw [len_nil (by rw [T.el26]; rfl), e]; rfl
      · rw [len_msl (by rw [T.el26]; rfl)]
    refine row_at ha (by omega) (by omega) (by simpa using hv1) ?_
    rw [len_of (by rw [T.el26]; rfl) hv2]
    refine row_at hb.here (by omega) (by omega) (by simpa using hw1) ?_
    rw [hwl, bin_neq, cond_bool, if_neg (by simp), len_of (by rw [T.el26]; rfl) hv2]
    refine ⟨fun m2 vs τ => τ ida = some (.cells ra) ∧ S2 k idb σ τ (rowS l k) rb ∧ ∃ (j : Nat), m2 + j = (rowS l k i).length ∧ vs = [.msl idb 0 k 1, .pv (.int .i64 i), .msl ida 0 k 1, .pv (.int .i64 k), .pv (.int .i64 i), v, .pv (.int .i64 (rowS l k i).length), .pv (.int .i64 j)], ⟨(rowS l k i).length, ha, hb, 0, by omega, rfl⟩, ?_⟩
    rintro m2 a b c d e f g h τ2 ⟨ha, hb, j, hm2, hv⟩
    simp only [List.cons.injEq, and_true] at hv
    obtain ⟨rfl, rfl, rfl, rfl, rfl, rfl, rfl, rfl⟩ := hv
    unfold L3_20
    rw [bin_lss, cond_bool]
    split
    · rename_i hj
      have hj : j < (rowS l k i).length := by simp at hj; omega
      refine piece_at hv2 (by omega) (by simpa using hj) ?_
      simp only [Int.toNat_natCast]
      refine var28 _ _ _ ?_
      intro pid hpid
      have hsub := sub_set (.cells [.pv (.int .i64 (rowS l k i)[j].1), .pv (.int .i64 (rowS l k i)[j].2.1), .pv (.int .i64 (rowS l k i)[j].2.2)]) hpid
      rw [load_addrA T.hT28 T.ag28 (set_same _ _ _), T.sz28]
      refine ⟨by simp, ?_⟩
      have hb' := hb.mono hsub
      refine row_at hb'.here (by omega) (by omega) (by simpa using hw1) ?_
      obtain ⟨w', hw1', hw2'⟩ := hb'.row i hi
      rw [hw1] at hw1'
      cases hw1'
      rcases hw2' with ⟨rfl, e⟩ | ⟨g, rfl, hg, _⟩
      · rw [e] at hj; simp at hj
      · refine mpiece_at hg (by omega) (by simpa using hj) ?_
        simp only [Int.toNat_natCast, List.drop_zero, List.take_succ_cons, List.take_zero]
        rw [neq28, cond_bool, if_neg (by simp), bin_add, wrap64 (by omega) (by omega)]
        exact ⟨m2 - 1, by omega, hsub _ _ ha, hb', j + 1, by omega, by simp⟩
    · rename_i hj
      rw [bin_add, wrap64 (by omega) (by omega)]
      exact ⟨m - 1, by omega, ha, hb, i + 1, by omega, by simp⟩
  · exact retV_self (hK _)
theorem j35 {l : List Int} {k : Int} {σ : AS} {K : AV → AS → Prop} {X : PV → AS → Prop} (hl : ∀ c ∈ l, in64 c) (hk : in64 k) (hll : l.length ≤ 20) (hK : ∀ τ, K (.pv (.bool true)) τ) :
    J3_5 envC (.pv (.lst l.length (i64s l))) (.pv (.int .i64 k)) σ K X := by
  unfold J3_5
  rw [len_lst (by rw [T.el22]; rfl)]
  refine ⟨fun m vs τ => τ = σ ∧ ∃ (i : Nat), m + i = l.length ∧ (∀ c ∈ l.take i, c ≤ 100) ∧ vs = [.pv (.lst l.length (i64s l)), .pv (.int .i64 k), .pv (.lst l.length (i64s l)), .pv (.int .i64 l.length), .pv (.int .i64 i)], ⟨l.length, rfl, 0, by omega, by simp, by simp⟩, ?_⟩
  rintro m a b c d e τ ⟨rfl, i, hm, hall, hv⟩
  simp only [List.cons.injEq, and_true] at hv
  obtain ⟨rfl, rfl, rfl, rfl, rfl⟩ := hv
  unfold L3_6
  rw [bin_lss, cond_bool]
  split
  · rename_i hi
    have hi : i < l.length := by simp at hi; omega
    simp only [ix_lst, go_sem]
    refine ⟨by omega, _, i64s_get l i hi, ?_⟩
    simp only [go_sem, gt_iff_lt]
    split
    · exact retV_self (hK _)
    · rename_i h1
      rw [wrap64 (by omega) (by omega)]
      refine ⟨m - 1, by omega, i + 1, by omega, ?_, by simp⟩
      intro c hc
      rw [List.take_succ_eq_append_getElem hi] at hc
      rcases List.mem_append.1 hc with h | h
      · exact hall c h
      · simp only [List.mem_singleton] at h; omega
  · rename_i hi
    have hi : i = l.length := by simp at hi; omega
    subst hi
    rw [List.take_length] at hall
    have hsum := sumN_small l hall
    have hg : cutBad l 0 = false := cutBad_ok 0 (by omega) (by omega)
    rw [envC15]
    refine Tr.wk_same ⟨l, k, rfl, hl, hk, by omega, ?_⟩
    unfold Out15
    split
    · rename_i h1
      rw [envC16]
      refine Tr.wk_same ⟨l, k, rfl, fun c hc => ⟨hl c hc, hall c hc⟩, hk, hll, ?_⟩
      rw [if_pos (by rcases h1 with h | h | h <;> simp_all)]
      show lenD PA 24 .nilS _
      rw [len_nil (by rw [T.el24]; rfl), len_nil (by rw [T.el24]; rfl), bin_neq, cond_bool, if_neg (by simp), len_nil (by rw [T.el24]; rfl)]
      refine ⟨fun m vs τ => vs = [.nilS, .nilS, .pv (.int .i64 0), .pv (.int .i64 0)], ⟨0, rfl⟩, ?_⟩
      rintro m a b c d τ hv
      simp only [List.cons.injEq, and_true] at hv
      obtain ⟨rfl, rfl, rfl, rfl⟩ := hv
      unfold L3_15
      rw [bin_lss, cond_bool, if_neg (by simp)]
      exact retV_self (hK _)
    · rename_i h1
      obtain ⟨k, rfl⟩ : ∃ j : Nat, k = j := ⟨k.toNat, by omega⟩
      intro ida τ1 ra hs1 ha _ hra
      rw [envC16]
      refine Tr.wk_same ⟨l, k, rfl, fun c hc => ⟨hl c hc, hall c hc⟩, hk, hll, ?_⟩
      rw [if_neg (by omega)]
      intro idb τ2 rb hb
      simp only [Int.toNat_natCast] at hra hb ⊢
      rw [len_msl (by rw [T.el24]; rfl), len_msl (by rw [T.el24]; rfl), bin_neq, cond_bool, if_neg (by simp), len_msl (by rw [T.el24]; rfl)]
      exact in3 (by omega) (by omega) (hb.sub _ _ ha) hra hb hK
def T3 : Tr := fun args σ K _ => ∃ (l : List Int) (k : Int), args = [.pv (.lst l.length (i64s l)), .pv (.int .i64 k)] ∧ (∀ c ∈ l, in64 c) ∧ in64 k ∧ ∀ τ, K (.pv (.bool true)) τ
theorem T3_ok (args : List AV) (σ : AS) (K : AV → AS → Prop) (X : PV → AS → Prop) (h : T3 args σ K X) : bodyD Go.Proofs.Try.prog envC an3 Go.Proofs.Try.f3 args σ K X := by
  obtain ⟨l, k, rfl, hl, hk, hK⟩ := h
  rw [← S3_eq envC]
  unfold S3
  rw [envC14]
  refine Tr.wk_same ⟨rfl, fun σ1 _ => ?_⟩
  simp only [go_sem]
  simp only [Bool.not_true, Bool.false_eq_true, if_false, gt_iff_lt]
  split
  · exact retV_self (hK _)
  · rename_i h1
    have go : J3_5 envC (.pv (.lst l.length (i64s l))) (.pv (.int .i64 k)) σ1 K X := j35 hl hk (by omega) hK
    split
    · split
      · exact retV_self (hK _)
      · exact go
    · exact go
theorem F3 (hm : Go.Proofs.Try.prog.follows .mixedOrders = true) : SoundF Go.Proofs.Try.prog 3 T3 := body_sound hm (envC_ok hm) an3 Go.Proofs.Try.func3 Go.Proofs.Try.call3 S3_ok T3_ok
end Go.AD
