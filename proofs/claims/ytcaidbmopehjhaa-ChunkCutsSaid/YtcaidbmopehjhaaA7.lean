/- ChunkWhole: it comes to true. -/
import Derived.Test.YtcaidbmopehjhaaA5
import Derived.Test.YtcaidbmopehjhaaA6
import Derived.Test.YtcaidbmopehjhaaG3
set_option linter.unusedVariables false
namespace Go.AD
/-- What stands throughout the law's loops over the rows. -/
structure Wh (l : List Int) (k : Nat) (rows : List AV) (K : AV → AS → Prop) : Prop where
  hl : ∀ c ∈ l, in64 c
  hll : l.length ≤ 1073741824
  hk0 : 0 < k
  hk : k ≤ 4096
  hn : sumN l ≤ 2147483647
  rows : ∀ j, j < k → ∃ v, rows[j]? = some v ∧ toPV v = some (.lst (rowS l k j).length (flat3 (rowS l k j)))
  K : ∀ τ, K (.pv (.bool true)) τ
/-- Where the law stands in the files. -/
structure Pos (l : List Int) (file next pos : Nat) : Prop where
  hf : file ≤ l.length
  hn : next ≤ (l.getD file 0).toNat
  hs : sumN (l.take file) + next = pos
theorem in27 {l : List Int} {k oid i j : Nat} {rows : List AV} {K : AV → AS → Prop} {X : PV → AS → Prop} (W : Wh l k rows K) {I21 : Nat → List AV → AS → Prop} {m21 : Nat} {I25 : Nat → List AV → AS → Prop} {m25 : Nat} {τ : AS} {pid : Nat} {vn all least most v len : AV} {size : Nat} {file next f a b : Nat}
    (ho : τ oid = some (.cells rows)) (hp : τ pid = some (.cells [.pv (.int .i64 f), .pv (.int .i64 a), .pv (.int .i64 b)])) (hpos : Pos l file next (sumN (l.take f) + a)) (hff : file ≤ f) (hab : a < b) (hfl : f < l.length) (hb : b ≤ (l.getD f 0).toNat) (hsz : size + (b - a) ≤ 2147483647) (hj : j ≤ 2147483647)
    (hout : ∃ m', m' < m25 ∧ I25 m' [.pv (.lst l.length (i64s l)), vn, .pv (.int .i64 f), .pv (.int .i64 b), all, least, most, .pv (.int .i64 (size + (b - a) : Nat)), .msl oid 0 k 1, .pv (.int .i64 k), .pv (.int .i64 i), v, len, .pv (.int .i64 (j + 1 : Nat))] τ) :
    ∃ I27 : Nat → List AV → AS → Prop, (∃ m, I27 m [.pv (.lst l.length (i64s l)), vn, .pv (.int .i64 file), .pv (.int .i64 next), all, least, most, .pv (.int .i64 size), .addr pid 0, .msl oid 0 k 1, .pv (.int .i64 k), .pv (.int .i64 i), v, len, .pv (.int .i64 j)] τ) ∧
      ∀ (m27 : Nat) (x0 x1 x2 x3 x4 x5 x6 x7 x8 x9 x10 x11 x12 x13 x14 : AV), ∀ σ9, I27 m27 [x0, x1, x2, x3, x4, x5, x6, x7, x8, x9, x10, x11, x12, x13, x14] σ9 → L4_27 envB I21 m21 I25 m25 I27 m27 x0 x1 x2 x3 x4 x5 x6 x7 x8 x9 x10 x11 x12 x13 x14 σ9 K X := by
  refine ⟨fun m vs τ' => τ' = τ ∧ ∃ (file next : Nat), m = f - file ∧ file ≤ f ∧ Pos l file next (sumN (l.take f) + a) ∧ vs = [.pv (.lst l.length (i64s l)), vn, .pv (.int .i64 file), .pv (.int .i64 next), all, least, most, .pv (.int .i64 size), .addr pid 0, .msl oid 0 k 1, .pv (.int .i64 k), .pv (.int .i64 i), v, len, .pv (.int .i64 j)],
    ⟨_, rfl, file, next, rfl, hff, hpos, rfl⟩, ?_⟩
  rintro m x0 x1 x2 x3 x4 x5 x6 x7 x8 x9 x10 x11 x12 x13 x14 τ' ⟨rfl, file, next, hm, hff, hpos, hv⟩
  simp only [List.cons.injEq, and_true] at hv
  obtain ⟨rfl, rfl, rfl, rfl, rfl, rfl, rfl, rfl, rfl, rfl, rfl, rfl, rfl, rfl, rfl⟩ := hv
  have hll := W.hll
  have hfi : in64 l[f] := W.hl _ (List.getElem_mem hfl)
  unfold in64 at hfi
  have hgf : l.getD f 0 = l[f] := by simp [hfl]
  have ld : ∀ (o : Nat) (v : AV) (K : AV → Prop), [AV.pv (.int .i64 f), .pv (.int .i64 a), .pv (.int .i64 b)][o]? = some v → K v → loadD PA τ' 3 (.addr pid o) K := by
    intro o v K ho hK
    rw [load_addr T.hT3 T.ag3 hp]
    exact ⟨v, ho, hK⟩
  have ic : ∀ (g : Nat) (hg : g < l.length) (K : AV → Prop), K (.pv (.int .i64 l[g])) → indexAddrD PA 22 (.pv (.lst l.length (i64s l))) (.pv (.int .i64 g)) fun t => loadD PA τ' 3 t K := by
    intro g hg K hK
    simp only [go_sem]
    exact ⟨by omega, _, i64s_get l g hg, hK⟩
  unfold L4_27
  simp only [fa_addr, go_sem]
  refine ld 0 _ _ rfl ?_
  simp only [go_sem]
  split
  · rename_i h1
    have h1 : file < f := by omega
    obtain ⟨e1, e2⟩ := chain_up hfl hpos.hs h1 hpos.hn
    have hfl2 : file < l.length := by omega
    have hgg : l.getD file 0 = l[file] := by simp [hfl2]
    rw [hgg] at e1
    refine ⟨by omega, _, i64s_get l file hfl2, ?_⟩
    simp only [go_sem]
    rw [if_neg (by simp; omega), wrap64 (by omega) (by omega)]
    exact ⟨f - (file + 1), by omega, file + 1, 0, rfl, by omega, ⟨by omega, by omega, e2⟩, by simp⟩
  · rename_i h1
    have h1 : file = f := by omega
    subst h1
    have hna : next = a := by have := hpos.hs; omega
    subst hna
    refine ld 0 _ _ rfl ?_
    simp only [go_sem]
    rw [if_neg (by simp)]
    refine ld 1 _ _ rfl ?_
    simp only [go_sem]
    rw [if_neg (by simp)]
    refine ld 2 _ _ rfl (ld 1 _ _ rfl ?_)
    simp only [go_sem]
    rw [if_neg (by simp; omega)]
    refine ld 2 _ _ rfl ?_
    refine ⟨by omega, _, i64s_get l file hfl, ?_⟩
    simp only [go_sem, gt_iff_lt]
    rw [hgf] at hb
    rw [if_neg (by omega)]
    unfold J4_33
    simp only [fa_addr, go_sem]
    refine ld 2 _ _ rfl (ld 1 _ _ rfl ?_)
    simp only [go_sem]
    refine ld 2 _ _ rfl ?_
    rw [wrap64 (n := (b : Int) - next) (by omega) (by omega), wrap64 (n := (size : Int) + _) (by omega) (by omega), wrap64 (by omega) (by omega)]
    have e1 : (size : Int) + ((b : Int) - next) = ((size + (b - next) : Nat) : Int) := by omega
    rw [e1]
    exact hout
/-- A variable of its own for a piece. -/
theorem var28 {σ : AS} (a b c : Int) {K : AV → AS → Prop} (hK : ∀ pid, σ pid = none → K (.addr pid 0) (σ.set pid (.cells [.pv (.int .i64 a), .pv (.int .i64 b), .pv (.int .i64 c)]))) :
    allocD PA σ 28 fun x τ => storeD PA τ 28 x (.agg [.pv (.int .i64 a), .pv (.int .i64 b), .pv (.int .i64 c)]) fun τ => K x τ := by
  refine alloc_of T.zo28 rfl ?_
  intro pid hpid
  rw [store_addr T.hT28 (by rw [T.sz28]; rfl) rfl (set_same _ _ _), set_set]
  exact ⟨by simp [AV.cells], hK pid hpid⟩
/-- Least and most so far. -/
structure LM (l : List Int) (k i : Nat) (least most : Int) : Prop where
  least0 : 0 ≤ least
  least1 : least ≤ 9223372036854775807
  most0 : 0 ≤ most
  most1 : most ≤ 2147483648
  low : ((sumN l / k : Nat) : Int) ≤ least
  high : most ≤ ((sumN l / k + 1 : Nat) : Int)
  some_ : 0 < i → least ≤ 2147483647
theorem in25 {l : List Int} {k oid i : Nat} {rows : List AV} {K : AV → AS → Prop} {X : PV → AS → Prop} (W : Wh l k rows K) (hi : i < k) {I21 : Nat → List AV → AS → Prop} {m21 : Nat} {τ : AS} {v : AV} {least most : Int} {file next : Nat}
    (ho : τ oid = some (.cells rows)) (hv : toPV v = some (.lst (rowS l k i).length (flat3 (rowS l k i)))) (hpos : Pos l file next (lowS l k i)) (hlm : LM l k i least most)
    (hout : ∀ τ' file' next' least' most', τ' oid = some (.cells rows) → Pos l file' next' (lowS l k (i + 1)) → LM l k (i + 1) least' most' →
      ∃ m', m' < m21 ∧ I21 m' [.pv (.lst l.length (i64s l)), .pv (.int .i64 (sumN l)), .pv (.int .i64 file'), .pv (.int .i64 next'), .pv (.int .i64 (lowS l k (i + 1))), .pv (.int .i64 least'), .pv (.int .i64 most'), .msl oid 0 k 1, .pv (.int .i64 k), .pv (.int .i64 (i + 1 : Nat))] τ') :
    ∃ I25 : Nat → List AV → AS → Prop, (∃ m, I25 m [.pv (.lst l.length (i64s l)), .pv (.int .i64 (sumN l)), .pv (.int .i64 file), .pv (.int .i64 next), .pv (.int .i64 (lowS l k i)), .pv (.int .i64 least), .pv (.int .i64 most), .pv (.int .i64 0), .msl oid 0 k 1, .pv (.int .i64 k), .pv (.int .i64 i), v, .pv (.int .i64 (rowS l k i).length), .pv (.int .i64 0)] τ) ∧
      ∀ (m25 : Nat) (x0 x1 x2 x3 x4 x5 x6 x7 x8 x9 x10 x11 x12 x13 : AV), ∀ σ9, I25 m25 [x0, x1, x2, x3, x4, x5, x6, x7, x8, x9, x10, x11, x12, x13] σ9 → L4_25 envB I21 m21 I25 m25 x0 x1 x2 x3 x4 x5 x6 x7 x8 x9 x10 x11 x12 x13 σ9 K X := by
  have hn := W.hn
  have htop := lowS_top l k (i + 1) (by omega)
  have hrl : (rowS l k i).length ≤ 2147483647 := by
    have := pieces_length l 0 (lowS l k i) (lowS l k (i + 1))
    unfold rowS
    omega
  refine ⟨fun m vs τ => τ oid = some (.cells rows) ∧ ∃ (j file next pos : Nat), m + j = (rowS l k i).length ∧ lowS l k i ≤ pos ∧ Pos l file next pos ∧ Chain l pos ((rowS l k i).drop j) (lowS l k (i + 1)) ∧ j ≤ pos - lowS l k i ∧
      vs = [.pv (.lst l.length (i64s l)), .pv (.int .i64 (sumN l)), .pv (.int .i64 file), .pv (.int .i64 next), .pv (.int .i64 (lowS l k i)), .pv (.int .i64 least), .pv (.int .i64 most), .pv (.int .i64 (pos - lowS l k i : Nat)), .msl oid 0 k 1, .pv (.int .i64 k), .pv (.int .i64 i), v, .pv (.int .i64 (rowS l k i).length), .pv (.int .i64 j)],
    ⟨_, ho, 0, file, next, lowS l k i, rfl, Nat.le_refl _, hpos, row_chain l k i hi, by omega, by simp⟩, ?_⟩
  rintro m x0 x1 x2 x3 x4 x5 x6 x7 x8 x9 x10 x11 x12 x13 τ' ⟨ho', j, file, next, pos, hm, hlo, hpos, hch, hjp, hvs⟩
  simp only [List.cons.injEq, and_true] at hvs
  obtain ⟨rfl, rfl, rfl, rfl, rfl, rfl, rfl, rfl, rfl, rfl, rfl, rfl, rfl, rfl⟩ := hvs
  have hle := hch.le
  unfold L4_25
  simp only [go_sem]
  split
  · rename_i hj
    have hj : j < (rowS l k i).length := by omega
    rw [List.drop_eq_getElem_cons hj] at hch
    obtain ⟨c1, c2, c3, c4, c5⟩ := hch
    have hle := c5.le
    refine piece_at hv (by omega) (by simpa using hj) ?_
    simp only [Int.toNat_natCast]
    refine var28 _ _ _ ?_
    intro pid hpid
    have hne : oid ≠ pid := by intro e; rw [← e, ho'] at hpid; cases hpid
    refine in27 W (by rw [set_ne _ _ hne]; exact ho') (set_same _ _ _) (by rw [c1]; exact hpos) ?_ c2 c3 c4 (by omega) (by omega) ?_
    · rcases Nat.lt_or_ge ((rowS l k i)[j].1) file with h | h
      · exfalso
        have h1 := sumN_take l _ c3
        have h2 := sumN_take_le l ((rowS l k i)[j].1 + 1) file h
        have h3 := hpos.hs
        have hg : l.getD (rowS l k i)[j].1 0 = l[(rowS l k i)[j].1] := by simp [c3]
        rw [hg] at c4
        omega
      · exact h
    · refine ⟨m - 1, by omega, by rw [set_ne _ _ hne]; exact ho', j + 1, _, _, _, by omega, ?_, ⟨by omega, c4, rfl⟩, c5, by omega, ?_⟩
      · omega
      · rw [show pos - lowS l k i + ((rowS l k i)[j].2.2 - (rowS l k i)[j].2.1) = sumN (l.take (rowS l k i)[j].1) + (rowS l k i)[j].2.2 - lowS l k i by omega]
  · rename_i hj
    have hj : j = (rowS l k i).length := by omega
    subst hj
    rw [List.drop_length] at hch
    have hch : pos = lowS l k (i + 1) := hch
    subst hch
    rw [wrap64 (n := (lowS l k i : Int) + _) (by omega) (by omega), wrap64 (by have := W.hk; omega) (by have := W.hk; omega), show (lowS l k i : Int) + ((lowS l k (i + 1) - lowS l k i : Nat) : Int) = (lowS l k (i + 1) : Int) by omega]
    obtain ⟨q1, q2⟩ := low_step l k i W.hk0
    have hq : sumN l / k ≤ sumN l := Nat.div_le_self _ _
    refine hout τ' file next _ _ ho' hpos ⟨?_, ?_, ?_, ?_, ?_, ?_, ?_⟩
    all_goals have a1 := hlm.least0
    all_goals have a2 := hlm.least1
    all_goals have a3 := hlm.most0
    all_goals have a4 := hlm.most1
    all_goals have a5 := hlm.low
    all_goals have a6 := hlm.high
    all_goals omega
theorem in21 {l : List Int} {k oid : Nat} {rows : List AV} {K : AV → AS → Prop} {X : PV → AS → Prop} (W : Wh l k rows K) {τ : AS} (ho : τ oid = some (.cells rows)) :
    ∃ I21 : Nat → List AV → AS → Prop, (∃ m, I21 m [.pv (.lst l.length (i64s l)), .pv (.int .i64 (sumN l)), .pv (.int .i64 0), .pv (.int .i64 0), .pv (.int .i64 0), .pv (.int .i64 9223372036854775807), .pv (.int .i64 0), .msl oid 0 k 1, .pv (.int .i64 k), .pv (.int .i64 0)] τ) ∧
      ∀ (m21 : Nat) (x0 x1 x2 x3 x4 x5 x6 x7 x8 x9 : AV), ∀ σ9, I21 m21 [x0, x1, x2, x3, x4, x5, x6, x7, x8, x9] σ9 → L4_21 envB I21 m21 x0 x1 x2 x3 x4 x5 x6 x7 x8 x9 σ9 K X := by
  have hn := W.hn
  have hq : sumN l / k ≤ sumN l := Nat.div_le_self _ _
  have hq0 : (0 : Int) ≤ ((sumN l / k : Nat) : Int) := Int.natCast_nonneg _
  refine ⟨fun m vs τ => τ oid = some (.cells rows) ∧ ∃ (i file next : Nat) (least most : Int), m + i = k ∧ Pos l file next (lowS l k i) ∧ LM l k i least most ∧
      vs = [.pv (.lst l.length (i64s l)), .pv (.int .i64 (sumN l)), .pv (.int .i64 file), .pv (.int .i64 next), .pv (.int .i64 (lowS l k i)), .pv (.int .i64 least), .pv (.int .i64 most), .msl oid 0 k 1, .pv (.int .i64 k), .pv (.int .i64 i)],
    ⟨k, ho, 0, 0, 0, 9223372036854775807, 0, by omega, ⟨by omega, by omega, by simp [sumN, lowS]⟩, ⟨by omega, by omega, by omega, by omega, by omega, by omega, by omega⟩, by simp [lowS_zero]⟩, ?_⟩
  rintro m x0 x1 x2 x3 x4 x5 x6 x7 x8 x9 τ' ⟨ho', i, file, next, least, most, hm, hpos, hlm, hvs⟩
  simp only [List.cons.injEq, and_true] at hvs
  obtain ⟨rfl, rfl, rfl, rfl, rfl, rfl, rfl, rfl, rfl, rfl⟩ := hvs
  unfold L4_21
  rw [bin_lss, cond_bool]
  split
  · rename_i hi
    have hi : i < k := by simp at hi; omega
    obtain ⟨v, h1, h2⟩ := W.rows i hi
    refine row_at ho' (by omega) (by omega) (by simpa using h1) ?_
    rw [len_of (by rw [T.el26]; rfl) h2]
    refine in25 W hi ho' h2 hpos hlm ?_
    intro τ2 f2 n2 l2 m2 q1 q2 q3
    exact ⟨m - 1, by omega, q1, i + 1, f2, n2, l2, m2, by omega, q2, q3, rfl⟩
  · rename_i hi
    have hi : i = k := by simp at hi; omega
    subst hi
    have a1 := hlm.least0
    have a2 := hlm.least1
    have a3 := hlm.most0
    have a4 := hlm.most1
    have a5 := hlm.low
    have a6 := hlm.high
    have a7 := hlm.some_ W.hk0
    rw [lowS_full l i W.hk0, bin_eql, guard_true, if_pos (by simp), bin_sub, wrap64 (by omega) (by omega), bin_leq, decide_eq_true (by omega)]
    exact retV_self (W.K _)
theorem j415 {l : List Int} {k : Int} {K : AV → AS → Prop} {X : PV → AS → Prop} (hl : ∀ c ∈ l, in64 c) (hll : l.length ≤ 1073741824) (hg : cutBad l 0 = false) (hn : sumN l ≤ 2147483647) (hK : ∀ τ, K (.pv (.bool true)) τ) {τ : AS} {v : AV}
    (hbad : (k < 1 ∨ k > 4096) → v = .nilS) (hgood : ¬ (k < 1 ∨ k > 4096) → ∃ oid rows, v = .msl oid 0 k.toNat 1 ∧ τ oid = some (.cells rows) ∧ (∀ j, j < k.toNat → ∃ v, rows[j]? = some v ∧ toPV v = some (.lst (rowS l k.toNat j).length (flat3 (rowS l k.toNat j))))) :
    J4_15 envB (.pv (.lst l.length (i64s l))) (.pv (.int .i64 k)) (.pv (.int .i64 (sumN l))) v (.pv (.bool (decide (k < 1 ∨ k > 4096)))) τ K X := by
  unfold J4_15
  rw [cond_bool]
  split
  · rename_i h
    rw [hbad (by simpa using h)]
    simp only [go_sem]
    exact retV_self (hK _)
  · rename_i h
    have h : ¬ (k < 1 ∨ k > 4096) := by simpa using h
    obtain ⟨oid, rows, rfl, h1, h2⟩ := hgood h
    obtain ⟨k, rfl⟩ : ∃ j : Nat, k = j := ⟨k.toNat, by omega⟩
    simp only [Int.toNat_natCast] at h1 h2 ⊢
    rw [len_msl (by rw [T.el24]; rfl), bin_neq, cond_bool, if_neg (by simp), len_msl (by rw [T.el24]; rfl)]
    exact in21 ⟨hl, hll, by omega, by omega, hn, h2, hK⟩ h1
/-- The argument's cut is called. -/
theorem call15 {l : List Int} {k : Int} {σ : AS} {K : AV → AS → Prop} {X : PV → AS → Prop} (hl : ∀ c ∈ l, in64 c) (hk : in64 k) (hll : l.length ≤ 1073741824) (h : Out15 l k σ K) : envB 15 [.pv (.lst l.length (i64s l)), .pv (.int .i64 k)] σ K X :=
  Tr.wk_same ⟨l, k, rfl, hl, hk, hll, h⟩
def T4 : Tr := fun args σ K _ => ∃ (l : List Int) (k : Int), args = [.pv (.lst l.length (i64s l)), .pv (.int .i64 k)] ∧ (∀ c ∈ l, in64 c) ∧ in64 k ∧ ∀ τ, K (.pv (.bool true)) τ
theorem T4_ok (args : List AV) (σ : AS) (K : AV → AS → Prop) (X : PV → AS → Prop) (h : T4 args σ K X) : bodyD Go.Proofs.Try.prog envB an4 Go.Proofs.Try.f4 args σ K X := by
  obtain ⟨l, k, rfl, hl, hk, hK⟩ := h
  rw [← S4_eq envB]
  unfold S4
  rw [envB14]
  refine Tr.wk_same ⟨rfl, fun σ1 _ => ?_⟩
  simp only [go_sem]
  simp only [Bool.not_true, Bool.false_eq_true, if_false, gt_iff_lt]
  split
  · exact retV_self (hK _)
  · rename_i hlen
    have hlen : l.length ≤ 1000 := by omega
    refine ⟨fun m vs τ => τ = σ1 ∧ ∃ (i : Nat) (n : Int), m + i = l.length ∧ n = sumN (l.take i) ∧ n ≤ 2147483647 ∧ (∀ j, j ≤ i → sumN (l.take j) ≤ 2147483647) ∧ vs = [.pv (.lst l.length (i64s l)), .pv (.int .i64 k), .pv (.int .i64 n), .pv (.lst l.length (i64s l)), .pv (.int .i64 l.length), .pv (.int .i64 i)],
      ⟨l.length, rfl, 0, 0, by omega, rfl, by omega, fun j hj => by rw [Nat.le_zero.1 hj]; simp [sumN], by simp⟩, ?_⟩
    rintro m a b c d e f τ ⟨rfl, i, n, hm, hs, hn1, hall, hv⟩
    simp only [List.cons.injEq, and_true] at hv
    obtain ⟨rfl, rfl, rfl, rfl, rfl, rfl⟩ := hv
    have over : ∀ (hi : i < l.length), l[i] > 2147483647 - n → ∀ m7 I7, J4_10 envB I7 m7 (.pv (.lst l.length (i64s l))) (.pv (.int .i64 k)) (.pv (.int .i64 n)) (.pv (.int .i64 l[i])) (.pv (.lst l.length (i64s l))) (.pv (.int .i64 l.length)) (.pv (.int .i64 i)) (.pv (.bool true)) τ K X := by
      intro hi hc m7 I7
      have hbad : cutBad l 0 = true := cutBad_of i 0 hi (by omega) (by omega) (fun j hj => by have := hall j hj; omega)
      unfold J4_10
      rw [cond_bool, if_pos rfl]
      refine call15 hl hk (by omega) ?_
      rw [Out15, if_pos (.inr (.inr hbad)), len_nil (by rw [T.el24]; rfl), bin_eql]
      exact retV_self (hK _)
    unfold L4_7
    rw [bin_lss, cond_bool]
    split
    · rename_i hi
      have hi : i < l.length := by simp at hi; omega
      have hc : in64 l[i] := hl _ (List.getElem_mem hi)
      unfold in64 at hc
      simp only [ix_lst, go_sem]
      refine ⟨by omega, _, i64s_get l i hi, ?_⟩
      simp only [go_sem, gt_iff_lt]
      split
      · rename_i h1
        exact over hi (by omega) _ _
      · rename_i h1
        rw [wrap64 (by omega) (by omega)]
        by_cases h2 : 2147483647 < n + max l[i] 0
        · rw [decide_eq_true h2]
          exact over hi (by omega) _ _
        · rw [decide_eq_false h2]
          unfold J4_10
          simp only [go_sem]
          rw [if_neg (by simp), wrap64 (by omega) (by omega), wrap64 (by omega) (by omega)]
          have ht := sumN_take l i hi
          refine ⟨m - 1, by omega, i + 1, n + max l[i] 0, by omega, by omega, by omega, ?_, by simp⟩
          intro j hj
          rcases Nat.lt_or_eq_of_le hj with h3 | rfl
          · exact hall j (by omega)
          · omega
    · rename_i hi
      have hi : i = l.length := by simp at hi; omega
      subst hi
      rw [List.take_length] at hs
      subst hs
      have hg : cutBad l 0 = false := cutBad_ok 0 (by omega) (by omega)
      have hsn : sumN l ≤ 2147483647 := by omega
      refine call15 hl hk (by omega) ?_
      have fin : ∀ v τ', ((k < 1 ∨ k > 4096) → v = .nilS) → (¬ (k < 1 ∨ k > 4096) → ∃ oid rows, v = .msl oid 0 k.toNat 1 ∧ τ' oid = some (.cells rows) ∧ (∀ j, j < k.toNat → ∃ v, rows[j]? = some v ∧ toPV v = some (.lst (rowS l k.toNat j).length (flat3 (rowS l k.toNat j))))) →
          binD PA .lss 3 (.pv (.int .i64 k)) (.pv (.int .i64 1)) fun t53 => guardD t53 false (binD PA .gtr 3 (.pv (.int .i64 k)) (.pv (.int .i64 4096)) fun t56 => J4_15 envB (.pv (.lst l.length (i64s l))) (.pv (.int .i64 k)) (.pv (.int .i64 (sumN l))) v t56 τ' K X)
            (J4_15 envB (.pv (.lst l.length (i64s l))) (.pv (.int .i64 k)) (.pv (.int .i64 (sumN l))) v (.pv (.bool true)) τ' K X) := by
        intro v τ' hb hgd
        have := j415 (X := X) hl (by omega) hg hsn hK hb hgd
        rw [bin_lss, guard_false]
        split
        · rename_i h1
          rw [decide_eq_true (.inl (by simpa using h1))] at this
          exact this
        · rename_i h1
          have h1 : ¬ k < 1 := by simpa using h1
          rw [bin_gtr]
          rw [show decide (k < 1 ∨ k > 4096) = decide (k > 4096) by simp [h1]] at this
          exact this
      unfold Out15
      split
      · rename_i h1
        exact fin _ _ (fun _ => rfl) (fun h2 => by rcases h1 with h | h | h <;> simp_all)
      · rename_i h1
        intro id τ' rows _ q1 _ q2
        exact fin _ _ (fun h2 => by rcases h2 with h | h <;> simp_all) (fun _ => ⟨id, rows, rfl, q1, q2⟩)
theorem F4 (hm : Go.Proofs.Try.prog.follows .mixedOrders = true) : SoundF Go.Proofs.Try.prog 4 T4 := body_sound hm (envB_ok hm) an4 Go.Proofs.Try.func4 Go.Proofs.Try.call4 S4_ok T4_ok
end Go.AD
