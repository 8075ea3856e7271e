/- chunk.Cut: what it computes. -/
import Derived.Test.YtcaidbmopehjhaaA1
import Derived.Test.YtcaidbmopehjhaaA2
set_option linter.unusedVariables false
namespace Go.AD
noncomputable abbrev PA := Go.Proofs.Try.prog

/-- The shards' rows, under way: those up to i are whole, row i holds these pieces, the others nothing. -/
structure St (l : List Int) (k oid : Nat) (σ τ : AS) (i : Nat) (row : List (Nat × Nat × Nat)) (rows : List AV) : Prop where
  sub : σ.sub τ
  new : σ oid = none
  here : τ oid = some (.cells rows)
  len : rows.length = k
  done : ∀ j, j < i → ∃ v, rows[j]? = some v ∧ toPV v = some (.lst (rowS l k j).length (flat3 (rowS l k j)))
  cur : i < k → ∃ v, rows[i]? = some v ∧ ((v = .nilS ∧ row = []) ∨ ∃ g, v = .grow g row.length (flat3 row) ∧ τ g = some (.front row.length 3) ∧ σ g = none ∧ g ≠ oid)
  rest : ∀ j, i < j → j < k → rows[j]? = some .nilS
theorem St.put {l : List Int} {k oid i : Nat} {σ τ : AS} {row r2 : List (Nat × Nat × Nat)} {rows : List AV} (h : St l k oid σ τ i row rows) (hi : i < k) (g : Nat) (hg : σ g = none) (hgo : g ≠ oid) :
    St l k oid σ ((τ.set g (.front r2.length 3)).set oid (.cells (rows.set i (.grow g r2.length (flat3 r2))))) i r2 (rows.set i (.grow g r2.length (flat3 r2))) where
  sub := by
    intro j o hj
    have h1 : j ≠ oid := by intro e; rw [e, h.new] at hj; cases hj
    have h2 : j ≠ g := by intro e; rw [e, hg] at hj; cases hj
    rw [set_ne _ _ h1, set_ne _ _ h2]
    exact h.sub j o hj
  new := h.new
  here := set_same _ _ _
  len := by rw [List.length_set]; exact h.len
  done := by
    intro j hj
    obtain ⟨v, h1, h2⟩ := h.done j hj
    exact ⟨v, by rw [List.getElem?_set_ne (by omega)]; exact h1, h2⟩
  cur := fun _ => ⟨_, List.getElem?_set_self (by rw [h.len]; exact hi), .inr ⟨g, rfl, by rw [set_ne _ _ hgo]; exact set_same _ _ _, hg, hgo⟩⟩
  rest := by
    intro j hj hk
    rw [List.getElem?_set_ne (by omega)]
    exact h.rest j hj hk
theorem St.next {l : List Int} {k oid i : Nat} {σ τ : AS} {rows : List AV} (h : St l k oid σ τ i (rowS l k i) rows) (hi : i < k) : St l k oid σ τ (i + 1) [] rows where
  sub := h.sub
  new := h.new
  here := h.here
  len := h.len
  done := by
    intro j hj
    rcases Nat.lt_or_eq_of_le (Nat.le_of_lt_succ hj) with h1 | rfl
    · exact h.done j h1
    · obtain ⟨v, h1, h2⟩ := h.cur hi
      refine ⟨v, h1, ?_⟩
      rcases h2 with ⟨rfl, h2⟩ | ⟨g, rfl, _⟩
      · rw [h2]; rfl
      · rfl
  cur := fun hk => ⟨_, h.rest _ (by omega) hk, .inl ⟨rfl, rfl⟩⟩
  rest := fun j hj hk => h.rest j (by omega) hk

theorem rowT26 : RowT PA 26 28 := ⟨T.el26, by rw [T.sz28]; omega, _, T.zo28, by rw [T.sz28]; rfl⟩
theorem build28 (a b c : Int) (K : AV → Prop) : buildD PA 28 [(0, .pv (.int .i64 a)), (1, .pv (.int .i64 b)), (2, .pv (.int .i64 c))] K = K (.agg [.pv (.int .i64 a), .pv (.int .i64 b), .pv (.int .i64 c)]) := by
  simp [buildD, go_sem, Go.Proofs.Try.underlying28, buildFill, setAll, AV.cells, AV.cellOk]
theorem one28 (σ : AS) (a b c : Int) (K : AV → AS → Prop) : buildSliceD PA false σ 26 1 1 [(0, .agg [.pv (.int .i64 a), .pv (.int .i64 b), .pv (.int .i64 c)])] K = K (.full 1 [.int .i64 a, .int .i64 b, .int .i64 c]) σ := by
  simp [buildSliceD, go_sem, elemsFill, AV.cells, AV.cellOk, toPVs, toPV]

/-- A piece is put at the end of row i. -/
theorem put_piece {l : List Int} {k oid i : Nat} {σ τ : AS} {row : List (Nat × Nat × Nat)} {rows : List AV} (h : St l k oid σ τ i row rows) (hi : i < k) (hr : row.length ≤ 2147483647) (a b c : Nat) {Q : AS → Prop}
    (hQ : ∀ τ' rows', St l k oid σ τ' i (row ++ [(a, b, c)]) rows' → Q τ') :
    loadD PA τ 26 (.addr oid i) fun t78 => appendD PA false τ 26 t78 (.full 1 [.int .i64 a, .int .i64 b, .int .i64 c]) fun t86 σ6 => (i : Int) < (k : Int) ∧ storeD PA σ6 26 (.addr oid i) t86 Q := by
  obtain ⟨v, hv, h2⟩ := h.cur hi
  rw [load_addr T.hT26 T.ag26 h.here]
  refine ⟨v, hv, ?_⟩
  have hiL : i < rows.length := by rw [h.len]; exact hi
  have hone : ∀ (σ : AS), shown PA σ 28 (.full 1 [.int .i64 a, .int .i64 b, .int .i64 c]) = some (1, [.int .i64 a, .int .i64 b, .int .i64 c]) := fun _ => rfl
  rcases h2 with ⟨rfl, hrow⟩ | ⟨g, rfl, h3, h4, h5⟩
  · refine app_nil rowT26 (hone _) (by rw [T.sz28]; rfl) (by omega) (by rw [T.by28]; omega) (by omega) ?_
    intro g hg
    have hgo : g ≠ oid := by intro e; rw [e, h.here] at hg; cases hg
    have hgs : σ g = none := by
      cases e : σ g with
      | none => rfl
      | some o => rw [h.sub _ _ e] at hg; cases hg
    refine ⟨by omega, ?_⟩
    refine store_one T.hT26 T.sz26 rfl rfl (by rw [set_ne _ _ (Ne.symm hgo)]; exact h.here) hiL ?_
    have := h.put (r2 := row ++ [(a, b, c)]) hi g hgs hgo
    subst hrow
    rw [T.sz28]
    exact hQ _ _ this
  · refine app_grow rowT26 (hone _) (by rw [T.sz28]; rfl) (by rw [T.sz28]; exact h3) (by rw [T.sz28, flat3_length]) (by rw [T.by28]; omega) (by omega) ?_
    refine ⟨by omega, ?_⟩
    refine store_one T.hT26 T.sz26 rfl rfl (by rw [set_ne _ _ (Ne.symm h5)]; exact h.here) hiL ?_
    have := h.put (r2 := row ++ [(a, b, c)]) hi g h4 h5
    rw [T.sz28]
    rw [flat3_append] at this
    simp only [List.length_append, List.length_singleton] at this
    exact hQ _ _ this

/-- What comes out: nothing, or the shards' rows. -/
def Out15 (l : List Int) (k : Int) (σ : AS) (K : AV → AS → Prop) : Prop :=
  if k < 1 ∨ k > 4096 ∨ cutBad l 0 = true then K .nilS σ else
  ∀ id τ rows, σ.sub τ → τ id = some (.cells rows) → rows.length = k.toNat → (∀ j, j < k.toNat → ∃ v, rows[j]? = some v ∧ toPV v = some (.lst (rowS l k.toNat j).length (flat3 (rowS l k.toNat j)))) → K (.msl id 0 k.toNat 1) τ
def T15 : Tr := fun args σ K _ => ∃ (l : List Int) (k : Int), args = [.pv (.lst l.length (i64s l)), .pv (.int .i64 k)] ∧ (∀ c ∈ l, in64 c) ∧ in64 k ∧ l.length ≤ 1073741824 ∧ Out15 l k σ K

/-- The shard's own loop. -/
theorem in15 {l : List Int} {k oid i : Nat} {σ : AS} (hl : ∀ c ∈ l, in64 c) (hk : k ≤ 4096) (hi : i < k) (hll : l.length ≤ 1073741824) (hn : sumN l ≤ 2147483647) {I14 : Nat → List AV → AS → Prop} {m14 : Nat} {K : AV → AS → Prop} {X : PV → AS → Prop} {vn : AV} {file used : Nat} {τ : AS} {rows : List AV}
    (hS : St l k oid σ τ i [] rows) (hf : file ≤ l.length) (hu : used ≤ (l.getD file 0).toNat) (hp : sumN (l.take file) + used = lowS l k i)
    (hout : ∀ file' used' τ' rows', St l k oid σ τ' (i + 1) [] rows' → file' ≤ l.length → used' ≤ (l.getD file' 0).toNat → sumN (l.take file') + used' = lowS l k (i + 1) →
      ∃ m', m' < m14 ∧ I14 m' [.pv (.lst l.length (i64s l)), .pv (.int .i64 k), vn, .msl oid 0 k 1, .pv (.int .i64 file'), .pv (.int .i64 used'), .pv (.int .i64 k), .pv (.int .i64 (i + 1 : Nat))] τ') :
    ∃ I17 : Nat → List AV → AS → Prop, (∃ m, I17 m [.pv (.lst l.length (i64s l)), .pv (.int .i64 k), vn, .msl oid 0 k 1, .pv (.int .i64 file), .pv (.int .i64 used), .pv (.int .i64 i), .pv (.int .i64 (lowS l k (i + 1) - lowS l k i : Nat)), .pv (.int .i64 k), .pv (.int .i64 i)] τ) ∧
      ∀ (m17 : Nat) (a b c d e f g h p q : AV), ∀ σ4, I17 m17 [a, b, c, d, e, f, g, h, p, q] σ4 → L15_17 env0 I14 m14 I17 m17 a b c d e f g h p q σ4 K X := by
  have htop : ∀ j, j ≤ k → lowS l k j ≤ sumN l := fun j hj => lowS_top l k j hj
  refine ⟨fun m vs τ => ∃ (file used want : Nat) (row : List (Nat × Nat × Nat)) (rows : List AV), m = want + (l.length - file) ∧ St l k oid σ τ i row rows ∧ file ≤ l.length ∧ used ≤ (l.getD file 0).toNat ∧ sumN (l.take file) + used + want = lowS l k (i + 1) ∧
      row ++ pieces file (l.drop file) used (used + want) = rowS l k i ∧ row.length + want ≤ sumN l ∧
      vs = [.pv (.lst l.length (i64s l)), .pv (.int .i64 k), vn, .msl oid 0 k 1, .pv (.int .i64 file), .pv (.int .i64 used), .pv (.int .i64 i), .pv (.int .i64 want), .pv (.int .i64 k), .pv (.int .i64 i)],
    ⟨_, file, used, lowS l k (i + 1) - lowS l k i, [], rows, rfl, hS, hf, hu, by have := lowS_le l k i; omega, by rw [List.nil_append]; exact (rowS_at l k i file used hp).symm, by have := htop (i + 1) (by omega); simp; omega, rfl⟩, ?_⟩
  rintro m a b c d e f g h p q τ1 ⟨file, used, want, row, rows, hm, hS, hf, hu, hp, hrow, hlen, hv⟩
  simp only [List.cons.injEq, and_true] at hv
  obtain ⟨rfl, rfl, rfl, rfl, rfl, rfl, rfl, rfl, rfl, rfl⟩ := hv
  unfold L15_17
  simp only [go_sem, gt_iff_lt]
  have ht1 := htop (i + 1) (by omega)
  have htd := sumN_take_drop l file
  split
  · rename_i hw
    have hw : 0 < want := by omega
    have hfl : file < l.length := by
      rcases Nat.lt_or_eq_of_le hf with h1 | h1
      · exact h1
      · exfalso
        subst h1
        simp at hu
        rw [List.drop_length] at htd
        simp only [sumN] at htd
        omega
    have hfi : in64 l[file] := hl _ (List.getElem_mem hfl)
    unfold in64 at hfi
    have hgd : l.getD file 0 = l[file] := by simp [hfl]
    rw [hgd] at hu
    have hsd := sumN_drop l file hfl
    have hlf : l[file] ≤ 2147483647 := by omega
    refine ⟨by omega, _, i64s_get l file (by omega), ?_⟩
    simp only [go_sem, ge_iff_le]
    split
    · rename_i h1
      have hue : used = l[file].toNat := by omega
      rw [wrap64 (by omega) (by omega)]
      refine ⟨want + (l.length - (file + 1)), by omega, file + 1, 0, want, row, rows, rfl, hS, by omega, by omega, ?_, ?_, hlen, by simp⟩
      · rw [sumN_take l file hfl]; omega
      · rw [← hrow, pieces_skip l file used want hfl hue]
    · rename_i h1
      have hue : used < l[file].toNat := by omega
      refine ⟨by omega, _, i64s_get l file (by omega), ?_⟩
      simp only [go_sem]
      have hmin : min (want : Int) (l[file] - used) = ((min want (l[file].toNat - used) : Nat) : Int) := by omega
      rw [wrap64 (n := l[file] - (used : Int)) (by omega) (by omega), hmin, wrap64 (by omega) (by omega), wrap64 (by omega) (by omega)]
      have hadd : (used : Int) + (min want (l[file].toNat - used) : Nat) = ((used + min want (l[file].toNat - used) : Nat) : Int) := by omega
      have hsub : (want : Int) - (min want (l[file].toNat - used) : Nat) = ((want - min want (l[file].toNat - used) : Nat) : Int) := by omega
      rw [hadd, hsub]
      refine ⟨by omega, ?_⟩
      simp only [build28, one28]
      refine put_piece hS hi (by omega) file used (used + min want (l[file].toNat - used)) ?_
      intro τ' rows' hS'
      refine ⟨want - min want (l[file].toNat - used) + (l.length - file), by omega, file, used + min want (l[file].toNat - used), want - min want (l[file].toNat - used), _, rows', rfl, hS', hf, by rw [hgd]; omega, by omega, ?_, by simp; omega, rfl⟩
      rw [← hrow, pieces_step l file used want hfl hue hw, List.append_assoc, show used + min want (l[file].toNat - used) + (want - min want (l[file].toNat - used)) = used + want by omega]
      rfl
  · rename_i hw
    have hw : want = 0 := by omega
    subst hw
    rw [wrap64 (by omega) (by omega)]
    rw [pieces_none _ _ _ _ (by omega), List.append_nil] at hrow
    subst hrow
    have := hout file used τ1 rows (hS.next hi) hf hu (by omega)
    simpa using this
/-- The loop over the shards. -/
theorem out15 {l : List Int} {k oid : Nat} {σ τ : AS} (hl : ∀ c ∈ l, in64 c) (hk : k ≤ 4096) (hk0 : 0 < k) (hll : l.length ≤ 1073741824) (hn : sumN l ≤ 2147483647) {K : AV → AS → Prop} {X : PV → AS → Prop} {rows : List AV}
    (hS : St l k oid σ τ 0 [] rows) (hK : ∀ τ' rows', St l k oid σ τ' k [] rows' → K (.msl oid 0 k 1) τ') :
    ∃ I14 : Nat → List AV → AS → Prop, (∃ m, I14 m [.pv (.lst l.length (i64s l)), .pv (.int .i64 k), .pv (.int .i64 (sumN l)), .msl oid 0 k 1, .pv (.int .i64 0), .pv (.int .i64 0), .pv (.int .i64 k), .pv (.int .i64 0)] τ) ∧
      ∀ (m14 : Nat) (a b c d e f g h : AV), ∀ σ3, I14 m14 [a, b, c, d, e, f, g, h] σ3 → L15_14 env0 I14 m14 a b c d e f g h σ3 K X := by
  refine ⟨fun m vs τ => ∃ (i file used : Nat) (rows : List AV), m + i = k ∧ St l k oid σ τ i [] rows ∧ file ≤ l.length ∧ used ≤ (l.getD file 0).toNat ∧ sumN (l.take file) + used = lowS l k i ∧
      vs = [.pv (.lst l.length (i64s l)), .pv (.int .i64 k), .pv (.int .i64 (sumN l)), .msl oid 0 k 1, .pv (.int .i64 file), .pv (.int .i64 used), .pv (.int .i64 k), .pv (.int .i64 i)],
    ⟨k, 0, 0, 0, rows, rfl, hS, by omega, by omega, by simp [sumN, lowS], rfl⟩, ?_⟩
  rintro m a b c d e f g h τ1 ⟨i, file, used, rows, hm, hS, hf, hu, hp, hv⟩
  simp only [List.cons.injEq, and_true] at hv
  obtain ⟨rfl, rfl, rfl, rfl, rfl, rfl, rfl, rfl⟩ := hv
  unfold L15_14
  simp only [go_sem]
  split
  · rename_i hi
    have hi : i < k := by omega
    have hb1 : (i + 1) * sumN l ≤ 4096 * 2147483647 := Nat.mul_le_mul (by omega) hn
    have hb0 : i * sumN l ≤ 4096 * 2147483647 := Nat.mul_le_mul (by omega) hn
    have e1 : (i : Int) + 1 = ((i + 1 : Nat) : Int) := by omega
    have e2 : ((i + 1 : Nat) : Int) * (sumN l : Int) = (((i + 1) * sumN l : Nat) : Int) := by simp
    have e3 : (i : Int) * (sumN l : Int) = ((i * sumN l : Nat) : Int) := by simp
    have q1 : (((i + 1) * sumN l : Nat) : Int).tdiv (k : Int) = (lowS l k (i + 1) : Int) := rfl
    have q2 : ((i * sumN l : Nat) : Int).tdiv (k : Int) = (lowS l k i : Int) := rfl
    have ht1 := lowS_top l k (i + 1) (by omega)
    have ht2 := lowS_le l k i
    rw [wrap64 (n := (i : Int) + 1) (by omega) (by omega), e1, e2, e3, wrap64 (n := (((i + 1) * sumN l : Nat) : Int)) (by omega) (by omega), wrap64 (n := ((i * sumN l : Nat) : Int)) (by omega) (by omega), q1, q2, wrap64 (n := (lowS l k (i + 1) : Int)) (by omega) (by omega), wrap64 (n := (lowS l k i : Int)) (by omega) (by omega), wrap64 (by omega) (by omega), show (lowS l k (i + 1) : Int) - (lowS l k i : Int) = ((lowS l k (i + 1) - lowS l k i : Nat) : Int) by omega]
    refine ⟨by omega, by omega, ?_⟩
    refine in15 hl hk hi hll hn hS hf hu hp ?_
    intro file' used' τ' rows' h1 h2 h3 h4
    exact ⟨m - 1, by omega, i + 1, file', used', rows', by omega, h1, h2, h3, h4, rfl⟩
  · rename_i hi
    have hi : i = k := by omega
    subst hi
    exact retV_self (hK _ _ hS)
theorem St.start {l : List Int} {k oid : Nat} {σ : AS} (h : σ oid = none) : St l k oid σ (σ.set oid (.cells (List.replicate k .nilS))) 0 [] (List.replicate k .nilS) where
  sub := sub_set _ h
  new := h
  here := set_same _ _ _
  len := List.length_replicate
  done := fun j hj => absurd hj (by omega)
  cur := fun hk => ⟨.nilS, by simp [hk], .inl ⟨rfl, rfl⟩⟩
  rest := fun j _ hj => by simp [hj]
theorem flatten_one (k : Nat) (v : AV) : List.flatten (List.replicate k [v]) = List.replicate k v := by
  induction k with
  | zero => rfl
  | succ k ih => simp [List.replicate_succ, ih]
theorem j15 {l : List Int} {k : Int} {σ : AS} {K : AV → AS → Prop} {X : PV → AS → Prop} (hl : ∀ c ∈ l, in64 c) (hll : l.length ≤ 1073741824) (h1 : ¬ k < 1) (h2 : ¬ k > 4096) (h : Out15 l k σ K) :
    J15_3 env0 (.pv (.lst l.length (i64s l))) (.pv (.int .i64 k)) σ K X := by
  unfold J15_3
  simp only [go_sem]
  refine ⟨fun m vs τ => τ = σ ∧ ∃ (i : Nat) (n : Int), m + i = l.length ∧ 0 ≤ n ∧ n ≤ 2147483647 ∧ vs = [.pv (.lst l.length (i64s l)), .pv (.int .i64 k), .pv (.int .i64 n), .pv (.lst l.length (i64s l)), .pv (.int .i64 l.length), .pv (.int .i64 i)] ∧ cutBad l 0 = cutBad (l.drop i) n ∧ n = sumN (l.take i),
    ⟨l.length, rfl, 0, 0, by omega, by omega, by omega, by simp, by simp, rfl⟩, ?_⟩
  rintro m a b c d e f τ ⟨rfl, i, n, hm, hn0, hn1, hv, he, hs⟩
  simp only [List.cons.injEq, and_true] at hv
  obtain ⟨rfl, rfl, rfl, rfl, rfl, rfl⟩ := hv
  unfold L15_5
  simp only [go_sem]
  split
  · rename_i hi
    have hi : i < l.length := by omega
    have hc : in64 l[i] := hl _ (List.getElem_mem hi)
    have hd : l.drop i = l[i] :: l.drop (i + 1) := List.drop_eq_getElem_cons hi
    refine ⟨by omega, _, i64s_get l i (by omega), ?_⟩
    simp only [go_sem]
    rw [wrap64 (n := 2147483647 - n) (by omega) (by omega)]
    unfold in64 at hc
    split
    · rename_i h3
      rw [Out15, if_pos (.inr (.inr (by rw [he, hd, cutBad, if_pos (by omega)])))] at h
      exact retV_self h
    · rename_i h3
      rw [wrap64 (by omega) (by omega), wrap64 (by omega) (by omega)]
      refine ⟨m - 1, by omega, i + 1, n + max l[i] 0, by omega, by omega, by omega, by simp, ?_, ?_⟩
      · rw [he, hd, cutBad, if_neg (by omega)]
      · rw [sumN_take l i hi]; omega
  · rename_i hi
    have hg : cutBad l 0 = false := by rw [he, List.drop_eq_nil_of_le (by omega)]; rfl
    have hsum := cutBad_sum l 0 (by omega) hg
    rw [List.take_of_length_le (by omega)] at hs
    subst hs
    obtain ⟨k, rfl⟩ : ∃ j : Nat, k = j := ⟨k.toNat, by omega⟩
    have hkk : k ≤ 4096 := by omega
    rw [Out15, if_neg (by rw [hg]; simp; omega)] at h
    refine make_mu T.el24 T.hT26 (by rw [T.sz26]; omega) T.zo26 (by rw [T.sz26]; rfl) rfl (by omega) (by omega) (by rw [T.by26]; omega) (by omega) ?_
    intro oid ho
    simp only [go_sem]
    rw [flatten_one]
    refine out15 hl hkk (by omega) hll (by omega) (St.start ho) ?_
    intro τ' rows' hS
    exact h oid τ' rows' hS.sub hS.here hS.len hS.done
theorem T15_ok (args : List AV) (σ : AS) (K : AV → AS → Prop) (X : PV → AS → Prop) (h : T15 args σ K X) : bodyD Go.Proofs.Try.prog env0 an15 Go.Proofs.Try.f15 args σ K X := by
  obtain ⟨l, k, rfl, hl, hk, hll, h⟩ := h
  rw [← S15_eq env0]
  unfold S15
  simp only [go_sem, gt_iff_lt]
  split
  · rename_i h1
    rw [Out15, if_pos (.inl h1)] at h
    exact retV_self h
  · rename_i h1
    split
    · rename_i h2
      rw [Out15, if_pos (.inr (.inl (by omega)))] at h
      exact retV_self h
    · rename_i h2
      exact j15 hl hll h1 (by omega) h
theorem F15 (hm : Go.Proofs.Try.prog.follows .mixedOrders = true) : SoundF Go.Proofs.Try.prog 15 T15 := body_sound hm (env0_ok _) an15 Go.Proofs.Try.func15 Go.Proofs.Try.call15 S15_ok T15_ok
end Go.AD
