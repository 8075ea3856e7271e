/- Stores and appends. -/
import Derived.Test.YtjgjmpophpifgaaDoorAd8
set_option linter.unusedVariables false
set_option linter.unusedSimpArgs false
namespace Go.AD
open RowKit

section
variable {P : Program} {w0 w w' : World} {ρ ρ' : Gh} {σ : AS}

theorem frozen_no {b p : Nat} {cur : Array Value} {e : TypeId} {fz : Nat × Nat} (hb : w.heap[b]? = some (.cells cur e fz)) (hf : NoFz fz cur.size) (hp : p < cur.size) : w.frozen? ⟨b, p, none⟩ = false := by
  obtain ⟨lo, hi⟩ := fz
  have := hf p hp
  simp only [World.frozen?, hb]
  simp only [Bool.and_eq_false_iff, decide_eq_false_iff_not]
  omega
theorem heap_setCell_at {b p : Nat} {cur : Array Value} {e : TypeId} {fz : Nat × Nat} (hb : w.heap[b]? = some (.cells cur e fz)) (u : Value) :
    (w.setCell ⟨b, p, none⟩ u).heap[b]? = some (.cells (cur.setIfInBounds p u) e fz) := by
  simp [World.setCell, Array.getElem?_modify, hb]
theorem heap_setCells : ∀ (us : List Value) (p : Nat) (cur : Array Value) (w : World) (b : Nat) (e : TypeId) (fz : Nat × Nat), w.heap[b]? = some (.cells cur e fz) →
    (w.setCells b p us).heap[b]? = some (.cells (setV cur.toList p us).toArray e fz)
  | [], p, cur, w, b, e, fz, hb => by simpa [World.setCells, setV] using hb
  | u :: us, p, cur, w, b, e, fz, hb => by
    rw [World.setCells, heap_setCells us (p + 1) _ _ b e fz (heap_setCell_at hb u), setV]
    simp
theorem setCells_other : ∀ (us : List Value) (p : Nat) (w : World) (b k : Nat), k ≠ b → (w.setCells b p us).heap[k]? = w.heap[k]?
  | [], p, w, b, k, h => rfl
  | u :: us, p, w, b, k, h => by rw [World.setCells, setCells_other us (p + 1) _ b k h, Below.heap_setCell w ⟨b, p, none⟩ u k h]
theorem below_setCells {B : Nat} : ∀ (us : List Value) (p : Nat) (w : World) (b : Nat), Below B w0 w → B ≤ b → Below B w0 (w.setCells b p us)
  | [], p, w, b, h, hb => h
  | u :: us, p, w, b, h, hb => below_setCells us (p + 1) _ b (h.setCell (p := ⟨b, p, none⟩) hb u) hb
theorem setV_drop : ∀ (us vs : List Value) (o off : Nat), (setV vs (o + off) us).drop o = setV (vs.drop o) off us
  | [], vs, o, off => rfl
  | u :: us, vs, o, off => by rw [setV, setV, Nat.add_assoc, setV_drop us _ o (off + 1), List.set_drop]
theorem setV_take : ∀ (us vs : List Value) (n off : Nat), (setV vs off us).take n = setV (vs.take n) off us
  | [], vs, n, off => rfl
  | u :: us, vs, n, off => by rw [setV, setV, setV_take us, List.take_set]

/-- A store into a mutable object. -/
theorem store_sound (H : RelH w0 ρ σ w) {t : TypeId} {x v : AV} {K : AS → Prop} (h : storeD P σ t x v K) {u y : Value} (hu : RelV ρ x u) (hv : RelV ρ v y) :
    ∃ σ' w', (Instr.storeAt t u y).run P w = .ok () w' ∧ RelH w0 ρ σ' w' ∧ K σ' := by
  obtain ⟨ht, hsz, hok, h⟩ := h
  split at h
  · rename_i id off
    split at h
    · rename_i cs var ho
      obtain ⟨hle, hK⟩ := h
      obtain ⟨b, o, m, cur, e, fz, hl, hB, hb, hf, hm, hle2, hok2, hr, hi, hvar⟩ := H.obj id _ ho
      obtain ⟨b', o', m', rfl, hl'⟩ := inv_addr hu
      rw [hl] at hl'
      cases hl'
      have hvr := cells_rel hv hok
      have hlen : y.cells.toList.length = v.cells.length := hvr.1
      have hone := all_one hvr hok
      have hst := run_storeCells_cells (P := P) b (o + off) y.cells.toList 0 w
        (fun j hj => by
          rw [cell_of_row w b _ cur e fz hb]
          have : o + off + j < cur.size := by omega
          simp [this])
        (fun j hj => frozen_no hb hf (by omega)) hone
      rw [Nat.add_zero] at hst
      refine ⟨_, w.setCells b (o + off) y.cells.toList, ?_, ?_, hK⟩
      · have hs : y.cells.size = szOf P t := by have := hlen; simp at this; omega
        simp [Instr.storeAt, Instr.sureAddr, storeVar, run_size (hasT_inf ht), hs, hst]
      · have hhb := heap_setCells y.cells.toList (o + off) cur w b e fz hb
        refine H.turn (Gh.le_refl ρ) (below_setCells _ _ _ _ H.below hB) ?_ id _ ?_ ?_ ?_ ?_
        · intro b' p v' hv'
          have hne : b' ≠ b := fun he => by subst he; exact hi _ _ hv'
          rw [World.cell?_of_block (w := w) (setCells_other _ _ w b b' hne)]
          exact H.imm _ _ _ hv'
        · intro j oj b' hj hoj hb'
          refine ⟨setCells_other _ _ w b b' (fun he => ?_), fun _ => rfl, fun _ => rfl⟩
          subst he
          exact hj (H.apart j id oj _ hoj ho (by rw [hb']; simp [blkOf, hl]))
        · refine ⟨b, o, m, _, e, fz, hl, hB, hhb, ?_, ?_, ?_, ?_, ?_, hi, fun t ht => ⟨(hvar t ht).1, (hvar t ht).2.1, by rw [setAll_length, ← (hvar t ht).2.2]; simp [setV_length]⟩⟩
          · simpa [setV_length] using hf
          · simpa [setV_length] using hm
          · rw [setAll_length]; exact hle2
          · have : ∀ (ds cs : List AV) (q : Nat), cs.all AV.cellOk = true → ds.all AV.cellOk = true → (setAll cs q ds).all AV.cellOk = true := by
              intro ds
              induction ds with
              | nil => intro cs q h1 _; exact h1
              | cons d ds ih =>
                intro cs q h1 h2
                simp only [List.all_cons, Bool.and_eq_true] at h2
                refine ih _ _ ?_ h2.2
                rw [List.all_eq_true] at h1 ⊢
                intro z hz
                rcases List.mem_or_eq_of_mem_set hz with hz | rfl
                · exact h1 z hz
                · exact h2.1
            exact this _ _ _ hok2 hok
          · rw [setAll_length]
            have e1 : (setV cur.toList (o + off) y.cells.toList).toArray.toList = setV cur.toList (o + off) y.cells.toList := by simp
            rw [e1, setV_drop, setV_take]
            exact setAll_rel off hvr hr
        · intro j oj hj hoj he
          exact hj (H.apart j id oj _ hoj ho (by rw [he]; simp [blkOf]))
        · exact H.bound_set id _ (fun ρ => ρ) (fun j _ h4 h5 => ⟨h4, h5⟩)
    · exact h.elim
  · exact h.elim

/-! ### append -/
theorem run_first {size m : Nat} {A : Option Addr} {cap b o : Nat} {vs : List Value} (hl : vs.length = m * size) (hA : vs = [] ∨ A = some ⟨b, o, none⟩) (hc : ∀ (i : Nat) v, vs[i]? = some v → w.cell? ⟨b, o + i, none⟩ = some v) :
    (Builtin.firstCells size m (.slice A m cap)).run P w = .ok vs.toArray w := by
  cases A with
  | none =>
    rcases hA with rfl | h
    · rfl
    · cases h
  | some a =>
    have : (loadCells a (m * size)).run P w = .ok vs.toArray w := by
      rw [← hl]
      refine run_loadCells_list w a vs (fun j v hv => ?_)
      rcases hA with rfl | h
      · simp at hv
      · cases h
        rw [Addr.add_lit]
        exact hc j v hv
    exact this
/-- Nothing is appended. -/
theorem run_append_none {t e : TypeId} (ht : P.underlying t = some (.slice e)) (hs : (inf P e).isSome = true) (B : Option Addr) (n cap : Nat) (hn : n ≤ cap) (A : Option Addr) (c : Nat) (ty : TypeId) (w : World) :
    (Builtin.append_ #[t, t] ty #[.slice B n cap, .slice A 0 c]).run P w = .ok (.slice B n cap) w := by
  have hf : (Builtin.firstCells (szOf P e) 0 (.slice A 0 c)).run P w = .ok #[] w := run_first (m := 0) (b := 0) (o := 0) (vs := []) (by simp) (.inl rfl) (fun i v hv => by simp at hv)
  cases B with
  | none => simp [Builtin.append_, run_underlying ht, run_size hs, Builtin.lenOf, hn, hf]
  | some a => simp [Builtin.append_, run_underlying ht, run_size hs, Builtin.lenOf, hn, hf, storeCells]
/-- There is room. -/
theorem run_append_place {t e : TypeId} (ht : P.underlying t = some (.slice e)) (hs : (inf P e).isSome = true) {b o n cap m : Nat} {cur : Array Value} {e' : TypeId} {fz : Nat × Nat} (hb : w.heap[b]? = some (.cells cur e' fz)) (hf : NoFz fz cur.size)
    (hroom : n + m ≤ cap) (hfit : o + cap * szOf P e ≤ cur.size) {A : Option Addr} {c b' o' : Nat} {vs : List Value} (hl : vs.length = m * szOf P e) (hA : vs = [] ∨ A = some ⟨b', o', none⟩)
    (hc : ∀ (i : Nat) v, vs[i]? = some v → w.cell? ⟨b', o' + i, none⟩ = some v) (h1 : ∀ u ∈ vs, u.oneCell' = true) (ty : TypeId) :
    (Builtin.append_ #[t, t] ty #[.slice (some ⟨b, o, none⟩) n cap, .slice A m c]).run P w = .ok (.slice (some ⟨b, o, none⟩) (n + m) cap) (w.setCells b (o + n * szOf P e) vs) := by
  have hff := run_first (P := P) (w := w) (cap := c) hl hA hc
  have hnm : n * szOf P e + m * szOf P e ≤ cap * szOf P e := by rw [← Nat.add_mul]; exact Nat.mul_le_mul_right _ hroom
  have hst := run_storeCells_cells (P := P) b (o + n * szOf P e) vs 0 w
    (fun j hj => by
      rw [cell_of_row w b _ cur e' fz hb]
      have : o + n * szOf P e + j < cur.size := by omega
      simp [this])
    (fun j hj => frozen_no hb hf (by omega)) h1
  rw [Nat.add_zero] at hst
  simp [Builtin.append_, run_underlying ht, run_size hs, Builtin.lenOf, hroom, hff, Addr.add_lit, hst]

theorem pv_one {imm : Nat → Nat → Option Value} {cs : List PV} {vs : List Value} (h : RelPL imm cs vs) : ∀ u ∈ vs, u.oneCell' = true := by
  intro u hu
  obtain ⟨i, hi, rfl⟩ := List.mem_iff_getElem.1 hu
  have hi' : i < cs.length := by rw [← h.1]; exact hi
  have := h.2 i hi'
  rw [List.getD_eq_getElem?_getD, List.getElem?_eq_getElem hi] at this
  simp only [Option.getD_some] at this
  generalize vs[i] = x at this ⊢
  generalize cs[i] = y at this
  cases this <;> rfl
theorem map_ok (cs : List PV) : (cs.map AV.pv).all AV.cellOk = true := by simp [AV.cellOk]
theorem toPVs_map : ∀ cs : List PV, toPVs (cs.map .pv) = some cs
  | [] => rfl
  | c :: cs => by simp [toPVs, toPV, toPVs_map cs]
/-- A new block, whose first cells are these; a mutable object, or a row that may grow. -/
theorem newRow_sound (H : RelH w0 ρ σ w) {mu : Bool} {n size : Nat} {cs : List AV} {K : AV → AS → Prop} (e : TypeId) (h : newRowD mu σ n size e cs K) (cur : Array Value) (fz : Nat × Nat) (hfz : NoFz fz cur.size)
    (vs : List Value) (hr : RelL ρ cs vs) (hcv : cur.toList.take cs.length = vs) (hlen : cs.length = n * size) (cap : Nat) (hn : n ≤ cap) (hc : cap ≤ maxLen) (hs : cap * size ≤ cur.size) :
    ∃ ρ' σ' v, ρ.le ρ' ∧ RelH w0 ρ' σ' (w.alloc (.cells cur e fz)) ∧ RelV ρ' v (.slice (some ⟨w.heap.size, 0, none⟩) n cap) ∧ K v σ' := by
  have hnc : n * size ≤ cap * size := Nat.mul_le_mul_right _ hn
  unfold newRowD at h
  split at h
  · obtain ⟨hok, hK⟩ := h
    obtain ⟨id, ρ', h1, _, h2, h3, h4⟩ := H.newCells cur e fz hfz cs (by omega) (by rw [hcv]; exact hr) hok none (fun t ht => by cases ht)
    exact ⟨ρ', _, _, h2, h4, .msl id 0 n size w.heap.size 0 cur.size cap h3 hn hc (by omega), hK id h1⟩
  · split at h
    · rename_i ps hp
      have hpl := toPVs_rel hr hp
      have hpn : ps.length = cs.length := by rw [← hpl.1, hr.1]
      have hcur : ∀ (i : Nat) v, vs[i]? = some v → cur[i]? = some v := fun i v hv => by
        rw [← hcv, List.getElem?_take] at hv
        split at hv
        · simpa using hv
        · cases hv
      obtain ⟨hle, H1⟩ := H.newImm cur e fz vs hcur
      obtain ⟨id, ρ2, h1, _, h2, h3, h4⟩ := H1.newLine w.heap.size H.le_size cur e fz (heap_alloc_new w _) hfz 0 n cap size hn hc (by omega)
        (fun _ o' v hv => by
          rcases Gh.ext_inv hv with ⟨_, _, h3, _⟩ | hv
          · have := hr.1; omega
          · exact absurd (H.imm_lt hv) (Nat.lt_irrefl _))
        (fun j oj hj he => by
          have he' : blkOf ρ j oj = some w.heap.size := by
            obtain ⟨b, hb, _, hlt⟩ := objRel_blk (H.obj j oj hj)
            have := (objRel_keep (H.obj j oj hj) hle (w' := w.alloc (.cells cur e fz)) (fun b hb => by
              have := H.blk_lt hj hb
              exact ⟨Below.heap_alloc w _ b this, fun p => Gh.ext_other ρ _ _ _ (by omega) p, fun _ => rfl⟩)).2
            rw [this] at he
            exact he
          exact absurd (H.blk_lt hj he') (Nat.lt_irrefl _)) (some e) (fun e' he => ⟨Option.some.inj he, rfl⟩)
      refine ⟨ρ2, _, _, Gh.le_trans hle h2, h4, .grow id n ps w.heap.size 0 cap vs h3 hn hpl.1 ?_ ?_, h id h1⟩
      · intro i hi
        exact h2.imm _ _ _ (Gh.ext_at ρ w.heap.size 0 vs i hi)
      · intro i hi
        exact ((hpl.2 i hi).mono hle.imm).mono h2.imm
    · exact h.elim
end
end Go.AD
