/- Memory that is made and written: what the relation asks of it. -/
import Derived.Test.YtjgjmpophpifgaaDoorAd7
import Derived.Laws.IdiomCopy
set_option linter.unusedVariables false
set_option linter.unusedSimpArgs false
namespace Go.AD
open RowKit

section
variable {P : Program} {w0 w w' : World} {ρ ρ' : Gh} {σ : AS}

theorem objRel_blk {B : Nat} {id : Nat} {o : AObj} (h : ObjRel B ρ w id o) : ∃ b, blkOf ρ id o = some b ∧ B ≤ b ∧ b < w.heap.size := by
  cases o with
  | cells cs var =>
    obtain ⟨b, p, m, cur, e, fz, hl, hB, hb, _⟩ := h
    exact ⟨b, by simp [blkOf, hl], hB, (Array.getElem?_eq_some_iff.1 hb).1⟩
  | front n size mk =>
    obtain ⟨b, p, cap, cur, e, fz, hl, hB, hb, _⟩ := h
    exact ⟨b, by simp [blkOf, hl], hB, (Array.getElem?_eq_some_iff.1 hb).1⟩
  | strIter s pos =>
    obtain ⟨b, m, hl, hB, hb, _⟩ := h
    exact ⟨b, by simp [blkOf, hl], hB, (Array.getElem?_eq_some_iff.1 hb).1⟩
  | builder l => exact h.elim
/-- An object whose block stays, and of whose block nothing more is known, stays. -/
theorem objRel_keep {B : Nat} {id : Nat} {o : AObj} (h : ObjRel B ρ w id o) (hm : ρ.le ρ') (hk : ∀ b, blkOf ρ id o = some b → w'.heap[b]? = w.heap[b]? ∧ (∀ p, ρ'.imm b p = ρ.imm b p) ∧ ∀ k, ρ'.lin id k = ρ.lin id k) :
    ObjRel B ρ' w' id o ∧ blkOf ρ' id o = blkOf ρ id o := by
  cases o with
  | cells cs var =>
    obtain ⟨b, p, m, cur, e, fz, hl, hB, hb, hf, hs, hle, hok, hr, hi, hvar⟩ := h
    obtain ⟨h1, h2, h3⟩ := hk b (by simp [blkOf, hl])
    have hl' := hm.loc _ _ hl
    exact ⟨⟨b, p, m, cur, e, fz, hl', hB, h1.trans hb, hf, hs, hle, hok, hr.mono hm, fun o' v hv => hi o' v (by rw [← h2]; exact hv), hvar⟩, by simp [blkOf, hl, hl']⟩
  | front n size mk =>
    obtain ⟨b, p, cap, cur, e, fz, hl, hB, hb, hf, hn, hc, hs, hi, hk', hmk⟩ := h
    obtain ⟨h1, h2, h3⟩ := hk b (by simp [blkOf, hl])
    have hl' := hm.lin _ _ _ hl
    exact ⟨⟨b, p, cap, cur, e, fz, hl', hB, h1.trans hb, hf, hn, hc, hs, fun hnc o' v hv => hi hnc o' v (by rw [← h2]; exact hv), fun k hk2 => (h3 k).trans (hk' k hk2), hmk⟩, by simp [blkOf, hl, hl']⟩
  | strIter s pos =>
    obtain ⟨b, m, hl, hB, hb, hi⟩ := h
    obtain ⟨h1, h2, h3⟩ := hk b (by simp [blkOf, hl])
    have hl' := hm.loc _ _ hl
    exact ⟨⟨b, m, hl', hB, h1.trans hb, fun o' v hv => hi o' v (by rw [← h2]; exact hv)⟩, by simp [blkOf, hl, hl']⟩
  | builder l => exact h.elim
/-- The store as it is, in a later world. -/
theorem RelH.keep (H : RelH w0 ρ σ w) (hm : ρ.le ρ') (hb : Below w0.heap.size w0 w') (hi : ∀ b o v, ρ'.imm b o = some v → w'.cell? ⟨b, o, none⟩ = some v)
    (hk : ∀ id o b, σ id = some o → blkOf ρ id o = some b → w'.heap[b]? = w.heap[b]? ∧ (∀ p, ρ'.imm b p = ρ.imm b p) ∧ ∀ k, ρ'.lin id k = ρ.lin id k)
    (hN : ∃ N, ∀ id, N ≤ id → ρ'.loc id = none ∧ (∀ n, ρ'.lin id n = none) ∧ σ id = none) : RelH w0 ρ' σ w' where
  below := hb
  imm := hi
  obj := fun id o ho => (objRel_keep (H.obj id o ho) hm (fun b hb => hk id o b ho hb)).1
  apart := fun id id' o o' ho ho' he => by
    rw [(objRel_keep (H.obj id o ho) hm (fun b hb => hk id o b ho hb)).2, (objRel_keep (H.obj id' o' ho') hm (fun b hb => hk id' o' b ho' hb)).2] at he
    exact H.apart id id' o o' ho ho' he
  bound := hN
/-- One object is new, or has turned; all others stay. -/
theorem RelH.turn (H : RelH w0 ρ σ w) (hm : ρ.le ρ') (hb : Below w0.heap.size w0 w') (hi : ∀ b o v, ρ'.imm b o = some v → w'.cell? ⟨b, o, none⟩ = some v) (id : Nat) (o : AObj)
    (hk : ∀ j oj b, j ≠ id → σ j = some oj → blkOf ρ j oj = some b → w'.heap[b]? = w.heap[b]? ∧ (∀ p, ρ'.imm b p = ρ.imm b p) ∧ ∀ k, ρ'.lin j k = ρ.lin j k)
    (hnew : ObjRel w0.heap.size ρ' w' id o) (hap : ∀ j oj, j ≠ id → σ j = some oj → blkOf ρ j oj ≠ blkOf ρ' id o)
    (hN : ∃ N, ∀ j, N ≤ j → ρ'.loc j = none ∧ (∀ n, ρ'.lin j n = none) ∧ (σ.set id o) j = none) : RelH w0 ρ' (σ.set id o) w' where
  below := hb
  imm := hi
  obj := fun j oj ho => by
    by_cases hj : j = id
    · subst hj
      rw [AS.set_same] at ho
      cases ho
      exact hnew
    · rw [AS.set_ne σ o hj] at ho
      exact (objRel_keep (H.obj j oj ho) hm (fun b hb => hk j oj b hj ho hb)).1
  apart := fun j j' oj oj' ho ho' he => by
    by_cases hj : j = id
    · by_cases hj' : j' = id
      · rw [hj, hj']
      · rw [AS.set_ne σ o hj'] at ho'
        rw [(objRel_keep (H.obj j' oj' ho') hm (fun b hb => hk j' oj' b hj' ho' hb)).2] at he
        subst hj
        rw [AS.set_same] at ho
        cases ho
        exact absurd he.symm (hap j' oj' hj' ho')
    · rw [AS.set_ne σ o hj] at ho
      rw [(objRel_keep (H.obj j oj ho) hm (fun b hb => hk j oj b hj ho hb)).2] at he
      by_cases hj' : j' = id
      · subst hj'
        rw [AS.set_same] at ho'
        cases ho'
        exact absurd he (hap j oj hj ho)
      · rw [AS.set_ne σ o hj'] at ho'
        rw [(objRel_keep (H.obj j' oj' ho') hm (fun b hb => hk j' oj' b hj' ho' hb)).2] at he
        exact H.apart j j' oj oj' ho ho' he
  bound := hN

/-! ### what is known of memory grows -/
/-- The cells vs, at a place of a block, never turn again. -/
def Gh.ext (ρ : Gh) (b o : Nat) (vs : List Value) : Gh := { ρ with imm := fun b' o' => if b' = b ∧ o ≤ o' ∧ o' < o + vs.length then vs[o' - o]? else ρ.imm b' o' }
def Gh.withLoc (ρ : Gh) (id : Nat) (x : Nat × Nat × Nat) : Gh := { ρ with loc := fun i => if i = id then some x else ρ.loc i }
def Gh.withLin (ρ : Gh) (id n : Nat) (x : Addr × Nat) : Gh := { ρ with lin := fun i k => if i = id ∧ k = n then some x else ρ.lin i k }
theorem Gh.le_ext {b o : Nat} {vs : List Value} (h : ∀ o' v, ρ.imm b o' = some v → ¬ (o ≤ o' ∧ o' < o + vs.length)) : ρ.le (ρ.ext b o vs) :=
  ⟨fun b' o' v hv => by
    simp only [Gh.ext]
    rw [if_neg (fun hc => by obtain ⟨rfl, hc⟩ := hc; exact h _ _ hv hc)]
    exact hv, fun _ _ h => h, fun _ _ _ h => h⟩
theorem Gh.le_withLoc {id : Nat} {x : Nat × Nat × Nat} (h : ρ.loc id = none) : ρ.le (ρ.withLoc id x) :=
  ⟨fun _ _ _ h => h, fun i y hy => by
    simp only [Gh.withLoc]
    rw [if_neg (fun hc => by subst hc; rw [h] at hy; cases hy)]
    exact hy, fun _ _ _ h => h⟩
theorem Gh.le_withLin {id n : Nat} {x : Addr × Nat} (h : ρ.lin id n = none) : ρ.le (ρ.withLin id n x) :=
  ⟨fun _ _ _ h => h, fun _ _ h => h, fun i k y hy => by
    simp only [Gh.withLin]
    rw [if_neg (fun hc => by obtain ⟨rfl, rfl⟩ := hc; rw [h] at hy; cases hy)]
    exact hy⟩
theorem Gh.ext_at (ρ : Gh) (b o : Nat) (vs : List Value) : ImmAt (ρ.ext b o vs).imm b o vs := by
  intro i hi
  simp only [Gh.ext]
  rw [if_pos ⟨trivial, by omega, by omega⟩, Nat.add_sub_cancel_left, List.getD_eq_getElem?_getD, List.getElem?_eq_getElem hi]
  rfl
theorem Gh.ext_other (ρ : Gh) (b o : Nat) (vs : List Value) {b' : Nat} (h : b' ≠ b) (p : Nat) : (ρ.ext b o vs).imm b' p = ρ.imm b' p := by
  simp only [Gh.ext]
  rw [if_neg (fun hc => h hc.1)]
theorem Gh.ext_inv {b o : Nat} {vs : List Value} {b' p : Nat} {v : Value} (h : (ρ.ext b o vs).imm b' p = some v) : (b' = b ∧ o ≤ p ∧ p < o + vs.length ∧ vs[p - o]? = some v) ∨ ρ.imm b' p = some v := by
  simp only [Gh.ext] at h
  split at h
  · rename_i hc; exact .inl ⟨hc.1, hc.2.1, hc.2.2, h⟩
  · exact .inr h

theorem RelH.imm_lt (H : RelH w0 ρ σ w) {b o : Nat} {v : Value} (h : ρ.imm b o = some v) : b < w.heap.size := World.block_lt_of_cell? w _ (H.imm _ _ _ h)
theorem RelH.blk_lt (H : RelH w0 ρ σ w) {id : Nat} {o : AObj} {b : Nat} (ho : σ id = some o) (hb : blkOf ρ id o = some b) : b < w.heap.size := by
  obtain ⟨b', h1, _, h2⟩ := objRel_blk (H.obj id o ho)
  rw [hb] at h1
  cases h1
  exact h2
theorem RelH.alloc_imm (H : RelH w0 ρ σ w) (ob : Obj) : ∀ b o v, ρ.imm b o = some v → (w.alloc ob).cell? ⟨b, o, none⟩ = some v := fun b o v h => by
  have hlt := H.imm_lt h
  have := H.imm _ _ _ h
  rw [World.cell?_of_block (w := w) (Below.heap_alloc w ob b hlt)]
  exact this
theorem RelH.le_size (H : RelH w0 ρ σ w) : w0.heap.size ≤ w.heap.size := H.below.size
/-- A fresh number. -/
theorem RelH.fresh (H : RelH w0 ρ σ w) : ∃ id, ρ.loc id = none ∧ (∀ n, ρ.lin id n = none) ∧ σ id = none := by
  obtain ⟨N, hN⟩ := H.bound
  exact ⟨N, hN N (Nat.le_refl _)⟩
theorem RelH.bound_set (H : RelH w0 ρ σ w) (id : Nat) (o : AObj) (f : Gh → Gh) (hf : ∀ j, id < j → ρ.loc j = none → (∀ n, ρ.lin j n = none) → (f ρ).loc j = none ∧ ∀ n, (f ρ).lin j n = none) :
    ∃ N, ∀ j, N ≤ j → (f ρ).loc j = none ∧ (∀ n, (f ρ).lin j n = none) ∧ (σ.set id o) j = none := by
  obtain ⟨N, hN⟩ := H.bound
  refine ⟨max N (id + 1), fun j hj => ?_⟩
  obtain ⟨h1, h2, h3⟩ := hN j (by omega)
  obtain ⟨h4, h5⟩ := hf j (by omega) h1 h2
  exact ⟨h4, h5, by rw [AS.set_ne σ o (by omega)]; exact h3⟩

/-- A new mutable object. -/
theorem RelH.newCells (H : RelH w0 ρ σ w) (cur : Array Value) (e : TypeId) (fz : Nat × Nat) (hfz : NoFz fz cur.size) (cs : List AV) (hle : cs.length ≤ cur.size) (hr : RelL ρ cs (cur.toList.take cs.length)) (hok : cs.all AV.cellOk = true) (var : Option TypeId) (hvar : ∀ t, var = some t → e = t ∧ cur.size = cs.length) :
    ∃ id ρ', σ id = none ∧ ρ.loc id = none ∧ ρ.le ρ' ∧ ρ'.loc id = some (w.heap.size, 0, cur.size) ∧ RelH w0 ρ' (σ.set id (.cells cs var)) (w.alloc (.cells cur e fz)) := by
  obtain ⟨id, h1, h2, h3⟩ := H.fresh
  have hle' : ρ.le (ρ.withLoc id (w.heap.size, 0, cur.size)) := Gh.le_withLoc h1
  have hloc : (ρ.withLoc id (w.heap.size, 0, cur.size)).loc id = some (w.heap.size, 0, cur.size) := by simp [Gh.withLoc]
  refine ⟨id, ρ.withLoc id (w.heap.size, 0, cur.size), h3, h1, hle', hloc, ?_⟩
  refine H.turn hle' (H.below.alloc H.le_size _) (fun b o v hv => H.alloc_imm _ b o v hv) id _ ?_ ?_ ?_ ?_
  · intro j oj b hj ho hb
    exact ⟨Below.heap_alloc w _ b (H.blk_lt ho hb), fun _ => rfl, fun _ => rfl⟩
  · refine ⟨w.heap.size, 0, cur.size, cur, e, fz, hloc, H.le_size, heap_alloc_new w _, hfz, rfl, by omega, hok, ?_, ?_, fun t ht => ⟨(hvar t ht).1, rfl, (hvar t ht).2⟩⟩
    · simpa using hr.mono hle'
    · intro o' v hv
      exact absurd (H.imm_lt hv) (Nat.lt_irrefl _)
  · intro j oj hj ho he
    obtain ⟨b, hb, _, hlt⟩ := objRel_blk (H.obj j oj ho)
    rw [hb] at he
    simp [blkOf, hloc] at he
    omega
  · exact H.bound_set id _ (fun ρ => ρ.withLoc id (w.heap.size, 0, cur.size)) (fun j hj h4 h5 => ⟨by simp only [Gh.withLoc]; rw [if_neg (by omega)]; exact h4, h5⟩)

/-- A new row whose first cells never turn. -/
theorem RelH.newImm (H : RelH w0 ρ σ w) (cur : Array Value) (e : TypeId) (fz : Nat × Nat) (vs : List Value) (hvs : ∀ (i : Nat) v, vs[i]? = some v → cur[i]? = some v) :
    ρ.le (ρ.ext w.heap.size 0 vs) ∧ RelH w0 (ρ.ext w.heap.size 0 vs) σ (w.alloc (.cells cur e fz)) := by
  have hle : ρ.le (ρ.ext w.heap.size 0 vs) := Gh.le_ext fun o' v hv => absurd (H.imm_lt hv) (Nat.lt_irrefl _)
  refine ⟨hle, H.keep hle (H.below.alloc H.le_size _) ?_ ?_ H.bound⟩
  · intro b o v hv
    rcases Gh.ext_inv hv with ⟨rfl, h1, h2, h3⟩ | hv
    · rw [cell_of_row _ _ o cur e fz (heap_alloc_new w _)]
      exact hvs o v (by simpa using h3)
    · exact H.alloc_imm _ b o v hv
  · intro id o b ho hb
    have := H.blk_lt ho hb
    exact ⟨Below.heap_alloc w _ b this, fun p => Gh.ext_other ρ _ _ _ (by omega) p, fun _ => rfl⟩
/-- A row whose first n elements never turn, the newest of its line, may grow. -/
theorem RelH.newLine (H : RelH w0 ρ σ w) (b : Nat) (hb : w0.heap.size ≤ b) (cur : Array Value) (e : TypeId) (fz : Nat × Nat) (hw : w.heap[b]? = some (.cells cur e fz)) (hfz : NoFz fz cur.size)
    (o n cap size : Nat) (hn : n ≤ cap) (hc : cap ≤ maxLen) (hs : o + cap * size ≤ cur.size) (hi : n < cap → ∀ o' v, ρ.imm b o' = some v → o' < o + n * size)
    (hap : ∀ j oj, σ j = some oj → blkOf ρ j oj ≠ some b) (mk : Option TypeId) (hmk : ∀ e', mk = some e' → e = e' ∧ o = 0) :
    ∃ id ρ', σ id = none ∧ (∀ k, ρ.lin id k = none) ∧ ρ.le ρ' ∧ ρ'.lin id n = some (⟨b, o, none⟩, cap) ∧ RelH w0 ρ' (σ.set id (.front n size mk)) w := by
  obtain ⟨id, h1, h2, h3⟩ := H.fresh
  have hle : ρ.le (ρ.withLin id n (⟨b, o, none⟩, cap)) := Gh.le_withLin (h2 n)
  have hlin : (ρ.withLin id n (⟨b, o, none⟩, cap)).lin id n = some (⟨b, o, none⟩, cap) := by simp [Gh.withLin]
  refine ⟨id, _, h3, h2, hle, hlin, H.turn hle H.below H.imm id _ (fun j oj b hj ho hb => ⟨rfl, fun _ => rfl, fun k => by simp only [Gh.withLin]; rw [if_neg (fun hc => hj hc.1)]⟩) ⟨b, o, cap, cur, e, fz, hlin, hb, hw, hfz, hn, hc, hs, hi, fun k hk => by simp only [Gh.withLin]; rw [if_neg (by omega)]; exact h2 k, hmk⟩ ?_ ?_⟩
  · intro j oj hj ho he
    simp only [blkOf, hlin, Option.map_some] at he
    exact hap j oj ho he
  · exact H.bound_set id _ (fun ρ => ρ.withLin id n (⟨b, o, none⟩, cap)) (fun j hj h4 h5 => ⟨h4, fun k => by simp only [Gh.withLin]; rw [if_neg (by omega)]; exact h5 k⟩)
end
end Go.AD
