/- All operations, as the walk of the model's regions asks it. -/
import Derived.Test.YtjgjmpophpifgaaDoorAd11
set_option linter.unusedVariables false
set_option linter.unusedSimpArgs false
namespace Go.AD
open RowKit

section
variable {P : Program} {w0 w w' : World} {ρ ρ' : Gh} {σ : AS} {env : Env}

theorem inv_func {f : FuncId} {u : Value} (h : RelV ρ (.pv (.func f)) u) : u = .func (.func f) #[] #[] := by
  cases h with | pv h => cases h; rfl
theorem inv_clo {f : FuncId} {first cap : List AV} {u : Value} (h : RelV ρ (.clo f first cap) u) : ∃ vs us : List Value, u = .func (.func f) vs.toArray us.toArray ∧ RelL ρ first vs ∧ RelL ρ cap us := by
  cases h with | clo _ _ _ vs us hl hr hl' hr' => exact ⟨vs, us, rfl, ⟨hl, hr⟩, ⟨hl', hr'⟩⟩
theorem inv_iface {t : TypeId} {b : Bool} {cs : List PV} {u : Value} (h : RelV ρ (.pv (.iface t b cs)) u) : ∃ v, u = .iface t v ∧ RelP ρ.imm (.iface t b cs) u := by
  cases h with
  | pv h =>
    have h' := h
    cases h with
    | ifaceOne _ c v hc => exact ⟨v, rfl, h'⟩
    | ifaceAgg _ cells vs hl hr => exact ⟨_, rfl, h'⟩
theorem inv_iter {id : Nat} {u : Value} (h : RelV ρ (.iter id) u) : ∃ b m, u = .pointer (some ⟨b, 0, none⟩) ∧ ρ.loc id = some (b, 0, m) := by
  cases h with | iter _ b m hl => exact ⟨b, m, rfl, hl⟩

/-- A new iterator over a text. -/
theorem RelH.newIter (H : RelH w0 ρ σ w) (s : List UInt8) (pos : Nat) :
    ∃ id ρ', σ id = none ∧ ρ.le ρ' ∧ ρ'.loc id = some (w.heap.size, 0, 0) ∧ RelH w0 ρ' (σ.set id (.strIter s pos)) (w.alloc (.stringIter ⟨s.toArray⟩ pos)) := by
  obtain ⟨id, h1, h2, h3⟩ := H.fresh
  have hle' : ρ.le (ρ.withLoc id (w.heap.size, 0, 0)) := Gh.le_withLoc h1
  have hloc : (ρ.withLoc id (w.heap.size, 0, 0)).loc id = some (w.heap.size, 0, 0) := by simp [Gh.withLoc]
  refine ⟨id, ρ.withLoc id (w.heap.size, 0, 0), h3, hle', hloc, ?_⟩
  refine H.turn hle' (H.below.alloc H.le_size _) (fun b o v hv => H.alloc_imm _ b o v hv) id _ ?_ ?_ ?_ ?_
  · intro j oj b hj ho hb
    exact ⟨Below.heap_alloc w _ b (H.blk_lt ho hb), fun _ => rfl, fun _ => rfl⟩
  · exact ⟨w.heap.size, 0, hloc, H.le_size, heap_alloc_new w _, fun o' v hv => absurd (H.imm_lt hv) (Nat.lt_irrefl _)⟩
  · intro j oj hj ho he
    obtain ⟨b, hb, _, hlt⟩ := objRel_blk (H.obj j oj ho)
    rw [hb] at he
    simp [blkOf, hloc] at he
    omega
  · exact H.bound_set id _ (fun ρ => ρ.withLoc id (w.heap.size, 0, 0)) (fun j hj h4 h5 => ⟨by simp only [Gh.withLoc]; rw [if_neg (by omega)]; exact h4, h5⟩)
/-- An iterator goes on. -/
theorem RelH.stepIter (H : RelH w0 ρ σ w) {id : Nat} {s : List UInt8} {pos : Nat} (ho : σ id = some (.strIter s pos)) (pos' : Nat) :
    ∃ b m, ρ.loc id = some (b, 0, m) ∧ w.heap[b]? = some (.stringIter ⟨s.toArray⟩ pos) ∧ RelH w0 ρ (σ.set id (.strIter s pos')) { w with heap := w.heap.setIfInBounds b (.stringIter ⟨s.toArray⟩ pos') } := by
  obtain ⟨b, m, hl, hB, hb, hi⟩ := H.obj id _ ho
  have hlt : b < w.heap.size := (Array.getElem?_eq_some_iff.1 hb).1
  refine ⟨b, m, hl, hb, ?_⟩
  have hother : ∀ k, k ≠ b → (w.heap.setIfInBounds b (.stringIter ⟨s.toArray⟩ pos'))[k]? = w.heap[k]? := fun k hk => Array.getElem?_setIfInBounds_ne (Ne.symm hk)
  refine H.turn (Gh.le_refl ρ) ?_ ?_ id _ ?_ ?_ ?_ ?_
  · exact H.below.trans ⟨rfl, rfl, rfl, by simp, fun k hk => hother k (by omega)⟩
  · intro b' p v hv
    have hne : b' ≠ b := fun he => by subst he; exact hi _ _ hv
    rw [World.cell?_of_block (w := w) (hother b' hne)]
    exact H.imm _ _ _ hv
  · intro j oj b' hj hoj hb'
    refine ⟨hother b' (fun he => ?_), fun _ => rfl, fun _ => rfl⟩
    subst he
    exact hj (H.apart j id oj _ hoj ho (by rw [hb']; simp [blkOf, hl]))
  · exact ⟨b, m, hl, hB, by simp [hlt], hi⟩
  · intro j oj hj hoj he
    exact hj (H.apart j id oj _ hoj ho (by rw [he]; simp [blkOf]))
  · exact H.bound_set id _ (fun ρ => ρ) (fun j _ h4 h5 => ⟨h4, h5⟩)

theorem pvBytes_rel (imm : Nat → Nat → Option Value) (l : List UInt8) : RelPL imm (pvBytes l) (l.map fun b => .int .u8 (b.toNat : Int)) :=
  ⟨by simp [pvBytes], fun i hi => by
    have hi' : i < l.length := by simpa [pvBytes] using hi
    simp only [pvBytes, List.getElem_map, List.getD_eq_getElem?_getD]
    rw [List.getElem?_eq_getElem (by simpa using hi')]
    simp only [List.getElem_map, Option.getD_some]
    exact .int _ _⟩

theorem op_sound (E : EnvOk P env) (hS : Ready P w0) (H : RelH w0 ρ σ w) {n : Nat} {fr : Fr} {a : Act} (F : RelF ρ n fr a) (mu : Option Nat → Bool) (o : Oper) {K : AV → AS → Prop} {X : PV → AS → Prop} (h : opD P env mu fr σ o.dst o.op K X)
    {next : Act → World → Prop} {Q : Exit → Act → World → Prop}
    (hn : ∀ ρ' σ' w' v u, ρ.le ρ' → RelH w0 ρ' σ' w' → RelV ρ' v u → K v σ' → next (a.put o.dst u) w')
    (hp : ∀ ρ' σ' w' p u, ρ.le ρ' → RelH w0 ρ' σ' w' → RelP ρ'.imm p u → X p σ' → Q (.panic [{ v := u, recovered := false }]) a w') : o.wp P a w next Q := by
  rw [opD_eq] at h
  unfold opU at h
  split at h
  · rename_i hs
    rw [← stillD_eq] at h
    obtain ⟨v, u, h1, h2, h3⟩ := still_sound hS H F mu o hs h
    unfold Oper.wp
    rw [h1]
    exact hn ρ σ w v u (Gh.le_refl ρ) H h2 h3
  rename_i hns
  -- a value, and what became of the world
  have val : ∀ {s : Sem Value} (ρ' : Gh) (σ' : AS) (w' : World) (v : AV) (u : Value), s.run P w = .ok u w' → ρ.le ρ' → RelH w0 ρ' σ' w' → RelV ρ' v u → K v σ' → execOp a.eval o = (do pure (Next.value (← s))) → o.wp P a w next Q := by
    intro s ρ' σ' w' v u h1 h2 h3 h4 h5 h6
    unfold Oper.wp
    have : (execOp a.eval o).run P w = .ok (.value u) w' := by
      rw [h6]
      simp only [Sem.run_bind, h1, Result.andThen_ok, Sem.run_pure]
    rw [this]
    exact hn ρ' σ' w' v u h2 h3 h4 h5
  obtain ⟨dst, op, type, pos, after, guard⟩ := o
  simp only at h hns
  split at h
  · -- alloc
    rename_i t
    unfold allocD at h
    split at h
    · rename_i z hz
      obtain ⟨hok, hK⟩ := h
      obtain ⟨i, zv, hi, hzv, rfl⟩ := zeroOf_some hz
      obtain ⟨id, ρ', h1, _, h2, h3, h4⟩ := H.newCells zv.cells t (0, 0) (nofz_zero _) (zv.cells.toList.map ofCell) (by simp) (by
        have := ofCells_rel ρ zv.cells.toList
        rw [List.length_map, List.take_length]
        exact this) hok (some t) (fun t' ht => ⟨Option.some.inj ht, by simp⟩)
      refine val ρ' _ _ (.addr id 0) (.pointer (some ⟨w.heap.size, 0 + 0, none⟩)) ?_ h2 h4 (.addr id 0 _ 0 _ h3) (hK id h1) rfl
      simp [Instr.alloc, zeroValue, typeInfo, hi, hzv, newVar, newRow, heap_push]
    · exact h.elim
  · -- box
    rename_i t x
    obtain ⟨hok, hK⟩ := h
    have hr := cells_rel (ev_rel F x) hok
    obtain ⟨id, ρ', h1, _, h2, h3, h4⟩ := H.newCells (a.eval x).cells t (0, 0) (nofz_zero _) (ev fr x).cells (by have := hr.1; simp at this; omega) (by
        rw [← hr.1, List.take_length]
        exact hr) hok none (fun t' ht => by cases ht)
    refine val ρ' _ _ (.addr id 0) (.pointer (some ⟨w.heap.size, 0 + 0, none⟩)) ?_ h2 h4 (.addr id 0 _ 0 _ h3) (hK id h1) rfl
    simp [Instr.box, newVar, newRow, heap_push]
  · -- buildSlice
    rename_i t n' ps
    unfold buildSliceD at h
    split at h
    · rename_i e he
      obtain ⟨hT, hsz, hzs, hb, hps, h⟩ := h
      split at h
      · rename_i cs hcs
        obtain ⟨z, hz⟩ := Option.isSome_iff_exists.1 hzs
        obtain ⟨i, zv, hi, hzv, _⟩ := zeroOf_some hz
        obtain ⟨i', hi', hsi, hbi⟩ := inf_some (hasT_inf hT)
        rw [hi] at hi'
        cases hi'
        have hparts := parts_rel F ps.toList
        obtain ⟨out, us, e1, e2, e3, e4, e5⟩ := elemsFill_sound _ 0 _ cs
          ((Array.range (n' * szOf P e)).map ((if n' * szOf P e = 0 then #[] else zv.cells)[· % (if n' * szOf P e = 0 then #[] else zv.cells).size]!)) hparts hcs (by simp [hps])
        simp only [Nat.zero_mul, List.take_zero, List.nil_append] at e2
        have hlen : us.length = n' * szOf P e := by rw [e4]; simp [hps]
        have hout : out = us.toArray := by rw [← e2]
        have hb' : ¬ (n' * szOf P e > 2 ^ 24) := by omega
        have hrun : (Instr.buildSlice t n' (ps.map fun (i, x) => (i, a.eval x))).run P w = .ok (.slice (some ⟨w.heap.size, 0, none⟩) n' n') (w.alloc (.cells us.toArray e)) := by
          simp only [Instr.buildSlice, Sem.run_bind, run_underlying (elOf_some he), Result.andThen_ok, run_size (hasT_inf hT), if_neg hb', Sem.run_pure]
          by_cases h0 : n' * szOf P e = 0
          · simp only [h0, if_true] at e1 ⊢
            simp only [Sem.run_bind, Sem.run_pure, Result.andThen_ok, Array.toList_map, e1]
            rw [hout]
            simp [newRow, heap_push]
          · simp only [h0, if_false] at e1 ⊢
            simp only [zeroValue, typeInfo, Sem.run_bind, Sem.run_pure, run_program, Result.andThen_ok, hi, hzv, Array.toList_map, e1]
            rw [hout]
            simp [newRow, heap_push]
        split at h
        · obtain ⟨ρ', σ', v, k1, k2, k3, k4⟩ := newRow_sound H e h us.toArray (0, 0) (nofz_zero _) us e3 (by rw [← e3.1]; simp) (by rw [← e3.1, hlen]) n' (Nat.le_refl _) (by
            have : n' ≤ n' * szOf P e := Nat.le_mul_of_pos_right _ hsz
            simp only [maxLen]; omega) (by simp [hlen])
          exact val ρ' σ' _ v _ hrun k1 k2 k3 k4 rfl
        · split at h
          · rename_i ys hys
            have hpl := toPVs_rel e3 hys
            obtain ⟨hle, H1⟩ := H.newImm us.toArray e (0, 0) us (fun i v hv => by simpa using hv)
            exact val _ σ _ (.full n' ys) _ hrun hle H1 (.full n' ys _ 0 us hpl.1 (Gh.ext_at ρ _ 0 us) (fun i hi => (hpl.2 i hi).mono hle.imm)) h rfl
          · exact h.elim
      · exact h.elim
    · exact h.elim
  · -- makeSlice
    rename_i t lx cx
    unfold makeSliceD at h
    split at h
    · rename_i e l c he hl hc
      obtain ⟨hT, hsz, h0, hlc, hby, hc63, h⟩ := h
      split at h
      · rename_i z hz
        obtain ⟨hzl, hK⟩ := h
        obtain ⟨i, zv, hi, hzv, rfl⟩ := zeroOf_some hz
        obtain ⟨i', hi', hsi, hbi⟩ := inf_some (hasT_inf hT)
        rw [hi] at hi'
        cases hi'
        have hlv := ev_rel F lx
        have hcv := ev_rel F cx
        rw [hl] at hlv
        rw [hc] at hcv
        have hzsz : zv.cells.size = szOf P e := by simpa using hzl
        have hrun := run_make (P := P) w t e i zv (elOf_some he) hi hzv .i64 .i64 l c h0 hlc (by rw [← hbi, Int.mul_comm]; exact hby) hc63
        rw [← hsi, ← hzsz] at hrun
        have hlcn : l.toNat ≤ c.toNat := by omega
        obtain ⟨ρ', σ', v, k1, k2, k3, k4⟩ := newRow_sound H e hK (madeCells zv.cells (c.toNat * zv.cells.size)) (0, 0) (nofz_zero _) (List.flatten (List.replicate l.toNat zv.cells.toList))
          (flat_rel (ofCells_rel ρ zv.cells.toList) _) (by
            rw [flat_len, List.length_map, Array.length_toList]
            exact made_take zv.cells (by omega) _ _ hlcn) (by rw [flat_len, hzl]) c.toNat hlcn (by simp only [maxLen]; omega) (by rw [size_madeCells, hzsz]; exact Nat.le_refl _)
        refine val ρ' σ' _ v _ (s := Instr.makeSlice t (a.eval lx) (a.eval cx)) ?_ k1 k2 k3 k4 rfl
        rw [relInt (x := .undef) hlv, relInt (x := .undef) hcv]
        exact hrun
      · exact h.elim
    · exact h.elim
  · -- store
    rename_i t x y
    obtain ⟨σ', w', h1, h2, h3⟩ := store_sound H h (ev_rel F x) (ev_rel F y)
    unfold Oper.wp
    have : (execOp a.eval { dst := dst, op := .store t x y, type := type, pos := pos, after := after, guard := guard }).run P w = .ok .skip w' := by
      simp only [execOp, Sem.run_bind, h1, Result.andThen_ok, Sem.run_pure]
    rw [this]
    exact hn ρ σ' w' .undef _ (Gh.le_refl ρ) h2 (.undef _) h3
  · -- convert
    rename_i s d x
    unfold bytesD at h
    split at h
    · rename_i e l he hx
      obtain ⟨hs, hu8, hsz, hll, hK⟩ := h
      have hxv := ev_rel F x
      rw [hx] at hxv
      have hrun := run_bytes_of_string (P := P) w s d e ⟨l.toArray⟩ hs (elOf_some he) hu8
      have hsize : (⟨l.toArray⟩ : ByteArray).size = l.length := bytes_size l
      rw [hsize] at hrun
      have hge := grownCap_ge w l.length 0 e
      have hgm := grownCap_le_maxLen w l.length 0 e (by simp only [maxLen]; omega)
      generalize grownCap w l.length 0 e = C at *
      have hrow : (bytesRow ⟨l.toArray⟩ C).toList = (l.map fun b => Value.int .u8 (b.toNat : Int)) ++ List.replicate (C - l.length) (.int .u8 0) := by
        simp [bytesRow, hsize]
      have hrs : (bytesRow ⟨l.toArray⟩ C).size = C := by
        have := congrArg List.length hrow
        simp at this
        omega
      obtain ⟨ρ', σ', v, k1, k2, k3, k4⟩ := newRow_sound (w := w.drew) (H.drawn (w.drawn + 1)) e hK (bytesRow ⟨l.toArray⟩ C) (C, C + 1) (fun i hi hh => by rw [hrs] at hi; omega)
        (l.map fun b => .int .u8 (b.toNat : Int)) (rel_map (pvBytes_rel ρ.imm l)) (by
          rw [hrow]
          simp [pvBytes]) (by simp [pvBytes]) C hge hgm (by rw [hrs]; omega)
      refine val ρ' σ' _ v _ (s := convert s d (a.eval x)) ?_ k1 k2 k3 k4 rfl
      rw [relStr hxv, hrun, hrs]
      rfl
    · exact h.elim
  · -- slice
    rename_i t x lo hi
    obtain ⟨ρ', σ', v, r, h1, h2, h3, h4, h5⟩ := takeOver_sound H h (ev_rel F x) (evo_rel F lo) (evo_rel F hi)
    exact val ρ' σ' w v r h1 h2 h3 h4 h5 rfl
  · -- range
    rename_i t x
    unfold rangeD at h
    split at h
    · rename_i s hx
      obtain ⟨ht, hK⟩ := h
      have hxv := ev_rel F x
      rw [hx] at hxv
      obtain ⟨id, ρ', h1, h2, h3, h4⟩ := H.newIter s 0
      refine val ρ' _ _ (.iter id) (.pointer (some ⟨w.heap.size, 0, none⟩)) (s := Instr.range t (a.eval x)) ?_ h2 h4 (.iter id _ _ h3) (hK id h1) rfl
      rw [relStr hxv]
      simp [Instr.range, run_underlying ht, heap_push]
    · exact h.elim
  · -- next
    rename_i it
    unfold nextD at h
    split at h
    · rename_i id hx
      have hxv := ev_rel F it
      rw [hx] at hxv
      obtain ⟨b, m, hax, hloc⟩ := inv_iter hxv
      split at h
      · rename_i s p ho
        obtain ⟨b', m', hloc', hb, H1⟩ := H.stepIter ho (p + (Utf8.decode ⟨s.toArray⟩ p).2)
        rw [hloc] at hloc'
        cases hloc'
        have hget : (getObj b).run P w = .ok (.stringIter ⟨s.toArray⟩ p) w := by simp [getObj, Sem.run, hb]
        split at h
        · rename_i hlt
          have hlt' : p < (⟨s.toArray⟩ : ByteArray).size := by rw [bytes_size]; exact hlt
          refine val ρ _ _ _ (.tuple #[.bool true, .int .i64 p, .int .i32 (Utf8.decode ⟨s.toArray⟩ p).1]) (s := Instr.next (a.eval it) true type) ?_ (Gh.le_refl ρ) H1 ?_ h rfl
          · rw [hax]
            simp only [Instr.next, Sem.run_bind, hget, Result.andThen_ok, if_pos hlt']
            simp [setObj, Sem.run, hb, goInt]
          · have := RelV.of_tuple (ρ := ρ) (RelL.cons (mkBool ρ true) (RelL.cons (mkInt ρ .i64 p) (RelL.cons (mkInt ρ .i32 (Utf8.decode ⟨s.toArray⟩ p).1) (RelL.nil ρ))))
            exact this
        · rename_i hlt
          have hlt' : ¬ p < (⟨s.toArray⟩ : ByteArray).size := by rw [bytes_size]; exact hlt
          refine val ρ σ w _ (.tuple #[.bool false]) (s := Instr.next (a.eval it) true type) ?_ (Gh.le_refl ρ) H ?_ h rfl
          · rw [hax]
            simp only [Instr.next, Sem.run_bind, hget, Result.andThen_ok, if_neg hlt', Sem.run_pure]
          · exact RelV.of_tuple (ρ := ρ) (RelL.cons (mkBool ρ false) (RelL.nil ρ))
      · exact h.elim
    · exact h.elim
  · -- panic
    rename_i x
    unfold panicD at h
    split at h
    · rename_i t b cs hx
      have hxv := ev_rel F x
      rw [hx] at hxv
      obtain ⟨v, hax, hr⟩ := inv_iface hxv
      unfold Oper.wp
      have : (execOp a.eval { dst := dst, op := .panic x, type := type, pos := pos, after := after, guard := guard }).run P w = .halt (.panic (.iface t v)) w := by
        simp only [execOp, hax, Instr.panic, Sem.run_bind, run_goPanic, Result.andThen_halt]
      rw [this]
      rw [hax] at hr
      exact hp ρ σ w _ _ (Gh.le_refl ρ) H hr h
    · exact h.elim
  · -- append
    rename_i args argTypes
    split at h
    · rename_i s x t t' hargs htys
      have ea : args = #[s, x] := by rw [← Array.toList_inj, hargs]
      have et : argTypes = #[t, t'] := by rw [← Array.toList_inj, htys]
      obtain ⟨ρ', σ', w', v, r, h1, h2, h3, h4, h5⟩ : ∃ ρ' σ' w' v r, (Builtin.append_ #[t, t'] type #[_, _]).run P w = .ok r w' ∧ ρ.le ρ' ∧ RelH w0 ρ' σ' w' ∧ RelV ρ' v r ∧ K v σ' := by
        by_cases htt : t = t'
        · subst htt
          have h2 : appendD P (mu dst) σ t (ev fr s) (ev fr x) K := by simpa using h
          exact append_sound H h2 (ev_rel F s) (ev_rel F x) type
        · have h2 : appendStrD P (mu dst) σ t t' (ev fr s) (ev fr x) K := by simpa [htt] using h
          exact appendStr_sound H h2 (ev_rel F s) (ev_rel F x) type
      refine val ρ' σ' w' v r h1 h2 h3 h4 h5 ?_
      subst ea; subst et
      have em : (#[s, x] : Array Operand).map a.eval = #[a.eval s, a.eval x] := by simp
      simp only [execOp, resolve, invoke, builtin, pure_bind, em]
    · exact h.elim
  · -- a call
    rename_i f args argTypes
    unfold callD at h
    have go : ∀ (g : FuncId) (as : List AV) (us : List Value), RelL ρ as us → env g as σ K X → (execOp a.eval { dst := dst, op := .call { callee := .value f, args := args, argTypes := argTypes }, type := type, pos := pos, after := after, guard := guard }) = callFunc g us.toArray →
        Oper.wp P { dst := dst, op := .call { callee := .value f, args := args, argTypes := argTypes }, type := type, pos := pos, after := after, guard := guard } a w next Q := by
      intro g as us hr he hx
      obtain ⟨h1, h2⟩ := E g w0 hS ρ σ w as us K X H hr he
      unfold Oper.wp
      rw [hx, h1, Oper.upon_enter]
      refine h2.mono fun e w' hh => ?_
      obtain ⟨ρ', σ', g1, g2, g3⟩ := hh
      cases e with
      | returned u => obtain ⟨r, g4, g5⟩ := g3; exact hn ρ' σ' w' r u g1 g2 g4 g5
      | panicked ch =>
        obtain ⟨p, u, rfl, g4, g5⟩ := g3
        exact hp ρ' σ' w' p u g1 g2 g4 g5
      | outgrown => exact g3.elim
    have hargs := evs_rel F args.toList
    split at h
    · rename_i g hg
      have hfv := ev_rel F f
      rw [hg] at hfv
      have hax := inv_func hfv
      refine go g _ _ hargs h ?_
      simp only [execOp, resolve, hax, Deferred.ofValue, invoke, pure_bind]
      congr 1
      apply Array.ext'
      simp
    · rename_i g first cap hg
      have hfv := ev_rel F f
      rw [hg] at hfv
      obtain ⟨vs, us, hax, r1, r2⟩ := inv_clo hfv
      refine go g _ _ ((r1.append hargs).append r2) h ?_
      simp only [execOp, resolve, hax, Deferred.ofValue, invoke, pure_bind]
      congr 1
      apply Array.ext'
      simp
    · exact h.elim
  · exact h.elim
end
end Go.AD
