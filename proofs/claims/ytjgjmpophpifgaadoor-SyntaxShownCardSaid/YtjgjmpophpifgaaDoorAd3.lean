/- Operations that leave the store alone: what the calculus says of them is what the model does. -/
import Derived.Test.YtjgjmpophpifgaaDoorAd2
import Derived.Laws.StructEq
set_option linter.unusedVariables false
set_option linter.unusedSimpArgs false
namespace Go.AD

section
variable {P : Program} {w0 w : World} {ρ : Gh} {σ : AS}

theorem inf_some {t : TypeId} (h : (inf P t).isSome = true) : ∃ i, P.info? t = some i ∧ szOf P t = i.size ∧ byOf P t = i.bytes := by
  unfold inf at h
  cases hi : P.info? t with
  | none => simp [hi] at h
  | some i => exact ⟨i, rfl, by simp [szOf, inf, hi], by simp [byOf, inf, hi]⟩
theorem run_size {t : TypeId} (h : (inf P t).isSome = true) (w : World) : (sizeOf t).run P w = .ok (szOf P t) w := by
  obtain ⟨i, hi, hs, _⟩ := inf_some h
  simp [sizeOf, typeInfo, hi, hs]
theorem hasT_inf {t : TypeId} (h : hasT P t = true) : (inf P t).isSome = true := by simp [hasT] at h; simpa using h.2
theorem hasT_und {t : TypeId} (h : hasT P t = true) : ∃ d, P.underlying t = some d := by
  simp [hasT] at h
  exact Option.isSome_iff_exists.1 h.1
theorem run_agg {t : TypeId} (h : hasT P t = true) (w : World) : (isAgg t).run P w = .ok (aggB P t) w := by
  obtain ⟨d, hd⟩ := hasT_und h
  simp only [isAgg, Sem.run_bind, run_underlying hd, Result.andThen_ok, aggB, hd]
  cases d <;> rfl

theorem cells_at (H : RelH w0 ρ σ w) {id : Nat} {cs : List AV} {var : Option TypeId} (ho : σ id = some (.cells cs var)) :
    ∃ b o m vs, ρ.loc id = some (b, o, m) ∧ w0.heap.size ≤ b ∧ RelL ρ cs vs ∧ o + cs.length ≤ m ∧ ∀ i v, vs[i]? = some v → w.cell? ⟨b, o + i, none⟩ = some v := by
  obtain ⟨b, o, m, cur, e, fz, hl, hB, hb, hf, hm, hle, hok, hr, _⟩ := H.obj id _ ho
  refine ⟨b, o, m, _, hl, hB, hr, hle, fun i v hv => ?_⟩
  rw [cell_of_row w b (o + i) cur e fz hb]
  rw [List.getElem?_take] at hv
  split at hv
  · rw [List.getElem?_drop] at hv
    simpa using hv
  · cases hv
theorem ImmAt.cell (H : RelH w0 ρ σ w) {b o : Nat} {vs : List Value} (h : ImmAt ρ.imm b o vs) (i : Nat) (v : Value) (hv : vs[i]? = some v) : w.cell? ⟨b, o + i, none⟩ = some v := by
  obtain ⟨hi, rfl⟩ := List.getElem?_eq_some_iff.1 hv
  have := H.imm _ _ _ (h i hi)
  rwa [List.getD_eq_getElem?_getD, List.getElem?_eq_getElem hi] at this

theorem run_loadScalar {t : TypeId} (ht : hasT P t = true) (ha : aggB P t = false) {b o : Nat} {v : Value} (hc : w.cell? ⟨b, o, none⟩ = some v) :
    (Instr.loadAt t (.pointer (some ⟨b, o, none⟩))).run P w = .ok v w := by
  simp [Instr.loadAt, Instr.sureAddr, loadVar, run_agg ht, ha, hc]
theorem run_loadAgg {t : TypeId} (ht : hasT P t = true) (ha : aggB P t = true) {b o : Nat} (vs : List Value) (hl : vs.length = szOf P t) (hc : ∀ (i : Nat) v, vs[i]? = some v → w.cell? ⟨b, o + i, none⟩ = some v) :
    (Instr.loadAt t (.pointer (some ⟨b, o, none⟩))).run P w = .ok (.agg vs.toArray) w := by
  have hr := run_loadCells_list (P := P) w ⟨b, o, none⟩ vs (fun j v hv => by rw [Addr.add_lit]; exact hc j v hv)
  simp [Instr.loadAt, Instr.sureAddr, loadVar, run_agg ht, ha, run_size (hasT_inf ht), ← hl, hr]

theorem loadD_sound (hS : Ready P w0) (H : RelH w0 ρ σ w) {t : TypeId} {x : AV} {K : AV → Prop} (h : loadD P σ t x K) {u : Value} (hu : RelV ρ x u) :
    ∃ v r, (Instr.loadAt t u).run P w = .ok r w ∧ RelV ρ v r ∧ K v := by
  obtain ⟨ht, h⟩ := h
  split at h
  · rename_i id off
    split at h
    · rename_i cs ho
      obtain ⟨b, o, m, vs, hl, _, hr, _, hc⟩ := cells_at H ho
      cases hu with
      | addr _ _ b' o' m' hl' =>
        rw [hl] at hl'
        cases hl'
        split at h
        · rename_i ha
          obtain ⟨hle, hK⟩ := h
          have hr' := (hr.drop off).take (szOf P t)
          refine ⟨_, _, run_loadAgg ht ha ((vs.drop off).take (szOf P t)) (by have := hr.1; simp; omega) (fun i v hv => ?_), RelV.of_agg hr', hK⟩
          rw [List.getElem?_take] at hv
          split at hv
          · rw [List.getElem?_drop] at hv
            have := hc _ _ hv
            rwa [← Nat.add_assoc] at this
          · cases hv
        · rename_i ha
          split at h
          · rename_i v hv
            obtain ⟨r, hr1, hr2⟩ := hr.get? _ hv
            exact ⟨v, r, run_loadScalar ht (by simpa using ha) (hc _ _ hr1), hr2, h⟩
          · exact h.elim
    · exact h.elim
  · rename_i cs off
    cases hu with
    | elemP _ _ b o vs hl hi hr =>
      have hR : RelL ρ (cs.map .pv) vs := RelPL.toL ⟨hl, hr⟩
      split at h
      · rename_i ha
        obtain ⟨hle, hK⟩ := h
        have hr' := (hR.drop off).take (szOf P t)
        refine ⟨_, _, run_loadAgg ht ha ((vs.drop off).take (szOf P t)) (by simp; omega) (fun i v hv => ?_), RelV.of_agg hr', ?_⟩
        · rw [List.getElem?_take] at hv
          split at hv
          · rw [List.getElem?_drop] at hv
            have := ImmAt.cell H hi _ _ hv
            rwa [← Nat.add_assoc] at this
          · cases hv
        · rwa [← List.map_drop, ← List.map_take]
      · rename_i ha
        split at h
        · rename_i v hv
          obtain ⟨r, hr1, hr2⟩ := hR.get? off (c := .pv v) (by simp [hv])
          exact ⟨_, r, run_loadScalar ht (by simpa using ha) (ImmAt.cell H hi _ _ hr1), hr2, h⟩
        · exact h.elim
  · rename_i g
    split at h
    · rename_i cs hk
      obtain ⟨ha, hsz, hK⟩ := h
      cases hu
      obtain ⟨vs, hl, hc, hr⟩ := hS.known g cs hk
      have hc' : ∀ (i : Nat) v, vs[i]? = some v → w.cell? ⟨g, 0 + i, none⟩ = some v := by
        intro i v hv
        rw [Nat.zero_add]
        have hv' := hc i v hv
        have hg : g < w0.heap.size := by
          unfold World.cell? at hv'
          simp only at hv'
          split at hv'
          · rename_i hh
            exact (Array.getElem?_eq_some_iff.1 hh).1
          · cases hv'
        rw [H.below.cell (p := ⟨g, i, none⟩) hg]
        exact hv'
      exact ⟨_, _, run_loadAgg ht ha vs (by omega) hc', RelV.of_agg (RelPL.toL ⟨hl, fun i hi => (hr i hi).mono (fun _ _ _ h => by cases h)⟩), hK⟩
    · exact h.elim
  · exact h.elim

/-! ### numbers, texts, comparisons -/
theorem relInt {x : AV} {k : IntKind} {n : Int} {u : Value} (hx : RelV ρ (.pv (.int k n)) u) : u = .int k n := by
  cases hx with | pv h => cases h; rfl
theorem relBool {b : Bool} {u : Value} (hx : RelV ρ (.pv (.bool b)) u) : u = .bool b := by
  cases hx with | pv h => cases h; rfl
theorem relStr {l : List UInt8} {u : Value} (hx : RelV ρ (.pv (.str l)) u) : u = .string ⟨l.toArray⟩ := by
  cases hx with | pv h => cases h; rfl
theorem mkInt (ρ : Gh) (k : IntKind) (n : Int) : RelV ρ (.pv (.int k n)) (.int k n) := .pv (.int k n)
theorem mkBool (ρ : Gh) (b : Bool) : RelV ρ (.pv (.bool b)) (.bool b) := .pv (.bool b)
theorem mkStr (ρ : Gh) (l : List UInt8) : RelV ρ (.pv (.str l)) (.string ⟨l.toArray⟩) := .pv (.str l)

theorem intOp_sound (ρ : Gh) {op : BinOp} {k : IntKind} {x y : Int} {K : AV → Prop} (h : intOp op k x y K) (hop : op ≠ .shl ∧ op ≠ .shr) :
    ∃ v r, (binOp op 0 (.int k x) (.int k y)).run P w = .ok r w ∧ RelV ρ v r ∧ K v := by
  cases op <;> simp only [intOp] at h
  case add => exact ⟨_, _, by simp [binOp, Op.intArith], mkInt .., h⟩
  case sub => exact ⟨_, _, by simp [binOp, Op.intArith], mkInt .., h⟩
  case mul => exact ⟨_, _, by simp [binOp, Op.intArith], mkInt .., h⟩
  case quo => exact ⟨_, _, by simp [binOp, Op.intDiv, h.1], mkInt .., h.2⟩
  case rem => exact ⟨_, _, by simp [binOp, Op.intDiv, h.1], mkInt .., h.2⟩
  case and => exact ⟨_, _, by simp [binOp, Op.intBits], mkInt .., h⟩
  case or => exact ⟨_, _, by simp [binOp, Op.intBits], mkInt .., h⟩
  case xor => exact ⟨_, _, by simp [binOp, Op.intBits], mkInt .., h⟩
  case andNot => exact ⟨_, _, by simp [binOp, Op.intBits], mkInt .., h⟩
  case eql => exact ⟨_, _, by simp [binOp, Op.intCmp], mkBool .., h⟩
  case neq => exact ⟨_, _, by simp [binOp, Op.intCmp], mkBool .., h⟩
  case lss => exact ⟨_, _, by simp [binOp, Op.intCmp], mkBool .., h⟩
  case leq => exact ⟨_, _, by simp [binOp, Op.intCmp], mkBool .., h⟩
  case gtr => exact ⟨_, _, by simp [binOp, Op.intCmp], mkBool .., h⟩
  case geq => exact ⟨_, _, by simp [binOp, Op.intCmp], mkBool .., h⟩
  all_goals exact h.elim
theorem shiftOp_sound (ρ : Gh) {op : BinOp} {k k' : IntKind} {x y : Int} {K : AV → Prop} (h : shiftOp op k x y K) :
    ∃ v r, (binOp op 0 (.int k x) (.int k' y)).run P w = .ok r w ∧ RelV ρ v r ∧ K v := by
  cases op <;> simp only [shiftOp] at h
  case shl => exact ⟨_, _, by simp [binOp, Op.shift, Int.not_lt.2 h.1], mkInt .., h.2⟩
  case shr => exact ⟨_, _, by simp [binOp, Op.shift, Int.not_lt.2 h.1], mkInt .., h.2⟩
  all_goals exact h.elim
theorem bytes_toList (l : List UInt8) : (⟨l.toArray⟩ : ByteArray).toList = l := by
  rw [ByteArray.toList_eq]
theorem bytes_size (l : List UInt8) : (⟨l.toArray⟩ : ByteArray).size = l.length := by simp [ByteArray.size]
theorem bytes_append (l m : List UInt8) : (⟨l.toArray⟩ : ByteArray) ++ ⟨m.toArray⟩ = ⟨(l ++ m).toArray⟩ := by
  apply ByteArray.ext
  simp
theorem strOp_sound (ρ : Gh) {op : BinOp} {x y : List UInt8} {K : AV → Prop} (h : strOp op x y K) :
    ∃ v r, (Op.stringOp op ⟨x.toArray⟩ ⟨y.toArray⟩).run P w = .ok r w ∧ RelV ρ v r ∧ K v := by
  cases op <;> simp only [strOp] at h
  case add =>
    refine ⟨_, .string ⟨(x ++ y).toArray⟩, ?_, mkStr .., h.2⟩
    have : ¬ (((x.length + y.length : Nat) : Int) > IntKind.i64.max) := by
      have := h.1
      simp [IntKind.max, IntKind.signed, IntKind.bits]
      omega
    simp only [Op.stringOp, bytes_size, bytes_append, if_neg this, Sem.run_pure]
  case eql => exact ⟨_, _, by simp only [Op.stringOp, bytes_toList, Sem.run_pure], mkBool .., h⟩
  case neq => exact ⟨_, _, by simp only [Op.stringOp, bytes_toList, Sem.run_pure], mkBool .., h⟩
  case lss => exact ⟨_, _, by simp only [Op.stringOp, bytes_toList, Sem.run_pure], mkBool .., h⟩
  case leq => exact ⟨_, _, by simp only [Op.stringOp, bytes_toList, Sem.run_pure], mkBool .., h⟩
  case gtr => exact ⟨_, _, by simp only [Op.stringOp, bytes_toList, Sem.run_pure], mkBool .., h⟩
  case geq => exact ⟨_, _, by simp only [Op.stringOp, bytes_toList, Sem.run_pure], mkBool .., h⟩
  all_goals exact h.elim

/-! ### '==' -/
theorem sameAt_run {t : TypeId} {a b : AV} {u v : Value} (ha : RelV ρ a u) (hb : RelV ρ b v) {r : Bool} (h : sameAt P t a b = some r) :
    (∀ w, (isAgg t).run P w = .ok false w) ∧ ∀ d w, (Op.equalIn (d + 1) t u v).run P w = .ok r w := by
  unfold sameAt at h
  split at h
  · rename_i k' k x k2 y hu
    split at h
    · rename_i hk
      subst hk
      cases h
      refine ⟨fun w => by simp [isAgg, run_underlying hu], fun d w => ?_⟩
      rw [relInt (x := .undef) ha, relInt (x := .undef) hb]
      exact run_equalIn_int w d t k k' x y hu
    · cases h
  · rename_i x y hu
    cases h
    refine ⟨fun w => by simp [isAgg, run_underlying hu], fun d w => ?_⟩
    rw [relBool ha, relBool hb]
    exact run_equalIn_bool' w d t x y hu
  · rename_i x y hu
    cases h
    refine ⟨fun w => by simp [isAgg, run_underlying hu], fun d w => ?_⟩
    rw [relStr ha, relStr hb, run_equalIn_string w d t _ _ hu, bytes_toList, bytes_toList]
  · cases h
theorem sameFields_run (d : Nat) (us vs : List Value) : ∀ (fs : List Field) (i : Nat) (as bs : List AV), RelL ρ as (us.drop i) → RelL ρ bs (vs.drop i) →
    ∀ r, sameFields P fs i as bs = some r → ∀ w, (Op.eqFields (d + 1) us.toArray vs.toArray fs).run P w = .ok r w := by
  intro fs
  induction fs with
  | nil =>
    intro i as bs ha hb r h w
    cases as <;> cases bs <;> simp [sameFields] at h
    subst h
    simp [Op.eqFields]
  | cons f fs ih =>
    intro i as bs ha hb r h w
    cases as with
    | nil => simp [sameFields] at h
    | cons a as =>
      cases bs with
      | nil => simp [sameFields] at h
      | cons b bs =>
        obtain ⟨u, us', hu, hru, hrest⟩ := ha.uncons
        obtain ⟨v, vs', hv, hrv, hrest'⟩ := hb.uncons
        have hu0 : us[i]? = some u := by
          have := congrArg (fun l : List Value => l[0]?) hu
          simpa [List.getElem?_drop] using this
        have hv0 : vs[i]? = some v := by
          have := congrArg (fun l : List Value => l[0]?) hv
          simpa [List.getElem?_drop] using this
        have hu1 : us.drop (i + 1) = us' := by
          have := congrArg (List.drop 1) hu
          simpa [List.drop_drop] using this
        have hv1 : vs.drop (i + 1) = vs' := by
          have := congrArg (List.drop 1) hv
          simpa [List.drop_drop] using this
        simp only [sameFields] at h
        split at h
        · rename_i hcond
          obtain ⟨ho, hn⟩ := hcond
          split at h
          · rename_i x y hx hy
            cases h
            obtain ⟨h1, h2⟩ := sameAt_run (P := P) hru hrv hx
            have ih' := ih (i + 1) as bs (by rw [hu1]; exact hrest) (by rw [hv1]; exact hrest') y hy
            have pu : ∀ w, (part f.type us.toArray f.offset).run P w = .ok u w := fun w => by simp [part, h1, ho, hu0]
            have pv : ∀ w, (part f.type vs.toArray f.offset).run P w = .ok v w := fun w => by simp [part, h1, ho, hv0]
            simp only [Op.eqFields, ne_eq, hn, not_false_eq_true, if_true, Sem.run_bind, pu, pv, Result.andThen_ok, h2, Sem.run_ite]
            cases x with
            | false => simp
            | true => simpa using ih' w
          · cases h
        · cases h
theorem relAgg2 {a b : AV} {u : Value} (h : RelV ρ (.agg [a, b]) u) : ∃ us : Array Value, u = .agg us ∧ ∃ u1 u2, us = #[u1, u2] ∧ RelV ρ a u1 ∧ RelV ρ b u2 := by
  cases h with
  | agg _ us hl hr =>
    refine ⟨us.toArray, rfl, ?_⟩
    have hr' : RelL ρ [a, b] us := ⟨hl, hr⟩
    obtain ⟨u1, us', rfl, h1, hr2⟩ := hr'.uncons
    obtain ⟨u2, us'', rfl, h2, hr3⟩ := hr2.uncons
    obtain rfl : us'' = [] := hr3.nil_inv
    exact ⟨u1, u2, rfl, h1, h2⟩
theorem run_equalIn_arr2 (w : World) (d : Nat) {t e : TypeId} (hu : P.underlying t = some (.array 2 e)) (hie : (inf P e).isSome = true) (hsz : szOf P e = 1) {u1 u2 v1 v2 : Value} {x y : Bool}
    (ha : ∀ w, (isAgg e).run P w = .ok false w) (h1 : ∀ w, (Op.equalIn (d + 1) e u1 v1).run P w = .ok x w) (h2 : ∀ w, (Op.equalIn (d + 1) e u2 v2).run P w = .ok y w) :
    (Op.equalIn (d + 2) t (.agg #[u1, u2]) (.agg #[v1, v2])).run P w = .ok (x && y) w := by
  have hs : ∀ w, (sizeOf e).run P w = .ok 1 w := fun w => by rw [run_size hie, hsz]
  rw [Op.equalIn]
  simp only [Sem.run_bind, run_underlying hu, Result.andThen_ok]
  simp only [Std.Legacy.Range.forIn_eq_forIn_range', Std.Legacy.Range.size, Nat.sub_zero, Nat.add_sub_cancel, Nat.div_one, List.range'_succ, List.range'_zero, List.forIn_cons, List.forIn_nil]
  simp [hs, part, ha, h1, h2]
  cases x <;> cases y <;> simp [hs, part, ha, h1, h2]
theorem elOf_some {t e : TypeId} (h : elOf P t = some e) : P.underlying t = some (.slice e) := by
  unfold elOf at h
  split at h
  · cases h; assumption
  · cases h
/-- '==' and '!=' by what the values' comparison says. -/
theorem eq_of_equalIn {t : TypeId} {u v : Value} {r : Bool} (op : BinOp) (hop : op = .eql ∨ op = .neq) (ox oy : Operand) (h : ∀ d w, (Op.equalIn (d + 1) t u v).run P w = .ok r w)
    (e1 : binOp .eql t u v = (do pure (.bool (← Op.equal t u v)))) (e2 : binOp .neq t u v = (do pure (.bool (!(← Op.equal t u v))))) (hg : (eqGuard op t ox oy u v).run P w = .ok () w) :
    (do eqGuard op t ox oy u v; binOp op t u v : Sem Value).run P w = .ok (.bool (if op = .eql then r else !r)) w := by
  have hq : (Op.equal t u v).run P w = .ok r w := h 9999 w
  rcases hop with rfl | rfl
  · simp only [Sem.run_bind, hg, Result.andThen_ok, e1, hq, Sem.run_pure, if_true]
  · simp only [Sem.run_bind, hg, Result.andThen_ok, e2, hq, Sem.run_pure]
    simp
theorem eqD_sound (H : RelH w0 ρ σ w) {t : TypeId} {x y : AV} {K : Bool → Prop} (h : eqD P t x y K) {u v : Value} (hu : RelV ρ x u) (hv : RelV ρ y v) (op : BinOp) (hop : op = .eql ∨ op = .neq) (ox oy : Operand) :
    ∃ r, (do eqGuard op t ox oy u v; binOp op t u v : Sem Value).run P w = .ok (.bool (if op = .eql then r else !r)) w ∧ K r := by
  unfold eqD at h
  split at h
  · rename_i a b
    rw [relBool hu, relBool hv]
    exact ⟨a == b, eq_of_equalIn op hop ox oy (fun d w => run_equalIn_bool' w d t a b h.1) rfl rfl (by rcases hop with rfl | rfl <;> rfl), h.2⟩
  · rename_i as bs
    obtain ⟨h1, h2, h3⟩ := h
    split at h3
    · rename_i fs hfs
      split at h3
      · rename_i r hr
        cases hu with
        | agg _ us hl hr1 =>
          cases hv with
          | agg _ vs hl' hr2 =>
            have hf : P.fieldsOf t = fs := by simp [Program.fieldsOf, hfs]
            have hrun := sameFields_run (P := P) 9998 us vs fs.toList 0 as bs ⟨hl, hr1⟩ ⟨hl', hr2⟩ r hr
            refine ⟨r, ?_, h3⟩
            have hg := run_eqGuard_agg (P := P) w op t ox oy us.toArray vs.toArray h2
            rcases hop with rfl | rfl
            · simp only [Sem.run_bind, hg, Result.andThen_ok, run_eql_struct, run_equalIn_agg w 9999 t us.toArray vs.toArray (by rw [hf]; exact hfs) h1, hf, hrun, if_true]
            · simp only [Sem.run_bind, hg, Result.andThen_ok, run_neq_struct, run_equalIn_agg w 9999 t us.toArray vs.toArray (by rw [hf]; exact hfs) h1, hf, hrun]
              simp
      · exact h3.elim
    · rename_i n e hfs
      obtain ⟨rfl, hie, hsz, h3⟩ := h3
      split at h3
      · rename_i a1 a2 b1 b2
        split at h3
        · rename_i x y hx hy
          obtain ⟨_, rfl, u1, u2, rfl, hu1, hu2⟩ := relAgg2 hu
          obtain ⟨_, rfl, v1, v2, rfl, hv1, hv2⟩ := relAgg2 hv
          obtain ⟨ha, hq1⟩ := sameAt_run (P := P) hu1 hv1 hx
          obtain ⟨_, hq2⟩ := sameAt_run (P := P) hu2 hv2 hy
          have hrun : ∀ w, (Op.equalIn 10000 t (.agg #[u1, u2]) (.agg #[v1, v2])).run P w = .ok (x && y) w := fun w => run_equalIn_arr2 w 9998 hfs hie hsz ha (hq1 9998) (hq2 9998)
          refine ⟨x && y, ?_, h3⟩
          have hg := run_eqGuard_agg (P := P) w op t ox oy #[u1, u2] #[v1, v2] h2
          rcases hop with rfl | rfl
          · simp only [Sem.run_bind, hg, Result.andThen_ok, run_eql_struct, hrun, if_true]
          · simp only [Sem.run_bind, hg, Result.andThen_ok, run_neq_struct, hrun]
            simp
        · exact h3.elim
      · exact h3.elim
    · exact h3.elim
  · obtain ⟨h1, h2⟩ := h
    obtain ⟨e, he⟩ := Option.isSome_iff_exists.1 h1
    cases hu; cases hv
    exact ⟨true, eq_of_equalIn op hop ox oy (fun d w => by simp [Op.equalIn, run_underlying (elOf_some he)]) rfl rfl (by rcases hop with rfl | rfl <;> rfl), h2⟩
  · obtain ⟨h1, h2⟩ := h
    obtain ⟨e, he⟩ := Option.isSome_iff_exists.1 h1
    cases hu; cases hv
    exact ⟨false, eq_of_equalIn op hop ox oy (fun d w => by simp [Op.equalIn, run_underlying (elOf_some he)]) rfl rfl (by rcases hop with rfl | rfl <;> rfl), h2⟩
  · obtain ⟨h1, h2⟩ := h
    obtain ⟨e, he⟩ := Option.isSome_iff_exists.1 h1
    cases hu; cases hv
    exact ⟨false, eq_of_equalIn op hop ox oy (fun d w => by simp [Op.equalIn, run_underlying (elOf_some he)]) rfl rfl (by rcases hop with rfl | rfl <;> rfl), h2⟩
  · obtain ⟨h1, h2⟩ := h
    split at h1
    · rename_i e he
      cases hu
      cases hv with | pv hv => cases hv; exact ⟨false, eq_of_equalIn op hop ox oy (fun d w => by simp [Op.equalIn, run_underlying he]) rfl rfl (by rcases hop with rfl | rfl <;> rfl), h2⟩
    · exact h1.elim
  · obtain ⟨h1, h2⟩ := h
    split at h1
    · rename_i e he
      cases hu with | pv hu => cases hu; cases hv with | pv hv => cases hv; exact ⟨true, eq_of_equalIn op hop ox oy (fun d w => by simp [Op.equalIn, run_underlying he]) rfl rfl (by rcases hop with rfl | rfl <;> rfl), h2⟩
    · exact h1.elim
  · obtain ⟨h1, h2⟩ := h
    split at h1
    · rename_i ms hms
      cases hu with | pv hu => cases hu; cases hv with | pv hv =>
        cases hv
        refine ⟨true, eq_of_equalIn op hop ox oy (fun d w => by simp [Op.equalIn, run_underlying hms]) rfl rfl ?_, h2⟩
        have hq : (Op.eqGuardIn Op.maxDepth t .nilIface .nilIface).run P w = .ok false w := by
          rw [show Op.maxDepth = 9999 + 1 from rfl, Op.eqGuardIn]
          simp [run_underlying hms, h1]
        rcases hop with rfl | rfl <;> (unfold eqGuard; simp only [Bool.not_true, Bool.false_eq_true, if_false]; split <;> simp [hq])
    · exact h1.elim
  · obtain ⟨h1, h2⟩ := h
    split at h1
    · rename_i e he
      cases hu with | pv hu => cases hv with | pv hv =>
        cases hv
        cases hu <;> exact ⟨false, eq_of_equalIn op hop ox oy (fun d w => by simp [Op.equalIn, run_underlying he]) rfl rfl (by rcases hop with rfl | rfl <;> rfl), h2⟩
    · exact h1.elim
  · rename_i i o j p
    obtain ⟨h1, rfl, h2⟩ := h
    split at h1
    · rename_i e he
      obtain ⟨hs, hz⟩ := h1
      cases hu with
      | addr _ _ b o1 m hl =>
        cases hv with
        | addr _ _ b' o2 m' hl' =>
          rw [hl] at hl'
          cases hl'
          have ea : ((⟨b, o1 + o, none⟩ : Addr) == ⟨b, o1 + p, none⟩) = (o == p) := by
            rw [Bool.eq_iff_iff]
            simp
          exact ⟨o == p, eq_of_equalIn op hop ox oy (fun d w => by simp [Op.equalIn, run_underlying he, run_size hs, hz, sameAddr, ea]) rfl rfl (by rcases hop with rfl | rfl <;> rfl), h2⟩
    · exact h1.elim
  · exact h.elim
end
end Go.AD
