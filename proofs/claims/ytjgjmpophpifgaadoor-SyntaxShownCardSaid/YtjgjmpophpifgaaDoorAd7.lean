/- All operations that leave the store alone, in one statement. -/
import Derived.Test.YtjgjmpophpifgaaDoorAd6
set_option linter.unusedVariables false
set_option linter.unusedSimpArgs false
namespace Go.AD

section
variable {P : Program} {w0 w : World} {ρ : Gh} {σ : AS}

theorem evo_rel {n : Nat} {fr : Fr} {a : Act} (F : RelF ρ n fr a) (x : Option Operand) : RelO ρ (evo fr x) (x.map a.eval) := by
  cases x with
  | none => trivial
  | some x => exact ev_rel F x
theorem parts_rel {n : Nat} {fr : Fr} {a : Act} (F : RelF ρ n fr a) : ∀ l : List (Nat × Operand), RelParts ρ (l.map fun (i, x) => (i, ev fr x)) (l.map fun (i, x) => (i, a.eval x))
  | [] => trivial
  | (i, x) :: l => ⟨rfl, ev_rel F x, parts_rel F l⟩
theorem wrapV {s : Sem Value} {r : Value} (h : s.run P w = .ok r w) : (do pure (Next.value (← s)) : Sem Next).run P w = .ok (.value r) w := by
  simp only [Sem.run_bind, h, Result.andThen_ok, Sem.run_pure]

theorem inv_addr {id off : Nat} {u : Value} (h : RelV ρ (.addr id off) u) : ∃ b o m, u = .pointer (some ⟨b, o + off, none⟩) ∧ ρ.loc id = some (b, o, m) := by
  cases h with | addr _ _ b o m hl => exact ⟨b, o, m, rfl, hl⟩
theorem inv_elemP {cs : List PV} {off : Nat} {u : Value} (h : RelV ρ (.elemP cs off) u) : ∃ b o, u = .pointer (some ⟨b, o + off, none⟩) := by
  cases h with | elemP _ _ b o vs hl hi hr => exact ⟨b, o, rfl⟩
theorem inv_tuple {cs : List AV} {u : Value} (h : RelV ρ (.tuple cs) u) : ∃ us : List Value, u = .tuple us.toArray ∧ RelL ρ cs us := by
  cases h with | tuple _ us hl hr => exact ⟨us, rfl, hl, hr⟩
theorem inv_agg {cs : List AV} {u : Value} (h : RelV ρ (.agg cs) u) : ∃ us : List Value, u = .agg us.toArray ∧ RelL ρ cs us := by
  cases h with | agg _ us hl hr => exact ⟨us, rfl, hl, hr⟩
theorem still_sound (hS : Ready P w0) (H : RelH w0 ρ σ w) {n : Nat} {fr : Fr} {a : Act} (F : RelF ρ n fr a) (mu : Option Nat → Bool) (o : Oper) {K : AV → Prop} (hs : isStill mu P o.dst o.op = true) (h : stillD P fr σ o.op K) :
    ∃ v u, (execOp a.eval o).run P w = .ok (.value u) w ∧ RelV ρ v u ∧ K v := by
  rw [stillD_eq] at h
  obtain ⟨dst, op, type, pos, after, guard⟩ := o
  simp only at h hs
  cases op with
  | move x => exact ⟨_, _, rfl, ev_rel F x, h⟩
  | assign x => exact ⟨_, _, rfl, ev_rel F x, h⟩
  | pick c x y =>
    simp only [stillU, pickD] at h
    split at h
    · rename_i t ht
      have hc := ev_rel F c
      rw [ht] at hc
      have hb := relBool hc
      refine ⟨_, if t = true then a.eval x else a.eval y, ?_, ?_, h⟩
      · simp only [execOp, hb, asBool, Sem.run_bind, Sem.run_pure, Result.andThen_ok]
      · cases t
        · exact ev_rel F y
        · exact ev_rel F x
    · exact h.elim
  | build t ps =>
    simp only [stillU] at h
    obtain ⟨v, r, h1, h2, h3⟩ := buildD_sound h (ps.map fun (i, x) => (i, a.eval x)) (by rw [Array.toList_map]; exact parts_rel F ps.toList) w
    exact ⟨v, r, wrapV h1, h2, h3⟩
  | load t x =>
    obtain ⟨v, r, h1, h2, h3⟩ := loadD_sound hS H h (ev_rel F x)
    exact ⟨v, r, wrapV h1, h2, h3⟩
  | nilCheck x =>
    simp only [stillU, nilD] at h
    have hx := ev_rel F x
    split at h
    · rename_i id off he
      rw [he] at hx
      obtain ⟨b, p, m, hax, hl⟩ := inv_addr hx
      exact ⟨_, a.eval x, by simp only [execOp, hax, Sem.run_pure], hx, h⟩
    · rename_i cs off he
      rw [he] at hx
      obtain ⟨b, p, hax⟩ := inv_elemP hx
      exact ⟨_, a.eval x, by simp only [execOp, hax, Sem.run_pure], hx, h⟩
    · exact h.elim
  | binOp op t x y ty =>
    obtain ⟨v, r, h1, h2, h3⟩ := binD_sound H h (ev_rel F x) (ev_rel F y) x y
    exact ⟨v, r, wrapV h1, h2, h3⟩
  | unOp op t x =>
    obtain ⟨v, r, h1, h2, h3⟩ := unD_sound (P := P) (w := w) h (ev_rel F x)
    exact ⟨v, r, wrapV h1, h2, h3⟩
  | convert s d x =>
    obtain ⟨v, r, h1, h2, h3⟩ := convD_sound H h (ev_rel F x)
    exact ⟨v, r, wrapV h1, h2, h3⟩
  | slice t x lo hi mx =>
    cases mx with
    | some m =>
      cases lo with
      | some l => simp [isStill] at hs
      | none => cases hi with
        | none => simp [isStill] at hs
        | some hh =>
          simp only [stillU] at h
          obtain ⟨v, r, h1, h2, h3⟩ := cutD_sound (P := P) (w := w) h (ev_rel F x) (ev_rel F hh) (ev_rel F m)
          exact ⟨v, r, wrapV h1, h2, h3⟩
    | none =>
      obtain ⟨v, r, h1, h2, h3⟩ := sliceD_sound H h (ev_rel F x) (evo_rel F lo) (evo_rel F hi)
      exact ⟨v, r, wrapV h1, h2, h3⟩
  | fieldAddr s x f =>
    obtain ⟨v, r, h1, h2, h3⟩ := fieldAddrD_sound (P := P) (w := w) h (ev_rel F x)
    exact ⟨v, r, wrapV h1, h2, h3⟩
  | field s x f =>
    obtain ⟨v, r, h1, h2, h3⟩ := fieldD_sound (P := P) (w := w) h (ev_rel F x)
    exact ⟨v, r, wrapV h1, h2, h3⟩
  | indexAddr t x i =>
    obtain ⟨v, r, h1, h2, h3⟩ := indexAddrD_sound (P := P) (w := w) h (ev_rel F x) (ev_rel F i)
    exact ⟨v, r, wrapV h1, h2, h3⟩
  | index t x i =>
    obtain ⟨v, r, h1, h2, h3⟩ := indexD_sound (P := P) (w := w) h (ev_rel F x) (ev_rel F i)
    exact ⟨v, r, wrapV h1, h2, h3⟩
  | extract x i =>
    simp only [stillU, extractD] at h
    have hx := ev_rel F x
    split at h
    · rename_i vs he
      rw [he] at hx
      split at h
      · rename_i v hv
        obtain ⟨us, hax, hr⟩ := inv_tuple hx
        obtain ⟨r, h1, h2⟩ := hr.get? i hv
        exact ⟨v, r, by simp [execOp, hax, Instr.extract, h1], h2, h⟩
      · exact h.elim
    · exact h.elim
  | makeFunc fn first captured =>
    cases fn with
    | func f =>
      refine ⟨_, .func (.func f) (first.map a.eval) (captured.map a.eval), by simp only [execOp, Instr.makeFunc, Sem.run_bind, Sem.run_pure, Result.andThen_ok], ?_, h⟩
      have h1 := evs_rel F first.toList
      have h2 := evs_rel F captured.toList
      have := RelV.clo (ρ := ρ) f _ _ _ _ h1.1 h1.2 h2.1 h2.2
      have e1 : (first.toList.map a.eval).toArray = first.map a.eval := by rw [← Array.toList_map]
      have e2 : (captured.toList.map a.eval).toArray = captured.map a.eval := by rw [← Array.toList_map]
      rwa [e1, e2] at this
    | _ => simp [isStill] at hs
  | typeAssert x tx t' ok =>
    cases ok with
    | false => simp [isStill] at hs
    | true =>
      simp only [stillU, assertD] at h
      obtain ⟨ht, h⟩ := h
      have hx := ev_rel F x
      have hrun : ∀ u, (Instr.typeAssert (.iface t' u) tx t' true).run P w = .ok (.tuple #[u, .bool true]) w := by
        intro u
        cases hu : P.underlying t' with
        | none => simp [hu] at ht
        | some d =>
          simp only [Instr.typeAssert, Sem.run_bind, run_underlying hu, Result.andThen_ok]
          cases d <;> first | (simp [hu] at ht; done) | simp
      split at h
      · rename_i t b cs he
        obtain ⟨rfl, h⟩ := h
        rw [he] at hx
        have key : (∃ p u, b = false ∧ cs = [p] ∧ a.eval x = .iface t u ∧ RelV ρ (.pv p) u) ∨ ∃ us : List Value, b = true ∧ a.eval x = .iface t (.agg us.toArray) ∧ RelL ρ (cs.map .pv) us := by
          generalize a.eval x = ux at hx
          cases hx with
          | pv hx => cases hx with
            | ifaceOne _ c v hc => exact .inl ⟨c, v, rfl, rfl, rfl, .pv hc⟩
            | ifaceAgg _ cells vs hl hr => exact .inr ⟨vs, rfl, rfl, RelPL.toL ⟨hl, hr⟩⟩
        rcases key with ⟨p, u, rfl, rfl, hu, hp⟩ | ⟨us, rfl, hu, hp⟩
        · simp only at h
          exact ⟨_, .tuple #[u, .bool true], wrapV (by rw [hu]; exact hrun u), RelV.of_tuple (vs := [u, .bool true]) (.cons hp (.cons (mkBool ρ true) (.nil ρ))), h⟩
        · simp only at h
          exact ⟨_, .tuple #[.agg us.toArray, .bool true], wrapV (by rw [hu]; exact hrun _), RelV.of_tuple (vs := [.agg us.toArray, .bool true]) (.cons (RelV.of_agg hp) (.cons (mkBool ρ true) (.nil ρ))), h⟩
      · exact h.elim
  | makeInterface t x =>
    simp only [stillU, ifaceD] at h
    obtain ⟨ht, h⟩ := h
    have hx := ev_rel F x
    have hrun : ∀ u, (Instr.makeInterface t u).run P w = .ok (.iface t u) w := by
      intro u
      cases hu : P.underlying t with
      | none => simp [hu] at ht
      | some d =>
        simp only [Instr.makeInterface, Sem.run_bind, run_underlying hu, Result.andThen_ok]
        cases d <;> first | (simp [hu] at ht; done) | rfl
    split at h
    · rename_i cs he
      rw [he] at hx
      split at h
      · rename_i ps hp
        obtain ⟨us, hax, hr⟩ := inv_agg hx
        refine ⟨_, .iface t (a.eval x), wrapV (hrun _), ?_, h⟩
        rw [hax]
        have := toPVs_rel hr hp
        exact .pv (.ifaceAgg t ps us this.1 this.2)
      · exact h.elim
    · split at h
      · rename_i p hp
        exact ⟨_, .iface t (a.eval x), wrapV (hrun _), .pv (.ifaceOne t p _ (toPV_rel hx hp)), h⟩
      · exact h.elim
  | call c =>
    obtain ⟨callee, args, argTypes⟩ := c
    cases callee with
    | value f => simp [isStill] at hs
    | invoke r m => simp [isStill] at hs
    | builtin b =>
      have hargs := evs_rel F args.toList
      cases b <;> first | (simp [isStill] at hs; done) | skip
      case len =>
        simp only [stillU] at h
        split at h
        · rename_i x xs t ts hx ht
          have hx0 : args[0]? = some x := by rw [← Array.getElem?_toList, hx]; rfl
          have ht0 : argTypes[0]? = some t := by rw [← Array.getElem?_toList, ht]; rfl
          obtain ⟨v, r, h1, h2, h3⟩ := lenD_sound (P := P) (w := w) h (ev_rel F x) argTypes (args.map a.eval) ht0 (by simp [hx0]) type
          exact ⟨v, r, by simp only [execOp, resolve, invoke, builtin, Sem.run_bind, Sem.run_pure, Result.andThen_ok, h1], h2, h3⟩
        · exact h.elim
      case max =>
        simp only [stillU] at h
        split at h
        · rename_i x xs hx
          obtain ⟨v, r, h1, h2, h3⟩ := foldD_sound (P := P) (w := w) (ρ := ρ) max2D Builtin.max2 max2_sound _ _ K _ _ h (ev_rel F x) (evs_rel F xs)
          refine ⟨v, r, ?_, h2, h3⟩
          have hm : (args.map a.eval).toList = a.eval x :: xs.map a.eval := by rw [Array.toList_map, hx]; rfl
          simp only [execOp, resolve, invoke, builtin, Sem.run_bind, Sem.run_pure, Result.andThen_ok, Builtin.max_, hm, h1]
        · exact h.elim
      case min =>
        simp only [stillU] at h
        split at h
        · rename_i x xs hx
          obtain ⟨v, r, h1, h2, h3⟩ := foldD_sound (P := P) (w := w) (ρ := ρ) min2D Builtin.min2 min2_sound _ _ K _ _ h (ev_rel F x) (evs_rel F xs)
          refine ⟨v, r, ?_, h2, h3⟩
          have hm : (args.map a.eval).toList = a.eval x :: xs.map a.eval := by rw [Array.toList_map, hx]; rfl
          simp only [execOp, resolve, invoke, builtin, Sem.run_bind, Sem.run_pure, Result.andThen_ok, Builtin.min_, hm, h1]
        · exact h.elim
  | _ => simp [isStill] at hs
end
end Go.AD
