/- Operations that leave the store alone, continued: all of them in one statement. -/
import Derived.Test.YtjgjmpophpifgaaDoorAd3
set_option linter.unusedVariables false
set_option linter.unusedSimpArgs false
namespace Go.AD

section
variable {P : Program} {w0 w : World} {ρ : Gh} {σ : AS}

theorem binD_sound (H : RelH w0 ρ σ w) {op : BinOp} {t : TypeId} {x y : AV} {K : AV → Prop} (h : binD P op t x y K) {u v : Value} (hu : RelV ρ x u) (hv : RelV ρ y v) (ox oy : Operand) :
    ∃ a r, (do eqGuard op t ox oy u v; binOp op t u v : Sem Value).run P w = .ok r w ∧ RelV ρ a r ∧ K a := by
  unfold binD at h
  split at h
  · rename_i k a k' b
    rw [relInt (x := .undef) hu, relInt (x := .undef) hv]
    have hg : (eqGuard op t ox oy (.int k a) (.int k' b)).run P w = .ok () w := by cases op <;> rfl
    simp only [Sem.run_bind, hg, Result.andThen_ok]
    split at h
    · obtain ⟨c, r, h1, h2, h3⟩ := shiftOp_sound (P := P) (w := w) ρ (k' := k') h
      exact ⟨c, r, h1, h2, h3⟩
    · obtain ⟨c, r, h1, h2, h3⟩ := shiftOp_sound (P := P) (w := w) ρ (k' := k') h
      exact ⟨c, r, h1, h2, h3⟩
    · rename_i n1 n2
      obtain ⟨rfl, h⟩ := h
      obtain ⟨c, r, h1, h2, h3⟩ := intOp_sound (P := P) (w := w) ρ h ⟨fun e => n1 e, fun e => n2 e⟩
      refine ⟨c, r, ?_, h2, h3⟩
      rw [← h1]
      cases op <;> rfl
  · rename_i a b
    rw [relStr hu, relStr hv]
    have hg : (eqGuard op t ox oy (.string ⟨a.toArray⟩) (.string ⟨b.toArray⟩)).run P w = .ok () w := by cases op <;> rfl
    obtain ⟨c, r, h1, h2, h3⟩ := strOp_sound (P := P) (w := w) ρ h
    refine ⟨c, r, ?_, h2, h3⟩
    simp only [Sem.run_bind, hg, Result.andThen_ok]
    rw [← h1]
    cases op <;> rfl
  · split at h
    · obtain ⟨r, h1, h2⟩ := eqD_sound H h hu hv .eql (.inl rfl) ox oy
      exact ⟨_, _, h1, mkBool ρ _, h2⟩
    · obtain ⟨r, h1, h2⟩ := eqD_sound H h hu hv .neq (.inr rfl) ox oy
      exact ⟨_, _, h1, mkBool ρ _, h2⟩
    · exact h.elim

theorem unD_sound {op : UnOp} {x : AV} {K : AV → Prop} (h : unD op x K) {u : Value} (hu : RelV ρ x u) : ∃ a r, (Op.unary op u).run P w = .ok r w ∧ RelV ρ a r ∧ K a := by
  unfold unD at h
  split at h
  · rename_i k n
    rw [relInt (x := .undef) hu]
    exact ⟨_, .int k (k.wrap (0 - n)), by simp only [Op.unary, Op.intArith, Sem.run_pure], mkInt .., h⟩
  · rw [relBool hu]
    exact ⟨_, _, by simp [Op.unary], mkBool .., h⟩
  · exact h.elim

theorem movePtr_rel {x : AV} {n : Nat} {K : AV → Prop} (h : movePtr x n K) {u : Value} (hu : RelV ρ x u) :
    ∃ b o v, u = .pointer (some ⟨b, o, none⟩) ∧ RelV ρ v (.pointer (some ⟨b, o + n, none⟩)) ∧ K v := by
  unfold movePtr at h
  split at h
  · rename_i id off
    cases hu with
    | addr _ _ b o m hl => exact ⟨b, o + off, _, rfl, by rw [Nat.add_assoc]; exact .addr id (off + n) b o m hl, h⟩
  · rename_i cells off
    cases hu with
    | elemP _ _ b o vs hl hi hr => exact ⟨b, o + off, _, rfl, by rw [Nat.add_assoc]; exact .elemP cells (off + n) b o vs hl hi hr, h⟩
  · exact h.elim
theorem fieldOff_some {s : TypeId} {f o : Nat} {t : TypeId} (h : fieldOff P s f = some (o, t)) : ∃ fs fd, P.underlying s = some (.struct fs) ∧ fs[f]? = some fd ∧ fd.offset = o ∧ fd.type = t := by
  unfold fieldOff at h
  split at h
  · rename_i fs hfs
    cases hf : fs[f]? with
    | none => simp [hf] at h
    | some fd =>
      simp only [hf, Option.map_some, Option.some.injEq, Prod.mk.injEq] at h
      exact ⟨fs, fd, hfs, hf, h.1, h.2⟩
  · cases h
theorem fieldAddrD_sound {s : TypeId} {x : AV} {f : Nat} {K : AV → Prop} (h : fieldAddrD P s x f K) {u : Value} (hu : RelV ρ x u) : ∃ a r, (Instr.fieldAt s u f).run P w = .ok r w ∧ RelV ρ a r ∧ K a := by
  unfold fieldAddrD at h
  split at h
  · rename_i o t hfo
    obtain ⟨ht, hs, hm⟩ := h
    obtain ⟨fs, fd, h1, h2, h3, h4⟩ := fieldOff_some hfo
    obtain ⟨b, p, v, rfl, hv, hK⟩ := movePtr_rel hm hu
    refine ⟨v, _, ?_, hv, hK⟩
    simp [Instr.fieldAt, run_underlying h1, h2, Instr.sureAddr, fieldPlace, h4, run_size (hasT_inf ht), hs, h3, Addr.add_lit]
  · exact h.elim
theorem partD_sound {t : TypeId} {cs : List AV} {off : Nat} {K : AV → Prop} (h : partD P t cs off K) {vs : List Value} (hr : RelL ρ cs vs) : ∃ a r, (part t vs.toArray off).run P w = .ok r w ∧ RelV ρ a r ∧ K a := by
  obtain ⟨ht, h⟩ := h
  split at h
  · rename_i ha
    obtain ⟨hle, hK⟩ := h
    refine ⟨_, _, ?_, RelV.of_agg ((hr.drop off).take (szOf P t)), hK⟩
    simp only [part, Sem.run_bind, run_agg ht, ha, Result.andThen_ok, if_true, run_size (hasT_inf ht), Sem.run_pure]
    congr 2
    simp
  · rename_i ha
    split at h
    · rename_i v hv
      obtain ⟨r, h1, h2⟩ := hr.get? _ hv
      refine ⟨v, r, ?_, h2, h⟩
      simp [part, run_agg ht, ha, h1]
    · exact h.elim
theorem fieldD_sound {s : TypeId} {x : AV} {f : Nat} {K : AV → Prop} (h : fieldD P s x f K) {u : Value} (hu : RelV ρ x u) : ∃ a r, (Instr.field s u f).run P w = .ok r w ∧ RelV ρ a r ∧ K a := by
  unfold fieldD at h
  split at h
  · rename_i o t cs hfo
    obtain ⟨fs, fd, h1, h2, h3, h4⟩ := fieldOff_some hfo
    cases hu with
    | agg _ vs hl hr =>
      obtain ⟨a, r, hr1, hr2, hr3⟩ := partD_sound (P := P) (w := w) h ⟨hl, hr⟩
      refine ⟨a, r, ?_, hr2, hr3⟩
      simp [Instr.field, run_underlying h1, h2, asAgg, h3, h4, hr1]
  · exact h.elim

theorem lt_of_ints {i : Int} {n : Nat} (h0 : 0 ≤ i) (h1 : i < (n : Int)) : i.toNat < n := by omega
/-- An element's address in an immutable row. -/
theorem indexImm {e : TypeId} {t : TypeId} (ht : P.underlying t = some (.slice e)) (hs : (inf P e).isSome = true) {A : Option Addr} {b o n cap : Nat} {cs : List PV} {vs : List Value} (hl : vs.length = cs.length)
    (hi : ImmAt ρ.imm b o vs) (hr : ∀ i (h : i < cs.length), RelP ρ.imm cs[i] (vs.getD i undef)) (hA : cs = [] ∨ A = some ⟨b, o, none⟩) (hn : n * szOf P e ≤ cs.length) (hsz : 0 < szOf P e)
    {k : IntKind} {i : Int} (h0 : 0 ≤ i) (h1 : i < (n : Int)) :
    ∃ r, (Instr.indexAt t (.slice A n cap) (.int k i)).run P w = .ok r w ∧ RelV ρ (.elemP cs (i.toNat * szOf P e)) r := by
  have hc : A = some ⟨b, o, none⟩ := by
    rcases hA with rfl | h
    · have := lt_of_ints h0 h1
      have : 0 < n * szOf P e := Nat.mul_pos (by omega) hsz
      simp at hn
      omega
    · exact h
  subst hc
  refine ⟨.pointer (some ⟨b, o + i.toNat * szOf P e, none⟩), ?_, .elemP cs _ b o vs hl hi hr⟩
  simp [Instr.indexAt, asIntOf, run_underlying ht, h0, h1, run_size hs, Addr.add_lit]
theorem indexAddrD_sound {t : TypeId} {x i : AV} {K : AV → Prop} (h : indexAddrD P t x i K) {u v : Value} (hu : RelV ρ x u) (hv : RelV ρ i v) : ∃ a r, (Instr.indexAt t u v).run P w = .ok r w ∧ RelV ρ a r ∧ K a := by
  unfold indexAddrD at h
  split at h
  · rename_i k i
    rw [relInt (x := .undef) hv]
    split at h
    · rename_i e id off n sz ht
      obtain ⟨hs, h0, h1, hK⟩ := h
      cases hu with
      | msl _ _ _ _ b o m cap hl hn hc hm =>
        refine ⟨_, .pointer (some ⟨b, o + off + i.toNat * szOf P e, none⟩), ?_, by rw [Nat.add_assoc]; exact .addr id _ b o m hl, hK⟩
        simp [Instr.indexAt, asIntOf, run_underlying ht, h0, h1, run_size hs, Addr.add_lit]
    · rename_i e n cs ht
      obtain ⟨hs, hn, hsz, h0, h1, hK⟩ := h
      cases hu with
      | pv hu => cases hu with
        | lst _ _ A cap b o vs hnc hA hl hi hr =>
          obtain ⟨r, h2, h3⟩ := indexImm (P := P) (w := w) (cap := cap) (k := k) ht hs hl hi hr hA hn hsz h0 h1
          exact ⟨_, r, h2, h3, hK⟩
    · rename_i e id n cs ht
      obtain ⟨hs, hn, hsz, h0, h1, hK⟩ := h
      cases hu with
      | grow _ _ _ b o cap vs hlin hnc hl hi hr =>
        obtain ⟨r, h2, h3⟩ := indexImm (P := P) (w := w) (cap := cap) (k := k) ht hs hl hi hr (.inr rfl) hn hsz h0 h1
        exact ⟨_, r, h2, h3, hK⟩
    · rename_i e n cs ht
      obtain ⟨hs, hn, hsz, h0, h1, hK⟩ := h
      cases hu with
      | full _ _ b o vs hl hi hr =>
        obtain ⟨r, h2, h3⟩ := indexImm (P := P) (w := w) (cap := n) (k := k) ht hs hl hi hr (.inr rfl) hn hsz h0 h1
        exact ⟨_, r, h2, h3, hK⟩
    · rename_i n e id off ht
      obtain ⟨hs, h0, h1, hK⟩ := h
      cases hu with
      | addr _ _ b o m hl =>
        refine ⟨_, .pointer (some ⟨b, o + off + i.toNat * szOf P e, none⟩), ?_, by rw [Nat.add_assoc]; exact .addr id _ b o m hl, hK⟩
        simp [Instr.indexAt, asIntOf, run_underlying ht, h0, h1, run_size hs, Addr.add_lit, Instr.sureAddr]
    · rename_i n e cs off ht
      obtain ⟨hs, h0, h1, hK⟩ := h
      cases hu with
      | elemP _ _ b o vs hl hi hr =>
        refine ⟨_, .pointer (some ⟨b, o + off + i.toNat * szOf P e, none⟩), ?_, by rw [Nat.add_assoc]; exact .elemP cs _ b o vs hl hi hr, hK⟩
        simp [Instr.indexAt, asIntOf, run_underlying ht, h0, h1, run_size hs, Addr.add_lit, Instr.sureAddr]
    · exact h.elim
  · exact h.elim
theorem indexD_sound {t : TypeId} {x i : AV} {K : AV → Prop} (h : indexD P t x i K) {u v : Value} (hu : RelV ρ x u) (hv : RelV ρ i v) : ∃ a r, (Instr.index t u v).run P w = .ok r w ∧ RelV ρ a r ∧ K a := by
  unfold indexD at h
  split at h
  · rename_i s k i
    obtain ⟨ht, h0, h⟩ := h
    rw [relStr hu, relInt (x := .undef) hv]
    split at h
    · rename_i b hb
      refine ⟨_, _, ?_, mkInt .., h⟩
      have hb' : (⟨s.toArray⟩ : ByteArray)[i.toNat]? = some b := by
        have e : ∀ (a : ByteArray) (j : Nat), a[j]? = a.data[j]? := fun a j => rfl
        rw [e]
        simpa using hb
      simp [Instr.index, asIntOf, run_underlying ht, h0, hb']
    · exact h.elim
  · rename_i cs k i
    rw [relInt (x := .undef) hv]
    split at h
    · rename_i n e ht
      obtain ⟨hs, h0, h1, h⟩ := h
      cases hu with
      | agg _ vs hl hr =>
        obtain ⟨a, r, hr1, hr2, hr3⟩ := partD_sound (P := P) (w := w) h ⟨hl, hr⟩
        refine ⟨a, r, ?_, hr2, hr3⟩
        simp [Instr.index, asIntOf, run_underlying ht, h0, h1, run_size hs, hr1]
    · exact h.elim
  · exact h.elim
end
end Go.AD
