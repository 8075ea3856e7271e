/- Operations that leave the store alone, the rest; all of them in one statement. -/
import Derived.Test.YtjgjmpophpifgaaDoorAd4
import Derived.Laws.BytesString
set_option linter.unusedVariables false
set_option linter.unusedSimpArgs false
namespace Go.AD

section
variable {P : Program} {w0 w : World} {ρ : Gh} {σ : AS}

def RelO (ρ : Gh) : Option AV → Option Value → Prop
  | none, none => True
  | some a, some v => RelV ρ a v
  | _, _ => False
theorem bound_run {k : IntKind} {i : Int} {y : Nat} (code : BoundsCode) (h0 : 0 ≤ i) (h1 : i ≤ (y : Int)) (w : World) : (Instr.sliceBound (.int k i) y code).run P w = .ok i.toNat w := by
  simp [Instr.sliceBound, asIntOf, h0, h1]
theorem cutAt_sound {n cap : Nat} (hn : n ≤ cap) {lo hi : Option AV} {K : Nat → Nat → Prop} (h : cutAt n lo hi K) {lo' hi' : Option Value} (hlo : RelO ρ lo lo') (hhi : RelO ρ hi hi') (b : Bool) :
    ∃ l r, (Instr.sliceBounds b n cap lo' hi' none).run P w = .ok (l, r, cap) w ∧ l ≤ r ∧ r ≤ n ∧ K l r := by
  unfold cutAt at h
  split at h
  · cases hi' with
    | some v => exact hhi.elim
    | none =>
      split at h
      · cases lo' with
        | some v => exact hlo.elim
        | none => exact ⟨0, n, by simp [Instr.sliceBounds], by omega, Nat.le_refl _, h⟩
      · rename_i k l
        cases lo' with
        | none => exact hlo.elim
        | some v =>
          obtain ⟨h0, h1, hK⟩ := h
          rw [relInt (x := .undef) hlo]
          exact ⟨l.toNat, n, by simp [Instr.sliceBounds, bound_run _ h0 h1], by omega, Nat.le_refl _, hK⟩
      · exact h.elim
  · rename_i k r
    cases hi' with
    | none => exact hhi.elim
    | some v =>
      rw [relInt (x := .undef) hhi]
      split at h
      · cases lo' with
        | some v => exact hlo.elim
        | none =>
          obtain ⟨h0, h1, hK⟩ := h
          have h2 : r ≤ (cap : Int) := by omega
          exact ⟨0, r.toNat, by simp [Instr.sliceBounds, bound_run _ h0 h2], by omega, by omega, hK⟩
      · rename_i k2 l
        cases lo' with
        | none => exact hlo.elim
        | some v =>
          obtain ⟨h0, h1, h2, h3, hK⟩ := h
          rw [relInt (x := .undef) hlo]
          have h4 : r ≤ (cap : Int) := by omega
          have h5 : l ≤ ((r.toNat : Nat) : Int) := by omega
          have b1 := bound_run (P := P) (k := k) (if b = true then .sliceAcap else .sliceAlen) h0 h4 w
          have b2 := bound_run (P := P) (k := k2) .sliceB h2 h5 w
          exact ⟨l.toNat, r.toNat, by simp only [Instr.sliceBounds, Sem.run_bind, Sem.run_pure, Result.andThen_ok, b1, Option.isSome, Bool.false_eq_true, if_false, b2], by omega, by omega, hK⟩
      · exact h.elim
  · exact h.elim

theorem ImmAt.cut {imm : Nat → Nat → Option Value} {b o : Nat} {vs : List Value} (h : ImmAt imm b o vs) (l r : Nat) : ImmAt imm b (o + l) ((vs.take r).drop l) := by
  intro i hi
  simp only [List.length_drop, List.length_take] at hi
  have := h (l + i) (by omega)
  rw [Nat.add_assoc, this]
  congr 1
  simp only [List.getD_eq_getElem?_getD, List.getElem?_drop]
  rw [List.getElem?_take, if_pos (by omega)]
theorem RelPL.cut {ρ : Gh} {cs : List PV} {vs : List Value} (h : RelPL ρ.imm cs vs) (l r : Nat) : RelPL ρ.imm ((cs.take r).drop l) ((vs.take r).drop l) := by
  have := (h.toL.take r).drop l
  rw [← List.map_take, ← List.map_drop] at this
  exact RelPL.of_L this
theorem run_slice_slice {t e : TypeId} (ht : P.underlying t = some (.slice e)) (hs : (inf P e).isSome = true) {A : Option Addr} {n cap l r : Nat} {lo hi : Option Value}
    (hb : (Instr.sliceBounds true n cap lo hi none).run P w = .ok (l, r, cap) w) :
    (Instr.sliceAt t (.slice A n cap) lo hi none).run P w = .ok (.slice (if cap = l then A else A.map (·.add (l * szOf P e))) (r - l) (cap - l)) w := by
  simp [Instr.sliceAt, Instr.slice, run_underlying ht, hb, run_size hs]
theorem cut_lst {ρ : Gh} {e : TypeId} {cs : List PV} {vs : List Value} {A : Option Addr} {b o n cap l r : Nat} (hn : n ≤ cap) (hA : cs = [] ∨ A = some ⟨b, o, none⟩) (hp : RelPL ρ.imm cs vs) (hi : ImmAt ρ.imm b o vs) (h1 : l ≤ r) (h2 : r ≤ n) :
    RelV ρ (.pv (.lst (r - l) ((cs.take (r * szOf P e)).drop (l * szOf P e)))) (.slice (if cap = l then A else A.map (·.add (l * szOf P e))) (r - l) (cap - l)) := by
  have hp' := hp.cut (l * szOf P e) (r * szOf P e)
  refine .pv (.lst _ _ _ _ b (o + l * szOf P e) _ (by omega) ?_ hp'.1 (hi.cut _ _) hp'.2)
  by_cases hc : cap = l
  · left
    have : r = l := by omega
    subst this
    exact List.drop_eq_nil_of_le (by simp; omega)
  · rcases hA with rfl | rfl
    · left; simp
    · right; simp [hc, Addr.add_lit]
theorem str_extract (s : List UInt8) (l h : Nat) : (⟨s.toArray⟩ : ByteArray).extract l h = ⟨((s.take h).drop l).toArray⟩ := by
  apply ByteArray.ext
  simp [ByteArray.data_extract]
  rw [List.drop_take]
theorem sliceD_sound (H : RelH w0 ρ σ w) {t : TypeId} {x : AV} {lo hi : Option AV} {K : AV → Prop} (h : sliceD P t x lo hi K) {u : Value} {lo' hi' : Option Value} (hu : RelV ρ x u) (hlo : RelO ρ lo lo') (hhi : RelO ρ hi hi') :
    ∃ a r, (Instr.sliceAt t u lo' hi' none).run P w = .ok r w ∧ RelV ρ a r ∧ K a := by
  unfold sliceD at h
  split at h
  · rename_i s
    obtain ⟨ht, h⟩ := h
    rw [relStr hu]
    obtain ⟨l, r, h1, h2, h3, hK⟩ := cutAt_sound (P := P) (w := w) (Nat.le_refl s.length) h hlo hhi false
    refine ⟨_, .string ⟨((s.take r).drop l).toArray⟩, ?_, mkStr .., hK⟩
    have hs : (⟨s.toArray⟩ : ByteArray).size = s.length := bytes_size s
    simp only [Instr.sliceAt, Instr.slice, Sem.run_bind, run_underlying ht, Result.andThen_ok, Option.isSome, Bool.false_eq_true, if_false, hs, h1, Sem.run_pure, str_extract]
  · rename_i n cs
    split at h
    · rename_i e he
      obtain ⟨hs, h⟩ := h
      cases hu with | pv hu => cases hu with
      | lst _ _ A cap b o vs hnc hA hl hi hr =>
        obtain ⟨l, r, h1, h2, h3, hK⟩ := cutAt_sound (P := P) (w := w) hnc h hlo hhi true
        exact ⟨_, _, run_slice_slice (elOf_some he) hs h1, cut_lst hnc hA ⟨hl, hr⟩ hi h2 h3, hK⟩
    · exact h.elim
  · rename_i id n cs
    split at h
    · rename_i e he
      obtain ⟨hs, h⟩ := h
      cases hu with
      | grow _ _ _ b o cap vs hlin hnc hl hi hr =>
        obtain ⟨l, r, h1, h2, h3, hK⟩ := cutAt_sound (P := P) (w := w) hnc h hlo hhi true
        exact ⟨_, _, run_slice_slice (elOf_some he) hs h1, cut_lst hnc (.inr rfl) ⟨hl, hr⟩ hi h2 h3, hK⟩
    · exact h.elim
  · rename_i n cs
    split at h
    · rename_i e he
      obtain ⟨hs, h⟩ := h
      cases hu with
      | full _ _ b o vs hl hi hr =>
        obtain ⟨l, r, h1, h2, h3, hK⟩ := cutAt_sound (P := P) (w := w) (Nat.le_refl n) h hlo hhi true
        exact ⟨_, _, run_slice_slice (elOf_some he) hs h1, cut_lst (Nat.le_refl n) (.inr rfl) ⟨hl, hr⟩ hi h2 h3, hK⟩
    · exact h.elim
  · split at h
    · rename_i e he
      obtain ⟨hs, h⟩ := h
      cases hu
      obtain ⟨l, r, h1, h2, h3, hK⟩ := cutAt_sound (P := P) (w := w) (Nat.le_refl 0) h hlo hhi true
      have e1 : r = 0 := by omega
      have e2 : l = 0 := by omega
      subst e1; subst e2
      exact ⟨_, _, run_slice_slice (elOf_some he) hs h1, by simpa using RelV.nilS, hK⟩
    · exact h.elim
  · rename_i id off n sz
    split at h
    · rename_i e he
      obtain ⟨hs, hsz, h⟩ := h
      cases hu with
      | msl _ _ _ _ b o m cap hl hnc hc hm =>
        obtain ⟨l, r, h1, h2, h3, hK⟩ := cutAt_sound (P := P) (w := w) hnc h hlo hhi true
        split at hK
        · rename_i hlr
          subst hlr
          refine ⟨_, _, run_slice_slice (elOf_some he) hs h1, ?_, hK⟩
          rw [Nat.sub_self]
          exact .pv (.lst 0 [] _ _ 0 0 [] (Nat.zero_le _) (.inl rfl) rfl (fun i hi => absurd hi (by simp)) (fun i hi => absurd hi (by simp)))
        · rename_i hlr
          have hcl : cap ≠ l := by omega
          refine ⟨_, _, run_slice_slice (elOf_some he) hs h1, ?_, hK⟩
          rw [if_neg hcl]
          simp only [Option.map_some, Addr.add_lit]
          rw [Nat.add_assoc, ← hsz]
          refine .msl id (off + l * sz) (r - l) sz b o m (cap - l) hl (by omega) (by omega) ?_
          have : l * sz + (cap - l) * sz = cap * sz := by rw [← Nat.add_mul]; congr 1; omega
          omega
    · exact h.elim
  · exact h.elim

theorem cutD_sound {t : TypeId} {x h m : AV} {K : AV → Prop} (hK : cutD P t x h m K) {u h' m' : Value} (hu : RelV ρ x u) (hh : RelV ρ h h') (hm : RelV ρ m m') :
    ∃ a r, (Instr.sliceAt t u none (some h') (some m')).run P w = .ok r w ∧ RelV ρ a r ∧ K a := by
  unfold cutD at hK
  split at hK
  case h_2 => exact hK.elim
  rename_i k1 i k2 j
  obtain ⟨rfl, hK⟩ := hK
  rw [relInt (x := .undef) hh, relInt (x := .undef) hm]
  split at hK
  case h_2 => exact hK.elim
  rename_i e he
  obtain ⟨hs, hK⟩ := hK
  have key : ∀ (A : Option Addr) (n cap : Nat), n ≤ cap → i = (n : Int) → (Instr.sliceAt t (.slice A n cap) none (some (.int k1 i)) (some (.int k2 i))).run P w = .ok (.slice A n n) w := by
    intro A n cap hn hi
    subst hi
    have b1 : (Instr.sliceBound (.int k2 (n : Int)) cap .slice3Acap).run P w = .ok n w := by
      simpa using bound_run (P := P) (k := k2) (y := cap) .slice3Acap (Int.natCast_nonneg n) (by omega) w
    have b2 : (Instr.sliceBound (.int k1 (n : Int)) n .slice3B).run P w = .ok n w := by
      simpa using bound_run (P := P) (k := k1) (y := n) .slice3B (Int.natCast_nonneg n) (by omega) w
    have ha : (if n = 0 then A else Option.map (fun a => a.add (0 * szOf P e)) A) = A := by
      cases A with
      | none => simp
      | some a => obtain ⟨b, o, sp⟩ := a; cases sp <;> simp [Addr.add]
    simp only [Instr.sliceAt, Instr.slice, Sem.run_bind, run_underlying (elOf_some he), Result.andThen_ok, Option.isSome, Instr.sliceBounds, b1, b2, Sem.run_pure, if_true, run_size hs, Int.toNat_natCast, Nat.sub_zero, ha]
  split at hK
  · rename_i n cs
    cases hu with | pv hu => cases hu with
    | lst _ _ A cap b o vs hnc hA hl hi hr => exact ⟨_, _, key A n cap hnc hK.1, .cut n cs A b o vs hA hl hi hr, hK.2⟩
  · rename_i id n cs
    cases hu with
    | grow _ _ _ b o cap vs hlin hnc hl hi hr => exact ⟨_, _, key _ n cap hnc hK.1, .cut n cs _ b o vs (.inr rfl) hl hi hr, hK.2⟩
  · rename_i n cs
    cases hu with
    | full _ _ b o vs hl hi hr => exact ⟨_, _, key _ n n (Nat.le_refl n) hK.1, .cut n cs _ b o vs (.inr rfl) hl hi hr, hK.2⟩
  · cases hu
    exact ⟨_, _, key none 0 0 (Nat.le_refl 0) (by simpa using hK.1), .nilS, hK.2⟩
  · exact hK.elim
theorem lenD_sound {t : TypeId} {x : AV} {K : AV → Prop} (h : lenD P t x K) {u : Value} (hu : RelV ρ x u) (ts : Array TypeId) (us : Array Value) (ht : ts[0]? = some t) (hus : us[0]? = some u) (ty : TypeId) :
    ∃ a r, (Builtin.len_ ts ty us).run P w = .ok r w ∧ RelV ρ a r ∧ K a := by
  unfold lenD at h
  split at h
  · rename_i s hd
    rw [relStr hu] at hus
    exact ⟨_, .int .i64 s.length, by simp [Builtin.len_, ht, hus, run_underlying hd, goInt, bytes_size], mkInt .., h⟩
  · rename_i e n cs hd
    cases hu with | pv hu => cases hu with
    | lst _ _ A cap b o vs hnc hA hl hi hr => exact ⟨_, .int .i64 n, by simp [Builtin.len_, ht, hus, run_underlying hd, goInt], mkInt .., h⟩
  · rename_i e id n cs hd
    cases hu with
    | grow _ _ _ b o cap vs hlin hnc hl hi hr => exact ⟨_, .int .i64 n, by simp [Builtin.len_, ht, hus, run_underlying hd, goInt], mkInt .., h⟩
  · rename_i e n cs hd
    cases hu with
    | full _ _ b o vs hl hi hr => exact ⟨_, .int .i64 n, by simp [Builtin.len_, ht, hus, run_underlying hd, goInt], mkInt .., h⟩
  · rename_i e hd
    cases hu
    exact ⟨_, .int .i64 0, by simp [Builtin.len_, ht, hus, run_underlying hd, goInt], mkInt .., h⟩
  · rename_i e id off n sz hd
    cases hu with
    | msl _ _ _ _ b o m cap hl hnc hc hm => exact ⟨_, .int .i64 n, by simp [Builtin.len_, ht, hus, run_underlying hd, goInt], mkInt .., h⟩
  · rename_i n e hd
    exact ⟨_, .int .i64 n, by simp [Builtin.len_, ht, hus, run_underlying hd, goInt], mkInt .., h⟩
  · exact h.elim
theorem foldD_sound (f : AV → AV → (AV → Prop) → Prop) (g : Value → Value → Sem Value)
    (hf : ∀ x y K u v, f x y K → RelV ρ x u → RelV ρ y v → ∃ a r, (g u v).run P w = .ok r w ∧ RelV ρ a r ∧ K a) :
    ∀ (ys : List AV) (x : AV) (K : AV → Prop) (u : Value) (vs : List Value), foldD f x ys K → RelV ρ x u → RelL ρ ys vs → ∃ a r, (vs.foldlM g u).run P w = .ok r w ∧ RelV ρ a r ∧ K a
  | [], x, K, u, vs, h, hu, hvs => by
    rw [hvs.nil_inv]
    exact ⟨x, u, rfl, hu, h⟩
  | y :: ys, x, K, u, vs, h, hu, hvs => by
    obtain ⟨v, vs', rfl, hv, hr⟩ := hvs.uncons
    obtain ⟨a, r, h1, h2, h3⟩ := hf x y _ u v h hu hv
    obtain ⟨a', r', h4, h5, h6⟩ := foldD_sound f g hf ys a K r vs' h3 h2 hr
    exact ⟨a', r', by simp only [List.foldlM_cons, Sem.run_bind, h1, Result.andThen_ok, h4], h5, h6⟩
theorem max2_sound : ∀ x y (K : AV → Prop) u v, max2D x y K → RelV ρ x u → RelV ρ y v → ∃ a r, (Builtin.max2 u v).run P w = .ok r w ∧ RelV ρ a r ∧ K a := by
  intro x y K u v h hu hv
  unfold max2D at h
  split at h
  · rw [relInt (x := .undef) hu, relInt (x := .undef) hv]
    exact ⟨_, _, by simp only [Builtin.max2, Sem.run_pure], mkInt .., h⟩
  · exact h.elim
theorem min2_sound : ∀ x y (K : AV → Prop) u v, min2D x y K → RelV ρ x u → RelV ρ y v → ∃ a r, (Builtin.min2 u v).run P w = .ok r w ∧ RelV ρ a r ∧ K a := by
  intro x y K u v h hu hv
  unfold min2D at h
  split at h
  · rw [relInt (x := .undef) hu, relInt (x := .undef) hv]
    exact ⟨_, _, by simp only [Builtin.min2, Sem.run_pure], mkInt .., h⟩
  · exact h.elim
end
end Go.AD
