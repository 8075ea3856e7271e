/- strings.Builder in the calculus: what its methods do. -/
import Derived.Test.YtcaidbmopehjhaaB2
import Derived.Test.YtcaidbmopehjhaaO1
set_option linter.unusedVariables false
namespace Go.AD
open Go.Proofs

/-- A builder that holds these bytes, beside a store that it leaves alone. -/
structure BS (σ0 : AS) (id : Nat) (l : List UInt8) (σ : AS) : Prop where
  sub : σ0.sub σ
  new : σ0 id = none
  here : ∃ p buf, σ id = some (.cells [p, buf] (some 49)) ∧ (p = .pv .nilPtr ∨ p = .addr id 0) ∧
    ((buf = .nilS ∧ l = []) ∨ ∃ g, buf = .grow g l.length (pvBytes l) ∧ l ≠ [] ∧ σ g = some (.front l.length 1 (some 5)) ∧ σ0 g = none ∧ g ≠ id)



/-- Bytes go behind a builder's bytes. -/
theorem BS.add {σ0 σ : AS} {id : Nat} {l : List UInt8} (h : BS σ0 id l σ) (r : List UInt8) (hlen : l.length + r.length ≤ 140737488355328) {Q : AS → Prop} (hQ : ∀ σ', BS σ0 id (l ++ r) σ' → Q σ') :
    loadD PA (σ) 45 (.addr id 1) fun t => appendCore PA false σ 5 r.length (pvBytes r) t fun t14 σ3 => storeD PA σ3 45 (.addr id 1) t14 Q := by
  obtain ⟨p, buf, h1, h2, h3⟩ := h.here
  rw [load_addr T.hT45 T.ag45 h1]
  refine ⟨buf, rfl, ?_⟩
  have fin : ∀ (buf' : AV) (τ : AS), τ id = some (.cells [p, buf] (some 49)) → σ0.sub τ → buf'.cells = [buf'] → buf'.cellOk = true → ((buf' = .nilS ∧ l ++ r = []) ∨ ∃ g, buf' = .grow g (l ++ r).length (pvBytes (l ++ r)) ∧ l ++ r ≠ [] ∧ τ g = some (.front (l ++ r).length 1 (some 5)) ∧ σ0 g = none ∧ g ≠ id) →
      storeD PA τ 45 (.addr id 1) buf' Q := by
    intro buf' τ e1 e2 e3 e4 e5
    refine store_one T.hT45 T.sz45 e3 e4 e1 (by simp) ?_
    refine hQ _ ⟨?_, h.new, p, buf', set_same _ _ _, h2, ?_⟩
    · intro j o hj
      have : j ≠ id := by intro e; rw [e, h.new] at hj; cases hj
      rw [set_ne _ _ this]
      exact e2 j o hj
    · rcases e5 with e5 | ⟨g, q1, q2, q3, q4, q5⟩
      · exact .inl e5
      · exact .inr ⟨g, q1, q2, by rw [set_ne _ _ q5]; exact q3, q4, q5⟩
  unfold appendCore
  rcases h3 with ⟨rfl, rfl⟩ | ⟨g, rfl, hl, hg, hg0, hgi⟩
  · simp only
    split
    · rename_i hr
      have hr : r = [] := List.eq_nil_of_length_eq_zero hr
      subst hr
      exact fin .nilS σ h1 h.sub rfl rfl (.inl ⟨rfl, rfl⟩)
    · rename_i hr
      have hr0 : r ≠ [] := fun e => hr (by rw [e]; rfl)
      rw [T.by5, T.sz5]
      simp only [List.length_nil, Nat.zero_add] at hlen
      refine ⟨by omega, by omega, ?_⟩
      simp only [newRowD, Bool.false_eq_true, if_false, toPVs_pv]
      intro g hg
      have hgi : g ≠ id := by intro e; rw [e, h1] at hg; cases hg
      have hg0 : σ0 g = none := by
        cases e : σ0 g with
        | none => rfl
        | some o => rw [h.sub _ _ e] at hg; cases hg
      exact fin _ _ (by rw [set_ne _ _ (Ne.symm hgi)]; exact h1) (fun j o hj => by
        have : j ≠ g := by intro e; rw [e, hg0] at hj; cases hj
        rw [set_ne _ _ this]; exact h.sub j o hj) rfl rfl (.inr ⟨g, rfl, hr0, set_same _ _ _, hg0, hgi⟩)
  · simp only
    split
    · rename_i hr
      have hr : r = [] := List.eq_nil_of_length_eq_zero hr
      subst hr
      refine fin _ σ h1 h.sub rfl rfl (.inr ⟨g, by rw [List.append_nil], by rwa [List.append_nil], by rwa [List.append_nil], hg0, hgi⟩)
    · rename_i hr
      rw [hg, T.by5, T.sz5]
      simp only
      refine ⟨trivial, trivial, by rw [pvBytes_len]; omega, by omega, by omega, ?_⟩
      rw [if_pos trivial]
      refine fin _ _ (by rw [set_ne _ _ (Ne.symm hgi)]; exact h1) (fun j o hj => by
        have : j ≠ g := by intro e; rw [e, hg0] at hj; cases hj
        rw [set_ne _ _ this]; exact h.sub j o hj) rfl rfl (.inr ⟨g, ?_, by simp [hl], ?_, hg0, hgi⟩)
      · rw [pvBytes_app, List.length_append]
      · rw [set_same, List.length_append]
theorem BS.used {σ0 σ : AS} {id : Nat} {l : List UInt8} (h : BS σ0 id l σ) : ∃ p buf, σ id = some (.cells [p, buf] (some 49)) ∧ (p = .pv .nilPtr ∨ p = .addr id 0) ∧ BS σ0 id l (σ.set id (.cells [.addr id 0, buf] (some 49))) := by
  obtain ⟨p, buf, h1, h2, h3⟩ := h.here
  refine ⟨p, buf, h1, h2, ?_, h.new, .addr id 0, buf, set_same _ _ _, .inr rfl, ?_⟩
  · intro j o hj
    have : j ≠ id := by intro e; rw [e, h.new] at hj; cases hj
    rw [set_ne _ _ this]
    exact h.sub j o hj
  · rcases h3 with h3 | ⟨g, q1, q2, q3, q4, q5⟩
    · exact .inl h3
    · exact .inr ⟨g, q1, q2, by rw [set_ne _ _ q5]; exact q3, q4, q5⟩
/-- What a writing method does: these bytes behind the others. -/
def addT (σ : AS) (id : Nat) (r : List UInt8) (Q : AS → Prop) : Prop := ∃ σ0 l, BS σ0 id l σ ∧ l.length + r.length ≤ 140737488355328 ∧ ∀ σ', BS σ0 id (l ++ r) σ' → Q σ'
def T36 : Tr := fun args σ K _ => ∃ (id : Nat) (c : UInt8), args = [.addr id 0, .pv (.int .u8 c.toNat)] ∧ addT σ id [c] (K (.pv .nilIface))
def T37 : Tr := fun args σ K _ => ∃ (id : Nat) (r : List UInt8), args = [.addr id 0, .pv (.str r)] ∧ addT σ id r (K (.tuple [.pv (.int .i64 r.length), .pv .nilIface]))
def T53 : Tr := fun args σ K _ => ∃ (id : Nat) (r : List UInt8), args = [.addr id 0, .pv (.lst r.length (pvBytes r))] ∧ addT σ id r (K (.tuple [.pv (.int .i64 r.length), .pv .nilIface]))
def envO1 : Env := (env0.add 54 T54).add 40 T40
theorem envO1_54 : envO1 54 = T54 := rfl
theorem envO1_ok : EnvOk PA envO1 := ((env0_ok _).add F54).add F40
theorem call54 {env : Env} (he : env 54 = T54) {σ0 σ : AS} {id : Nat} {l : List UInt8} (h : BS σ0 id l σ) {K : AV → AS → Prop} {X : PV → AS → Prop} (hK : ∀ σ', BS σ0 id l σ' → K (.tuple []) σ') : env 54 [.addr id 0] σ K X := by
  obtain ⟨p, buf, h1, h2, h3⟩ := h.used
  rw [he]
  exact ⟨id, p, buf, rfl, h1, h2, hK _ h3⟩
theorem T36_ok (args : List AV) (σ : AS) (K : AV → AS → Prop) (X : PV → AS → Prop) (h : T36 args σ K X) : bodyD PA envO1 an36 Try.f36 args σ K X := by
  obtain ⟨id, c, rfl, σ0, l, hb, hl, hK⟩ := h
  rw [← S36_eq envO1]
  unfold S36
  refine call54 envO1_54 hb ?_
  intro σ1 hb
  simp only [go_sem]
  have e : ∀ K, buildSliceD PA false σ1 45 1 1 [(0, .pv (.int .u8 c.toNat))] K = K (.full 1 [.int .u8 c.toNat]) σ1 := by
    intro K
    simp [buildSliceD, go_sem, elemsFill, AV.cells, AV.cellOk, toPVs, toPV]
  simp only [e]
  have := hb.add [c] hl (Q := fun σ4 => retV (.pv .nilIface) σ4 K) (fun σ' h => retV_self (hK σ' h))
  simpa [appendD, T.el45, T.sz5, T.by5, T.zo5, shown, pvBytes] using this
theorem T37_ok (args : List AV) (σ : AS) (K : AV → AS → Prop) (X : PV → AS → Prop) (h : T37 args σ K X) : bodyD PA envO1 an37 Try.f37 args σ K X := by
  obtain ⟨id, r, rfl, σ0, l, hb, hl, hK⟩ := h
  rw [← S37_eq envO1]
  unfold S37
  refine call54 envO1_54 hb ?_
  intro σ1 hb
  simp only [go_sem, len_str Try.underlying9]
  have := hb.add r hl (Q := fun σ4 => retV (.tuple [.pv (.int .i64 r.length), .pv .nilIface]) σ4 K) (fun σ' h => retV_self (hK σ' h))
  simpa [appendStrD, T.el45, T.sz5, T.by5, T.zo5, Try.underlying9] using this
theorem T53_ok (args : List AV) (σ : AS) (K : AV → AS → Prop) (X : PV → AS → Prop) (h : T53 args σ K X) : bodyD PA envO1 an53 Try.f53 args σ K X := by
  obtain ⟨id, r, rfl, σ0, l, hb, hl, hK⟩ := h
  rw [← S53_eq envO1]
  unfold S53
  refine call54 envO1_54 hb ?_
  intro σ1 hb
  simp only [go_sem]
  have := hb.add r hl (Q := fun σ4 => retV (.tuple [.pv (.int .i64 r.length), .pv .nilIface]) σ4 K) (fun σ' h => retV_self (hK σ' h))
  simpa [appendD, T.el45, T.sz5, T.by5, T.zo5, shown, pvBytes_len] using this
end Go.AD
