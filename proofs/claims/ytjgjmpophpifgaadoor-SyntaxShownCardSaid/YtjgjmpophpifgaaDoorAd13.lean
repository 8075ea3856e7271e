/- Code: what the calculus says of it is what the model does. -/
import Derived.Test.YtjgjmpophpifgaaDoorAd12
import Derived.Test.YtjgjmpophpifgaaDoorAd7b
import Derived.LoopN
set_option linter.unusedVariables false
set_option linter.unusedSimpArgs false
namespace Go.AD
open RowKit

section
variable {P : Program} {w0 w w' : World} {ρ ρ' : Gh} {σ : AS} {env : Env}

inductive RelE (ρ : Gh) : AEx → Exit → Prop where
  | normal : RelE ρ .normal .normal
  | exit (id) : RelE ρ (.exit id) (.exit id)
  | goto (l) : RelE ρ (.goto l) (.goto l)
  | ret : RelE ρ .ret .ret
  | panic (p u) (h : RelP ρ.imm p u) : RelE ρ (.panic p) (.panic [{ v := u, recovered := false }])
/-- What is asked of the model where the calculus asks Q. -/
def Post (w0 : World) (ρ : Gh) (n : Nat) (ds : List Deferred) (Q : AEx → Fr → AS → Prop) : Exit → Act → World → Prop := fun e a w =>
  ∃ ρ' fr σ e', ρ.le ρ' ∧ RelH w0 ρ' σ w ∧ RelF ρ' n fr a ∧ a.defers = ds ∧ RelE ρ' e' e ∧ Q e' fr σ
theorem Post.mono {n : Nat} {ds : List Deferred} {Q Q' : AEx → Fr → AS → Prop} (hm : ρ.le ρ') (hQ : ∀ e fr σ, Q e fr σ → Q' e fr σ) {e : Exit} {a : Act} {w : World} (h : Post w0 ρ' n ds Q e a w) : Post w0 ρ n ds Q' e a w := by
  obtain ⟨ρ'', fr, σ, e', h1, h2, h3, h4, h5, h6⟩ := h
  exact ⟨ρ'', fr, σ, e', Gh.le_trans hm h1, h2, h3, h4, h5, hQ _ _ _ h6⟩

theorem put_defers (a : Act) (d : Option Nat) (v : Value) : (a.put d v).defers = a.defers := by cases d <;> rfl
/-- What a guard's slot says. -/
theorem yields_rel {n : Nat} {fr : Fr} {a : Act} (F : RelF ρ n fr a) {ops : Array Oper} (hops : ∀ o ∈ ops.toList, ∀ d, o.dst = some d → d < n) {j d : Nat} (hd : (ops[j]?).bind (·.dst) = some d) {b : Bool} (hb : fr.get d = .pv (.bool b)) :
    yielded ops a.tmps j = some b := by
  have hr := F.get d
  rw [hb] at hr
  have hv := relBool hr
  obtain ⟨oj, hoj, hdj⟩ := Option.bind_eq_some_iff.1 hd
  have hdn : d < n := hops oj (by
    obtain ⟨hlt, rfl⟩ := Array.getElem?_eq_some_iff.1 hoj
    simp) d hdj
  have hlt : d < a.tmps.size := by rw [F.size]; exact hdn
  have hget : a.tmps[d]? = some (.bool b) := by
    rw [Array.getElem?_eq_getElem hlt]
    rw [← hv]
    simp [hlt]
  simp only [yielded, hd, Option.bind_some, hget]
/-- What is known of the guard that was decided last. -/
def Known (ops : Array Oper) (k : Nat) (a : Act) : Option ((Nat × Bool) × Bool) → Prop
  | none => True
  | some ((j, want), r) => j < k ∧ (∃ d, (ops[j]?).bind (·.dst) = some d ∧ ∀ (i : Nat) o, i ≠ j → ops[i]? = some o → o.dst ≠ some d) ∧ (yielded ops a.tmps j == some want) = r
theorem Known.put {ops : Array Oper} {k : Nat} {a : Act} {g : Option ((Nat × Bool) × Bool)} (h : Known ops k a g) {o : Oper} (ho : ops[k]? = some o) (v : Value) : Known ops (k + 1) (a.put o.dst v) g := by
  match g, h with
  | none, _ => trivial
  | some ((j, want), r), ⟨h1, ⟨d, h2, h3⟩, h4⟩ =>
    refine ⟨by omega, ⟨d, h2, h3⟩, ?_⟩
    have hne := h3 k o (by omega) ho
    have : yielded ops (a.put o.dst v).tmps j = yielded ops a.tmps j := by
      unfold yielded
      rw [h2]
      simp only [Option.bind_some]
      cases hdst : o.dst with
      | none => rfl
      | some e =>
        have hed : e ≠ d := fun he => hne (by rw [hdst, he])
        simp [Act.put, Array.getElem?_setIfInBounds_ne hed]
    rw [this]
    exact h4
theorem guardsOk_spec {ops : Array Oper} (h : guardsOk ops = true) {o : Oper} {k j : Nat} {want : Bool} (ho : ops[k]? = some o) (hg : o.guard = some (j, want)) :
    ∃ d, (ops[j]?).bind (·.dst) = some d ∧ ∀ (i : Nat) o', i ≠ j → ops[i]? = some o' → o'.dst ≠ some d := by
  obtain ⟨hlt, rfl⟩ := Array.getElem?_eq_some_iff.1 ho
  have := Array.all_eq_true'.1 h ops[k] (by simp)
  rw [hg] at this
  simp only at this
  split at this
  · rename_i d hd
    refine ⟨d, hd, fun i o' hi ho' he => ?_⟩
    rw [List.all_eq_true] at this
    obtain ⟨hlt', rfl⟩ := Array.getElem?_eq_some_iff.1 ho'
    have h2 := this i (by simp [hlt'])
    simp [hi, hlt', he] at h2
  · cases this
theorem guardsBack_spec {ops : Array Oper} (h : guardsBack ops = true) {o : Oper} {k j : Nat} {want : Bool} (ho : ops[k]? = some o) (hg : o.guard = some (j, want)) : j < k := by
  obtain ⟨hlt, rfl⟩ := Array.getElem?_eq_some_iff.1 ho
  unfold guardsBack at h
  rw [List.all_eq_true] at h
  have := h k (by simp [hlt])
  simpa [hlt, hg] using this
/-- The operations that were passed over left nothing. -/
def Skipped (ops : Array Oper) (k : Nat) (a : Act) (sk : List Nat) : Prop := ∀ j ∈ sk, j < k ∧ ∀ d, (ops[j]?).bind (·.dst) = some d → (∀ (i : Nat) o', i ≠ j → ops[i]? = some o' → o'.dst ≠ some d) → a.tmps.getD d undef = undef
theorem Skipped.put {ops : Array Oper} {k : Nat} {a : Act} {sk : List Nat} (h : Skipped ops k a sk) {o : Oper} (ho : ops[k]? = some o) (v : Value) : Skipped ops (k + 1) (a.put o.dst v) sk := by
  intro j hj
  obtain ⟨h1, h2⟩ := h j hj
  refine ⟨by omega, fun d hd hu => ?_⟩
  have h3 := h2 d hd hu
  have hne := hu k o (by omega) ho
  cases hdst : o.dst with
  | none => exact h3
  | some e =>
    have hed : e ≠ d := fun he => hne (by rw [hdst, he])
    have : (a.put (some e) v).tmps.getD d undef = a.tmps.getD d undef := by simp [Act.put, Array.getElem?_setIfInBounds_ne hed]
    rw [this]
    exact h3
theorem Skipped.skip {ops : Array Oper} {k : Nat} {a : Act} {sk : List Nat} (h : Skipped ops k a sk) {o : Oper} (ho : ops[k]? = some o) : Skipped ops (k + 1) (a.put o.dst undef) (k :: sk) := by
  intro j hj
  rcases List.mem_cons.1 hj with rfl | hj
  · refine ⟨by omega, fun d hd _ => ?_⟩
    have : o.dst = some d := by simpa [ho] using hd
    rw [this]
    simp [Act.put]
  · exact h.put ho undef j hj
theorem Skipped.yields {ops : Array Oper} {k : Nat} {a : Act} {sk : List Nat} (h : Skipped ops k a sk) {j d : Nat} (hj : j ∈ sk) (hd : (ops[j]?).bind (·.dst) = some d) (hu : ∀ (i : Nat) o', i ≠ j → ops[i]? = some o' → o'.dst ≠ some d) : yielded ops a.tmps j = none := by
  have h1 := (h j hj).2 d hd hu
  unfold yielded
  rw [hd, Option.bind_some]
  cases e : a.tmps[d]? with
  | none => rfl
  | some v =>
    have : a.tmps.getD d undef = v := by simp [e]
    rw [this] at h1
    subst h1
    rfl
theorem RelF.know {n : Nat} {fr : Fr} {a : Act} (F : RelF ρ n fr a) {d : Nat} {b : Bool} (hb : fr.get d = .pv (.bool b)) : RelF ρ n ((d, .pv (.bool b)) :: fr) a where
  size := F.size
  get := by
    intro t
    rw [Fr.get]
    split
    · rename_i h
      subst h
      have := F.get d
      rwa [hb] at this
    · exact F.get t
/-- One step: is the operation wanted, and what is then known. -/
theorem ops_step {an : An} {n : Nat} {fr : Fr} {a : Act} (F : RelF ρ n fr a) {ops : Array Oper} (hops : ∀ o ∈ ops.toList, ∀ d, o.dst = some d → d < n) (hgo : guardsOk ops = true) (hgb : guardsBack ops = true) {o : Oper} {rest : List Oper} {k : Nat} (ho : ops[k]? = some o)
    {g : Option ((Nat × Bool) × Bool)} {sk : List Nat} (hg : Known ops k a g) (hsk : Skipped ops k a sk) {Q : AEx → Fr → AS → Prop} (h : opsD P env an ops Q (o :: rest) k sk g fr σ) :
    ∃ g' sk' fr', RelF ρ n fr' a ∧ (∀ v, Known ops (k + 1) (a.put o.dst v) g') ∧ (if Region.wanted o (yielded ops a.tmps) = true then (∀ v, Skipped ops (k + 1) (a.put o.dst v) sk') ∧ opD P env an.isMu fr' σ o.dst o.op (fun v σ => opsD P env an ops Q rest (k + 1) sk' g' (fr'.put o.dst v) σ) (fun p σ => Q (.panic p) fr' σ)
      else Skipped ops (k + 1) (a.put o.dst undef) sk' ∧ opsD P env an ops Q rest (k + 1) sk' g' (fr'.put o.dst .undef) σ) := by
  have dec : ∀ (j : Nat) (want : Bool), o.guard = some (j, want) → (match (ops[j]?).bind (·.dst) with
        | some d => guardD (fr.get d) want (opD P env an.isMu ((d, .pv (.bool want)) :: fr) σ o.dst o.op (fun v σ => opsD P env an ops Q rest (k + 1) sk (some ((j, want), true)) (Fr.put ((d, .pv (.bool want)) :: fr) o.dst v) σ) (fun p σ => Q (.panic p) ((d, .pv (.bool want)) :: fr) σ))
            (opsD P env an ops Q rest (k + 1) (k :: sk) (some ((j, want), false)) (Fr.put ((d, .pv (.bool (!want))) :: fr) o.dst .undef) σ)
        | none => False) → ∃ g' sk' fr', RelF ρ n fr' a ∧ (∀ v, Known ops (k + 1) (a.put o.dst v) g') ∧ (if Region.wanted o (yielded ops a.tmps) = true then (∀ v, Skipped ops (k + 1) (a.put o.dst v) sk') ∧ opD P env an.isMu fr' σ o.dst o.op (fun v σ => opsD P env an ops Q rest (k + 1) sk' g' (fr'.put o.dst v) σ) (fun p σ => Q (.panic p) fr' σ)
      else Skipped ops (k + 1) (a.put o.dst undef) sk' ∧ opsD P env an ops Q rest (k + 1) sk' g' (fr'.put o.dst .undef) σ) := by
    intro j want hgd hh
    have hjk := guardsBack_spec hgb ho hgd
    have hspec := guardsOk_spec hgo ho hgd
    split at hh
    · rename_i d hd
      unfold guardD at hh
      split at hh
      · rename_i b hb
        have hy := yields_rel F hops hd hb
        have hw : Region.wanted o (yielded ops a.tmps) = (b == want) := by
          simp only [Region.wanted, hgd, hy]
          cases b <;> cases want <;> rfl
        have kn : ∀ r, (b == want) = r → ∀ v, Known ops (k + 1) (a.put o.dst v) (some ((j, want), r)) := fun r hr v =>
          Known.put (k := k) (g := some ((j, want), r)) ⟨hjk, hspec, by rw [hy, ← hr]; cases b <;> cases want <;> rfl⟩ ho v
        split at hh
        · rename_i hbw
          subst hbw
          refine ⟨_, sk, _, F.know hb, kn true (by simp), ?_⟩
          rw [hw, if_pos (by simp)]
          exact ⟨fun v => hsk.put ho v, hh⟩
        · rename_i hbw
          have hf : (b == want) = false := by simpa using hbw
          have hbn : b = !want := by cases b <;> cases want <;> simp_all
          refine ⟨_, k :: sk, _, F.know (by rw [hb, hbn]), kn false hf, ?_⟩
          rw [hw, hf, if_neg (by simp)]
          exact ⟨hsk.skip ho, hh⟩
      · exact hh.elim
    · exact hh.elim
  unfold opsD at h
  split at h
  · rename_i hgd
    refine ⟨g, sk, fr, F, fun v => hg.put ho v, ?_⟩
    have hw : Region.wanted o (yielded ops a.tmps) = true := by simp [Region.wanted, hgd]
    rw [hw, if_pos rfl]
    exact ⟨fun v => hsk.put ho v, h⟩
  · rename_i gd hgd
    obtain ⟨j, want⟩ := gd
    simp only at h
    split at h
    · rename_i hj
      have hj : j ∈ sk := by simpa using hj
      obtain ⟨d, hd, hu⟩ := guardsOk_spec hgo ho hgd
      have hw : Region.wanted o (yielded ops a.tmps) = false := by
        simp only [Region.wanted, hgd, hsk.yields hj hd hu]
        rfl
      refine ⟨g, k :: sk, fr, F, fun v => hg.put ho v, ?_⟩
      rw [hw, if_neg (by simp)]
      exact ⟨hsk.skip ho, h⟩
    split at h
    · rename_i gd' r
      split at h
      · rename_i he
        subst he
        obtain ⟨h1, h2, h3⟩ := hg
        have hw : Region.wanted o (yielded ops a.tmps) = r := by
          simp only [Region.wanted, hgd]
          exact h3
        have kn := fun v => Known.put (k := k) (g := some ((j, want), r)) ⟨h1, h2, h3⟩ ho v
        cases r
        · refine ⟨_, k :: sk, fr, F, kn, ?_⟩
          rw [hw, if_neg (by simp)]
          exact ⟨hsk.skip ho, by simpa using h⟩
        · refine ⟨_, sk, fr, F, kn, ?_⟩
          rw [hw, if_pos rfl]
          exact ⟨fun v => hsk.put ho v, by simpa using h⟩
      · exact dec j want hgd h
    · exact dec j want hgd h

/-- A region in the order of its text. -/
theorem ops_sound (E : EnvOk P env) (hS : Ready P w0) (an : An) (n : Nat) (ds : List Deferred) (ops : Array Oper) (hops : ∀ o ∈ ops.toList, ∀ d, o.dst = some d → d < n) (hgo : guardsOk ops = true) (hgb : guardsBack ops = true) {Q : AEx → Fr → AS → Prop} :
    ∀ (l : List Oper) (k : Nat), ops.toList.drop k = l → ∀ (ρ : Gh) (fr : Fr) (σ : AS) (a : Act) (w : World) (T : Exit → Act → World → Prop) (g : Option ((Nat × Bool) × Bool)) (sk : List Nat), Known ops k a g → Skipped ops k a sk → RelH w0 ρ σ w → RelF ρ n fr a → a.defers = ds → opsD P env an ops Q l k sk g fr σ →
      (∀ e a w, Post w0 ρ n ds Q e a w → T e a w) → wpList P ops T l a w
  | [], _, _, ρ, fr, σ, a, w, T, g, sk, hg, hsk, H, F, hd, h, hT => hT _ _ _ ⟨ρ, fr, σ, .normal, Gh.le_refl ρ, H, F, hd, .normal, h⟩
  | o :: l, k, hl, ρ, fr0, σ, a, w, T, g, sk, hg, hsk, H, F0, hd, h, hT => by
    have hk : ops[k]? = some o := by
      have := congrArg (fun l : List Oper => l[0]?) hl
      simpa [List.getElem?_drop] using this
    have hl' : ops.toList.drop (k + 1) = l := by
      have := congrArg (List.drop 1) hl
      simpa [List.drop_drop] using this
    have hmem : o ∈ ops.toList := by
      obtain ⟨hlt, rfl⟩ := Array.getElem?_eq_some_iff.1 hk
      simp
    obtain ⟨g', sk', fr, F, hg', hw⟩ := ops_step F0 hops hgo hgb hk hg hsk h
    have hdst : ∀ d, o.dst = some d → d < n := hops o hmem
    unfold wpList
    split
    · rename_i hwt
      rw [if_pos hwt] at hw
      refine .inl (op_sound E hS H F an.isMu o hw.2 ?_ ?_)
      · intro ρ' σ' w' v u h1 h2 h3 h4
        exact ops_sound E hS an n ds ops hops hgo hgb l (k + 1) hl' ρ' _ σ' _ w' T g' sk' (hg' u) (hw.1 u) h2 ((F.mono h1).put hdst h3) (by rw [put_defers]; exact hd) h4 (fun e a w hp => hT e a w (hp.mono h1 (fun _ _ _ h => h)))
      · intro ρ' σ' w' p u h1 h2 h3 h4
        exact hT _ _ _ ⟨ρ', fr, σ', .panic p, h1, h2, F.mono h1, hd, .panic p u h3, h4⟩
    · rename_i hwt
      rw [if_neg hwt] at hw
      exact ops_sound E hS an n ds ops hops hgo hgb l (k + 1) hl' ρ _ σ _ w T g' sk' (hg' undef) hw.1 H (F.put hdst (.undef _)) (by rw [put_defers]; exact hd) hw.2 hT
/-- The head of a region: operations that leave all alone. -/
theorem head_sound (hS : Ready P w0) (an : An) (n : Nat) (ds : List Deferred) (ops : Array Oper) (hops : ∀ o ∈ ops.toList, ∀ d, o.dst = some d → d < n) (hgo : guardsOk ops = true) (hgb : guardsBack ops = true) {Q : AEx → Fr → AS → Prop} (rest : List Oper) (H : RelH w0 ρ σ w) {T : Act → Prop} :
    ∀ (l : List Oper) (k : Nat), ops.toList.drop k = l ++ rest → (∀ o ∈ l, isStill an.isMu P o.dst o.op = true) → ∀ (fr : Fr) (a : Act) (g : Option ((Nat × Bool) × Bool)) (sk : List Nat), Known ops k a g → Skipped ops k a sk → RelF ρ n fr a → a.defers = ds → opsD P env an ops Q (l ++ rest) k sk g fr σ →
      (∀ fr' a' g' sk', Known ops (k + l.length) a' g' → Skipped ops (k + l.length) a' sk' → RelF ρ n fr' a' → a'.defers = ds → opsD P env an ops Q rest (k + l.length) sk' g' fr' σ → T a') → wpStill P ops w T l a
  | [], _, _, _, fr, a, g, sk, hg, hsk, F, hd, h, hT => hT fr a g sk hg hsk F hd h
  | o :: l, k, hl, hs, fr0, a, g, sk, hg, hsk, F0, hd, h, hT => by
    have hk : ops[k]? = some o := by
      have := congrArg (fun l : List Oper => l[0]?) hl
      simpa [List.getElem?_drop] using this
    have hl' : ops.toList.drop (k + 1) = l ++ rest := by
      have := congrArg (List.drop 1) hl
      simpa [List.drop_drop] using this
    have hmem : o ∈ ops.toList := by
      obtain ⟨hlt, rfl⟩ := Array.getElem?_eq_some_iff.1 hk
      simp
    obtain ⟨g', sk', fr, F, hg', hw⟩ := ops_step (rest := l ++ rest) F0 hops hgo hgb hk hg hsk h
    have hdst : ∀ d, o.dst = some d → d < n := hops o hmem
    have hs' : ∀ o ∈ l, isStill an.isMu P o.dst o.op = true := fun o ho => hs o (by simp [ho])
    have hlen : k + (o :: l).length = k + 1 + l.length := by rw [List.length_cons]; omega
    rw [hlen] at hT
    unfold wpStill
    split
    · rename_i hwt
      rw [if_pos hwt] at hw
      obtain ⟨hk', hw⟩ := hw
      have hso := hs o (by simp)
      unfold opD at hw
      rw [if_pos hso] at hw
      obtain ⟨v, u, h1, h2, h3⟩ := still_sound hS H F an.isMu o hso hw
      unfold Oper.still
      rw [h1, Oper.stillUpon_value]
      exact head_sound hS an n ds ops hops hgo hgb rest H l (k + 1) hl' hs' _ _ g' sk' (hg' u) (hk' u) (F.put hdst h2) (by rw [put_defers]; exact hd) h3 hT
    · rename_i hwt
      rw [if_neg hwt] at hw
      exact head_sound hS an n ds ops hops hgo hgb rest H l (k + 1) hl' hs' _ _ g' sk' (hg' undef) hw.1 (F.put hdst (.undef _)) (by rw [put_defers]; exact hd) hw.2 hT
theorem headLen_still (mu : Option Nat → Bool) : ∀ l : List Oper, ∀ o ∈ l.take (headLen mu P l), isStill mu P o.dst o.op = true
  | [], o, h => by simp at h
  | x :: l, o, h => by
    unfold headLen at h
    split at h
    · rename_i hx
      simp only [List.take_succ_cons, List.mem_cons] at h
      rcases h with rfl | h
      · exact hx
      · exact headLen_still mu l o h
    · simp at h

/-! ### a region in any order -/
def cntU (l : Array Bool) : Nat := (l.toList.filter fun b => !b).length
theorem cnt_set : ∀ (l : List Bool) (i : Nat), l[i]? = some false → ((l.set i true).filter fun b => !b).length + 1 = (l.filter fun b => !b).length
  | [], i, h => by simp at h
  | b :: l, 0, h => by
    simp only [List.getElem?_cons_zero, Option.some.injEq] at h
    subst h
    simp
  | b :: l, i + 1, h => by
    have ih := cnt_set l i (by simpa using h)
    simp only [List.set_cons_succ, List.filter_cons]
    split <;> (try simp only [List.length_cons]) <;> omega
theorem cntU_set {l : Array Bool} {i : Nat} (h : l.getD i true = false) : cntU (l.setIfInBounds i true) + 1 = cntU l := by
  unfold cntU
  have h1 : l.toList[i]? = some false := by
    by_cases hi : i < l.size
    · simp [hi] at h ⊢; exact h
    · simp [hi] at h
  have := cnt_set l.toList i h1
  simpa using this
theorem allP_mem {k : Nat → Prop} : ∀ {l : List Nat}, allP l k → ∀ i ∈ l, k i
  | [], _, i, hi => by cases hi
  | j :: l, h, i, hi => by
    rcases List.mem_cons.1 hi with rfl | hi
    · exact h.1
    · exact allP_mem h.2 i hi
def PostN (w0 : World) (ρ : Gh) (n : Nat) (ds : List Deferred) (Q : AEx → Fr → AS → Prop) : Exit → Act → World → Prop := fun e a w => match e with
  | .panic c => a.tmps.size = n ∧ a.defers = ds ∧ ∃ ρ' σ p u, ρ.le ρ' ∧ RelH w0 ρ' σ w ∧ c = [{ v := u, recovered := false }] ∧ RelP ρ'.imm p u ∧ Q (.panic p) [] σ
  | e => Post w0 ρ n ds Q e a w
theorem PostN.mono {n : Nat} {ds : List Deferred} {Q : AEx → Fr → AS → Prop} (hm : ρ.le ρ') {e : Exit} {a : Act} {w : World} (h : PostN w0 ρ' n ds Q e a w) : PostN w0 ρ n ds Q e a w := by
  cases e with
  | panic c =>
    obtain ⟨h1, h2, ρ'', σ, p, u, h3, h4⟩ := h
    exact ⟨h1, h2, ρ'', σ, p, u, Gh.le_trans hm h3, h4⟩
  | _ => exact Post.mono hm (fun _ _ _ h => h) h
theorem PostN.post {n : Nat} {ds : List Deferred} {Q : AEx → Fr → AS → Prop} {e : Exit} {a : Act} {w : World} (h : PostN w0 ρ n ds Q e a w) : Post w0 ρ n ds Q e a w := by
  cases e with
  | panic c =>
    obtain ⟨h1, h2, ρ'', σ, p, u, h3, h4, rfl, h5, h6⟩ := h
    exact ⟨ρ'', [], σ, .panic p, h3, h4, ⟨h1, fun t => .undef _⟩, h2, .panic p u h5, h6⟩
  | _ => exact h
theorem put_size (a : Act) (d : Option Nat) (v : Value) : (a.put d v).tmps.size = a.tmps.size := by cases d <;> simp [Act.put]
theorem PostN.put {n : Nat} {ds : List Deferred} {Q : AEx → Fr → AS → Prop} {c : List PanicEntry} {a : Act} {d : Option Nat} {v : Value} {w : World} (h : PostN w0 ρ n ds Q (.panic c) (a.put d v) w) : PostN w0 ρ n ds Q (.panic c) a w := by
  obtain ⟨h1, h2, h3⟩ := h
  exact ⟨by rwa [put_size] at h1, by rwa [put_defers] at h2, h3⟩
/-- The operations that were passed over left nothing, in whatever order. -/
def SkippedA (ops : Array Oper) (listed : Array Bool) (a : Act) (sk : List Nat) : Prop := ∀ j ∈ sk, listed.getD j false = true ∧ ∀ d, (ops[j]?).bind (·.dst) = some d → (∀ (i : Nat) o', i ≠ j → ops[i]? = some o' → o'.dst ≠ some d) → a.tmps.getD d undef = undef
theorem listed_set {listed : Array Bool} {i j : Nat} (h : listed.getD j false = true) : (listed.setIfInBounds i true).getD j false = true := by
  simp only [Array.getD_eq_getD_getElem?] at h ⊢
  rw [Array.getElem?_setIfInBounds]
  split
  · split
    · rfl
    · rename_i e hlt
      subst e
      have : listed[i]? = none := by simp; omega
      rw [this] at h; cases h
  · exact h
theorem SkippedA.put {ops : Array Oper} {listed : Array Bool} {a : Act} {sk : List Nat} (h : SkippedA ops listed a sk) {i : Nat} {o : Oper} (ho : ops[i]? = some o) (hun : listed.getD i true = false) (v : Value) : SkippedA ops (listed.setIfInBounds i true) (a.put o.dst v) sk := by
  intro j hj
  obtain ⟨h1, h2⟩ := h j hj
  refine ⟨listed_set h1, fun d hd hu => ?_⟩
  have h3 := h2 d hd hu
  have hij : i ≠ j := by
    intro e; subst e
    simp only [Array.getD_eq_getD_getElem?] at h1 hun
    cases e : listed[i]? with
    | none => rw [e] at h1; cases h1
    | some b => rw [e] at h1 hun; simp at h1 hun; rw [h1] at hun; cases hun
  have hne := hu i o hij ho
  cases hdst : o.dst with
  | none => exact h3
  | some e =>
    have hed : e ≠ d := fun he => hne (by rw [hdst, he])
    have : (a.put (some e) v).tmps.getD d undef = a.tmps.getD d undef := by simp [Act.put, Array.getElem?_setIfInBounds_ne hed]
    rw [this]
    exact h3
theorem SkippedA.skip {ops : Array Oper} {listed : Array Bool} {a : Act} {sk : List Nat} (h : SkippedA ops listed a sk) {i : Nat} {o : Oper} (ho : ops[i]? = some o) (hun : listed.getD i true = false) : SkippedA ops (listed.setIfInBounds i true) (a.put o.dst undef) (i :: sk) := by
  intro j hj
  rcases List.mem_cons.1 hj with rfl | hj
  · refine ⟨?_, fun d hd _ => ?_⟩
    · have hlt : j < listed.size := by
        rcases Nat.lt_or_ge j listed.size with h | h
        · exact h
        · simp [Array.getD_eq_getD_getElem?, Array.getElem?_eq_none h] at hun
      simp [Array.getD_eq_getD_getElem?, hlt]
    · have : o.dst = some d := by simpa [ho] using hd
      rw [this]
      simp [Act.put]
  · exact h.put ho hun undef j hj
theorem SkippedA.yields {ops : Array Oper} {listed : Array Bool} {a : Act} {sk : List Nat} (h : SkippedA ops listed a sk) {j d : Nat} (hj : j ∈ sk) (hd : (ops[j]?).bind (·.dst) = some d) (hu : ∀ (i : Nat) o', i ≠ j → ops[i]? = some o' → o'.dst ≠ some d) : yielded ops a.tmps j = none := by
  have h1 := (h j hj).2 d hd hu
  unfold yielded
  rw [hd, Option.bind_some]
  cases e : a.tmps[d]? with
  | none => rfl
  | some v =>
    have : a.tmps.getD d undef = v := by simp [e]
    rw [this] at h1
    subst h1
    rfl
/-- One operation: is it wanted, and what is asked of it. -/
theorem one_step {an : An} {n : Nat} {fr : Fr} {a : Act} (F : RelF ρ n fr a) {ops : Array Oper} (hops : ∀ o ∈ ops.toList, ∀ d, o.dst = some d → d < n) (hgo : guardsOk ops = true) {listed : Array Bool} {sk : List Nat} (hsk : SkippedA ops listed a sk) {i : Nat} (hun : listed.getD i true = false)
    {X : PV → AS → Prop} {k : List Nat → Fr → AS → Prop} (h : oneD P env an.isMu ops X sk i fr σ k) :
    ∃ o, ops[i]? = some o ∧ ∃ sk' fr', RelF ρ n fr' a ∧ ((Region.wanted o (yielded ops a.tmps) = true ∧ (∀ v, SkippedA ops (listed.setIfInBounds i true) (a.put o.dst v) sk') ∧ opD P env an.isMu fr' σ o.dst o.op (fun v σ => k sk' (fr'.put o.dst v) σ) X)
      ∨ (Region.wanted o (yielded ops a.tmps) = false ∧ SkippedA ops (listed.setIfInBounds i true) (a.put o.dst undef) sk' ∧ k sk' (fr'.put o.dst .undef) σ)) := by
  unfold oneD atP at h
  split at h
  case h_2 => exact h.elim
  rename_i o ho
  refine ⟨o, ho, ?_⟩
  split at h
  · rename_i hgd
    have hw : Region.wanted o (yielded ops a.tmps) = true := by simp [Region.wanted, hgd]
    exact ⟨sk, fr, F, .inl ⟨hw, fun v => hsk.put ho hun v, h⟩⟩
  · rename_i gd hgd
    obtain ⟨j, want⟩ := gd
    simp only at h
    obtain ⟨d', hd', hu'⟩ := guardsOk_spec hgo ho hgd
    split at h
    · rename_i hj
      have hj : j ∈ sk := by simpa using hj
      have hw : Region.wanted o (yielded ops a.tmps) = false := by
        simp only [Region.wanted, hgd, hsk.yields hj hd' hu']
        rfl
      exact ⟨i :: sk, fr, F, .inr ⟨hw, hsk.skip ho hun, h⟩⟩
    · split at h
      · rename_i d hd
        unfold guardD at h
        split at h
        · rename_i b hb
          have hy := yields_rel F hops hd hb
          have hw : Region.wanted o (yielded ops a.tmps) = (b == want) := by
            simp only [Region.wanted, hgd, hy]
            cases b <;> cases want <;> rfl
          split at h
          · rename_i hbw
            subst hbw
            exact ⟨sk, _, F.know hb, .inl ⟨by rw [hw]; simp, fun v => hsk.put ho hun v, h⟩⟩
          · rename_i hbw
            have hf : (b == want) = false := by simpa using hbw
            have hbn : b = !want := by cases b <;> cases want <;> simp_all
            exact ⟨i :: sk, _, F.know (by rw [hb, hbn]), .inr ⟨by rw [hw, hf], hsk.skip ho hun, h⟩⟩
        · exact h.elim
      · exact h.elim
theorem any_sound (E : EnvOk P env) (hS : Ready P w0) (an : An) (n : Nat) (ds : List Deferred) (ops : Array Oper) (hops : ∀ o ∈ ops.toList, ∀ d, o.dst = some d → d < n) (hgo : guardsOk ops = true) (hsel : Region.noSelect ops = true) {Q : AEx → Fr → AS → Prop} (ρ0 : Gh) :
    ∀ (g f : Nat) (listed : Array Bool) (sk : List Nat) (ρ : Gh) (fr : Fr) (σ : AS) (a : Act) (w : World), ρ0.le ρ → cntU listed ≤ f → SkippedA ops listed a sk → RelH w0 ρ σ w → RelF ρ n fr a → a.defers = ds → anyD P env an ops Q g listed sk fr σ → wpAny P .any ops (PostN w0 ρ0 n ds Q) f listed a w := by
  intro g
  induction g with
  | zero => intro f listed sk ρ fr σ a w _ _ _ _ _ _ h; exact h.elim
  | succ g ih =>
    intro f listed sk ρ fr σ a w hle hf hsk H F hd h
    unfold anyD at h
    cases hr : Region.ready .any ops listed with
    | nil =>
      rw [hr] at h
      have hn : PostN w0 ρ0 n ds Q .normal a w := ⟨ρ, fr, σ, .normal, hle, H, F, hd, .normal, h⟩
      cases f with
      | zero => exact ⟨hr, hn⟩
      | succ f => exact ⟨fun _ => hn, by rw [hr]; intro i hi; cases hi⟩
    | cons i0 rs =>
      rw [hr] at h
      simp only at h
      have hun : ∀ i ∈ i0 :: rs, listed.getD i true = false := fun i hi => (mem_ready.1 (by rw [hr]; exact hi)).1
      have hc := cntU_set (hun i0 (by simp))
      obtain ⟨f, rfl⟩ : ∃ m, f = m + 1 := ⟨f - 1, by omega⟩
      have hmem : ∀ {i : Nat} {o : Oper}, ops[i]? = some o → o ∈ ops.toList := by
        intro i o ho
        obtain ⟨hlt, rfl⟩ := Array.getElem?_eq_some_iff.1 ho
        simp
      split at h
      · rename_i i hfi
        have hi := List.mem_of_find?_eq_some hfi
        have hp := List.find?_some hfi
        simp only [Bool.and_eq_true] at hp
        have hci := cntU_set (hun i hi)
        obtain ⟨o, ho, sk', fr', F', hh⟩ := one_step F hops hgo hsk (hun i hi) h
        have hcm := hp.1
        unfold isCalmAt at hcm
        rw [ho] at hcm
        simp only [Bool.and_eq_true] at hcm
        rcases hh with ⟨hw, hs1, hop⟩ | ⟨hw, hs1, hk⟩
        · have hst : stillD P fr' σ o.op fun v => anyD P env an ops Q g (listed.setIfInBounds i true) sk' (fr'.put o.dst v) σ := by
            unfold opD at hop
            rw [if_pos hcm.2] at hop
            exact hop
          obtain ⟨v, u, h1, h2, h3⟩ := calm_sound F' an.isMu o hcm.1 hst
          refine wpAny_take (v := u) ho hsel hp.2 (by rw [hr]; simpa using hi) (fun c a w => PostN.put) (.inl ⟨hw, h1⟩) ?_
          exact ih f _ sk' ρ _ σ _ w hle (by omega) (hs1 u) H (F'.put (hops o (hmem ho)) h2) (by rw [put_defers]; exact hd) h3
        · refine wpAny_take (v := undef) ho hsel hp.2 (by rw [hr]; simpa using hi) (fun c a w => PostN.put) (.inr ⟨hw, rfl⟩) ?_
          exact ih f _ sk' ρ _ σ _ w hle (by omega) hs1 H (F'.put (hops o (hmem ho)) (.undef _)) (by rw [put_defers]; exact hd) hk
      · refine wpAny_all hr (by simp) fun i hi => ?_
        have h2 := allP_mem h i hi
        have hci := cntU_set (hun i hi)
        obtain ⟨o, ho, sk', fr', F', hh⟩ := one_step F hops hgo hsk (hun i hi) h2
        unfold wpOp
        rw [ho]
        simp only
        rcases hh with ⟨hw, hs1, hop⟩ | ⟨hw, hs1, hk⟩
        · rw [if_pos hw]
          refine .inl (op_sound E hS H F' an.isMu o hop ?_ ?_)
          · intro ρ' σ' w' v u h3 h4 h5 h6
            exact ih f _ sk' ρ' _ σ' _ w' (Gh.le_trans hle h3) (by omega) (hs1 u) h4 ((F'.mono h3).put (hops o (hmem ho)) h5) (by rw [put_defers]; exact hd) h6
          · intro ρ' σ' w' p u h3 h4 h5 h6
            exact ⟨F.size, hd, ρ', σ', p, u, Gh.le_trans hle h3, h4, rfl, h5, h6⟩
        · rw [if_neg (by rw [hw]; simp)]
          exact ih f _ sk' ρ _ σ _ w hle (by omega) hs1 H (F'.put (hops o (hmem ho)) (.undef _)) (by rw [put_defers]; exact hd) hk
theorem region_sound0 (hm : P.follows .mixedOrders = true) (E : EnvOk P env) (hS : Ready P w0) (an : An) (n : Nat) (ds : List Deferred) (id : Nat) (ops : Array Oper) (draw : Bool) (hany : ¬ an.any.contains id = true) (hok : okCode an P n (.region id ops draw) = true) {Q : AEx → Fr → AS → Prop}
    {ρ : Gh} {fr : Fr} {σ : AS} {a : Act} {w : World} {T : Exit → Act → World → Prop} (H : RelH w0 ρ σ w) (F : RelF ρ n fr a) (hd : a.defers = ds) (h : opsD P env an ops Q ops.toList 0 [] none fr σ)
    (hT : ∀ e a w, Post w0 ρ n ds Q e a w → T e a w) : (Code.region id ops draw).wp P T a w := by
  simp only [okCode, if_neg hany, Bool.and_eq_true] at hok
  obtain ⟨⟨⟨h1, hgo⟩, hgb⟩, h2⟩ := hok
  have hops : ∀ o ∈ ops.toList, ∀ d, o.dst = some d → d < n := by
    intro o ho d hd
    have := Array.all_eq_true'.1 h1 o (by simpa using ho)
    rw [hd] at this
    simpa using this
  cases draw with
  | false => exact wp_region_list (ops_sound E hS an n ds ops hops hgo hgb ops.toList 0 rfl ρ fr σ a w T none [] trivial (fun _ h => by cases h) H F hd h hT)
  | true =>
    have H' := H.drawn (w.drawn + 1)
    have hhl := headLen_still (P := P) an.isMu ops.toList
    simp only [Bool.not_true, Bool.false_or, Bool.or_eq_true, Bool.and_eq_true, beq_iff_eq] at h2
    rcases h2 with ⟨hB, hlen⟩ | hB
    · refine wp_region_still hm hB ?_
      have htake : ops.toList.take (headLen an.isMu P ops.toList) = ops.toList := by rw [hlen]; exact List.take_of_length_le (by simp)
      rw [htake] at hhl
      refine head_sound hS an n ds ops hops hgo hgb [] H' ops.toList 0 (by simp) hhl fr a none [] trivial (fun _ h => by cases h) F hd (by rw [List.append_nil]; exact h) ?_
      intro fr' a' g' sk' _ _ F' hd' hQ
      exact hT _ _ _ ⟨ρ, fr', σ, .normal, Gh.le_refl ρ, H', F', hd', .normal, hQ⟩
    · have hB' : Region.lexTailB .any ops.toList.toArray (headLen an.isMu P ops.toList) = true := by simpa using hB
      have := wp_region_still_tail (id := id) (P := P) (Q := T) (a := a) (w := w) (l := ops.toList) (headLen an.isMu P ops.toList) hm hB' ?_
      · simpa using this
      · have e : ops.toList.toArray = ops := by simp
        rw [e]
        have hle : headLen an.isMu P ops.toList ≤ ops.toList.length := by
          have : ∀ l : List Oper, headLen an.isMu P l ≤ l.length := by
            intro l
            induction l with
            | nil => exact Nat.le_refl _
            | cons x l ih => unfold headLen; split <;> simp <;> omega
          exact this _
        refine head_sound hS an n ds ops hops hgo hgb (ops.toList.drop (headLen an.isMu P ops.toList)) H' (ops.toList.take (headLen an.isMu P ops.toList)) 0 (by simp) hhl fr a none [] trivial (fun _ h => by cases h) F hd (by rw [List.take_append_drop]; exact h) ?_
        intro fr' a' g' sk' hk' hsk' F' hd' hQ
        have hlen : (ops.toList.take (headLen an.isMu P ops.toList)).length = headLen an.isMu P ops.toList := by rw [List.length_take]; omega
        rw [Nat.zero_add, hlen] at hk' hsk' hQ
        exact ops_sound E hS an n ds ops hops hgo hgb _ (headLen an.isMu P ops.toList) rfl ρ fr' σ a' _ T g' sk' hk' hsk' H' F' hd' hQ hT
theorem region_sound (hm : P.follows .mixedOrders = true) (E : EnvOk P env) (hS : Ready P w0) (an : An) (n : Nat) (ds : List Deferred) (id : Nat) (ops : Array Oper) (draw : Bool) (hok : okCode an P n (.region id ops draw) = true) {Q : AEx → Fr → AS → Prop}
    {ρ : Gh} {fr : Fr} {σ : AS} {a : Act} {w : World} {T : Exit → Act → World → Prop} (H : RelH w0 ρ σ w) (F : RelF ρ n fr a) (hd : a.defers = ds) (h : wpD P env an (.region id ops draw) Q fr σ)
    (hT : ∀ e a w, Post w0 ρ n ds Q e a w → T e a w) : (Code.region id ops draw).wp P T a w := by
  unfold wpD at h
  by_cases hany : an.any.contains id = true
  · rw [if_pos hany] at h
    unfold okCode at hok
    rw [if_pos hany] at hok
    simp only [Bool.and_eq_true] at hok
    obtain ⟨⟨⟨hdr, h1⟩, h2⟩, h3⟩ := hok
    subst hdr
    have hops : ∀ o ∈ ops.toList, ∀ d, o.dst = some d → d < n := by
      intro o ho d hd
      have := Array.all_eq_true'.1 h1 o (by simpa using ho)
      rw [hd] at this
      simpa using this
    have hcnt : cntU (Array.replicate ops.size false) ≤ ops.size := by
      unfold cntU
      refine Nat.le_trans (List.length_filter_le _ _) (by simp)
    refine Code.wp_mono (Q := PostN w0 ρ n ds Q) (fun e a w (hp : PostN w0 ρ n ds Q e a w) => hT e a w hp.post) (wp_region_any hm ?_)
    exact any_sound E hS an n ds ops hops h2 h3 ρ _ _ _ [] ρ fr σ a _ (Gh.le_refl ρ) hcnt (fun _ h => by cases h) (H.drawn (w.drawn + 1)) F hd h
  · rw [if_neg hany] at h
    exact region_sound0 hm E hS an n ds id ops draw hany hok H F hd h hT

theorem Fr.keep_get (fr : Fr) : ∀ (l : List Nat) (t : Nat), (Fr.keep fr l).get t = if t ∈ l then fr.get t else .undef
  | [], t => rfl
  | s :: l, t => by
    simp only [Fr.keep, List.map_cons, Fr.get]
    have ih := Fr.keep_get fr l t
    unfold Fr.keep at ih
    rw [ih]
    by_cases h : s = t
    · subst h; simp
    · simp [h, Ne.symm h]
theorem RelF.keep {n : Nat} {fr : Fr} {a : Act} (F : RelF ρ n fr a) (l : List Nat) : RelF ρ n (fr.keep l) a :=
  ⟨F.size, fun t => by
    rw [Fr.keep_get]
    split
    · exact F.get t
    · exact .undef _⟩
theorem allV_keep : ∀ (l : List Nat) (k : Fr → Prop) (fr : Fr), allV l k → k (fr.keep l)
  | [], k, fr, h => h
  | t :: l, k, fr, h => allV_keep l (fun f => k ((t, fr.get t) :: f)) fr (h (fr.get t))
theorem keep_map (fr : Fr) (l : List Nat) : l.map (fr.keep l).get = l.map fr.get := by
  apply List.map_congr_left
  intro t ht
  rw [Fr.keep_get, if_pos ht]

theorem code_sound (hm : P.follows .mixedOrders = true) (E : EnvOk P env) (hS : Ready P w0) (an : An) (n : Nat) (ds : List Deferred) : ∀ (c : Code), okCode an P n c = true → ∀ {Q : AEx → Fr → AS → Prop} {fr : Fr} {σ : AS},
    wpD P env an c Q fr σ → ∀ {ρ : Gh} {a : Act} {w : World} {T : Exit → Act → World → Prop}, RelH w0 ρ σ w → RelF ρ n fr a → a.defers = ds → (∀ e a w, Post w0 ρ n ds Q e a w → T e a w) → c.wp P T a w := by
  intro c
  induction c with
  | skip => exact fun _ _ _ _ h _ _ _ _ H F hd hT => wp_skip (hT _ _ _ ⟨_, _, _, .normal, Gh.le_refl _, H, F, hd, .normal, h⟩)
  | label l => exact fun _ _ _ _ h _ _ _ _ H F hd hT => wp_label (hT _ _ _ ⟨_, _, _, .normal, Gh.le_refl _, H, F, hd, .normal, h⟩)
  | exit id => exact fun _ _ _ _ h _ _ _ _ H F hd hT => wp_exit (hT _ _ _ ⟨_, _, _, .exit id, Gh.le_refl _, H, F, hd, .exit id, h⟩)
  | goto l => exact fun _ _ _ _ h _ _ _ _ H F hd hT => wp_goto (hT _ _ _ ⟨_, _, _, .goto l, Gh.le_refl _, H, F, hd, .goto l, h⟩)
  | ret => exact fun _ _ _ _ h _ _ _ _ H F hd hT => wp_ret (hT _ _ _ ⟨_, _, _, .ret, Gh.le_refl _, H, F, hd, .ret, h⟩)
  | region id ops draw => exact fun hok _ _ _ h _ _ _ _ H F hd hT => region_sound hm E hS an n ds id ops draw hok H F hd h hT
  | seq x y ihx ihy =>
    intro hok Q fr σ h ρ a w T H F hd hT
    simp only [okCode, Bool.and_eq_true] at hok
    refine wp_seq (ihx hok.1 h H F hd ?_)
    rintro e a' w' ⟨ρ', fr', σ', e', h1, h2, h3, h4, h5, h6⟩
    cases h5 with
    | normal =>
      simp only [seqQ] at h6
      split at h6
      · rename_i l hl
        exact ihy hok.2 h6 h2 (h3.keep l) h4 (fun e a w hp => hT e a w (hp.mono h1 (fun _ _ _ h => h)))
      · exact ihy hok.2 h6 h2 h3 h4 (fun e a w hp => hT e a w (hp.mono h1 (fun _ _ _ h => h)))
    | exit id => exact hT _ _ _ ⟨ρ', fr', σ', _, h1, h2, h3, h4, .exit id, h6⟩
    | goto l => exact hT _ _ _ ⟨ρ', fr', σ', _, h1, h2, h3, h4, .goto l, h6⟩
    | ret => exact hT _ _ _ ⟨ρ', fr', σ', _, h1, h2, h3, h4, .ret, h6⟩
    | panic p u hp => exact hT _ _ _ ⟨ρ', fr', σ', _, h1, h2, h3, h4, .panic p u hp, h6⟩
  | cond c x y ihx ihy =>
    intro hok Q fr σ h ρ a w T H F hd hT
    simp only [okCode, Bool.and_eq_true] at hok
    simp only [wpD, condD] at h
    split at h
    · rename_i t ht
      have hc := ev_rel F c
      rw [ht] at hc
      refine wp_cond (relBool hc) ?_
      cases t with
      | true => exact ihx hok.1 (by simpa using h) H F hd hT
      | false => exact ihy hok.2 (by simpa using h) H F hd hT
    · exact h.elim
  | block id b ih =>
    intro hok Q fr σ h ρ a w T H F hd hT
    refine wp_block (ih hok h H F hd ?_)
    rintro e a' w' ⟨ρ', fr', σ', e', h1, h2, h3, h4, h5, h6⟩
    cases h5 with
    | normal => exact hT _ _ _ ⟨ρ', fr', σ', _, h1, h2, h3, h4, .normal, h6⟩
    | exit i =>
      simp only [blockQ] at h6
      show Exit.inBlock id T (.exit i) a' w'
      simp only [Exit.inBlock]
      split
      · rename_i hi
        rw [if_pos hi] at h6
        exact hT _ _ _ ⟨ρ', fr', σ', .normal, h1, h2, h3, h4, .normal, h6⟩
      · rename_i hi
        rw [if_neg hi] at h6
        exact hT _ _ _ ⟨ρ', fr', σ', .exit i, h1, h2, h3, h4, .exit i, h6⟩
    | goto l => exact hT _ _ _ ⟨ρ', fr', σ', _, h1, h2, h3, h4, .goto l, h6⟩
    | ret => exact hT _ _ _ ⟨ρ', fr', σ', _, h1, h2, h3, h4, .ret, h6⟩
    | panic p u hp => exact hT _ _ _ ⟨ρ', fr', σ', _, h1, h2, h3, h4, .panic p u hp, h6⟩
  | loop b ih =>
    intro hok Q fr σ h ρ a w T H F hd hT
    simp only [wpD] at h
    split at h
    · rename_i l hl
      obtain ⟨I, ⟨m, hm0⟩, hI⟩ := h
      have key : ∀ (M m : Nat), m ≤ M → ∀ (ρ : Gh) (fr : Fr) (σ : AS) (a : Act) (w : World), RelH w0 ρ σ w → RelF ρ n fr a → a.defers = ds → I m (l.map fr.get) σ → (∀ e a w, Post w0 ρ n ds Q e a w → T e a w) → Code.rounds P b T (M + 1) a w := by
        intro M
        induction M with
        | zero =>
          intro m hmM ρ fr σ a w H F hd hi hT
          rw [rounds_succ]
          have hstep := allV_keep l _ fr (hI m) σ (by rw [keep_map]; exact hi)
          refine ih hok hstep H (F.keep l) hd ?_
          rintro e a' w' ⟨ρ', fr', σ', e', h1, h2, h3, h4, h5, h6⟩
          cases h5 with
          | normal => obtain ⟨m', hlt, _⟩ := h6; omega
          | exit id => exact hT _ _ _ ⟨ρ', fr', σ', _, h1, h2, h3, h4, .exit id, h6⟩
          | goto l => exact hT _ _ _ ⟨ρ', fr', σ', _, h1, h2, h3, h4, .goto l, h6⟩
          | ret => exact hT _ _ _ ⟨ρ', fr', σ', _, h1, h2, h3, h4, .ret, h6⟩
          | panic p u hp => exact hT _ _ _ ⟨ρ', fr', σ', _, h1, h2, h3, h4, .panic p u hp, h6⟩
        | succ M ihM =>
          intro m hmM ρ fr σ a w H F hd hi hT
          rw [rounds_succ]
          have hstep := allV_keep l _ fr (hI m) σ (by rw [keep_map]; exact hi)
          refine ih hok hstep H (F.keep l) hd ?_
          rintro e a' w' ⟨ρ', fr', σ', e', h1, h2, h3, h4, h5, h6⟩
          cases h5 with
          | normal =>
            obtain ⟨m', hlt, hi'⟩ := h6
            exact ihM m' (by omega) ρ' fr' σ' a' w' h2 h3 h4 hi' (fun e a w hp => hT e a w (hp.mono h1 (fun _ _ _ h => h)))
          | exit id => exact hT _ _ _ ⟨ρ', fr', σ', _, h1, h2, h3, h4, .exit id, h6⟩
          | goto l => exact hT _ _ _ ⟨ρ', fr', σ', _, h1, h2, h3, h4, .goto l, h6⟩
          | ret => exact hT _ _ _ ⟨ρ', fr', σ', _, h1, h2, h3, h4, .ret, h6⟩
          | panic p u hp => exact hT _ _ _ ⟨ρ', fr', σ', _, h1, h2, h3, h4, .panic p u hp, h6⟩
      exact wp_loop_rounds (m + 1) (key m m (Nat.le_refl _) ρ fr σ a w H F hd hm0 hT)
    · exact h.elim
  | rangeFunc => exact fun _ _ _ _ h => h.elim
  | scope => exact fun _ _ _ _ h => h.elim
  | refuse => exact fun _ _ _ _ h => h.elim
end
end Go.AD
