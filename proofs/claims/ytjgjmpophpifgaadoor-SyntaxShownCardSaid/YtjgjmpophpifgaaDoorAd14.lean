/- Functions: a transformer that the body bears out is sound; and the whole for a law. -/
import Derived.Test.YtjgjmpophpifgaaDoorAd13
set_option linter.unusedVariables false
set_option linter.unusedSimpArgs false
namespace Go.AD
open RowKit

section
variable {P : Program} {w0 w w' : World} {ρ ρ' : Gh} {σ : AS} {env : Env}

theorem wk1_sound {a r : AV} {u : Value} (h : RelV ρ a u) (hw : wk1 a r) : RelV ρ r u := by
  rcases hw with rfl | ⟨p, hp, rfl⟩
  · exact h
  · exact .pv (toPV_rel h hp)
theorem wkL_sound : ∀ {as bs : List AV} {us : List Value}, RelL ρ as us → wkL as bs → RelL ρ bs us
  | [], [], us, h, _ => h
  | a :: as, b :: bs, us, h, hw => by
    obtain ⟨v, vs, rfl, hv, hr⟩ := h.uncons
    exact .cons (wk1_sound hv hw.1) (wkL_sound hr hw.2)
  | [], _ :: _, _, _, hw => hw.elim
  | _ :: _, [], _, _, hw => hw.elim
theorem wk_sound {a r : AV} {u : Value} (h : RelV ρ a u) (hw : wk a r) : RelV ρ r u := by
  rcases hw with hw | hw
  · exact wk1_sound h hw
  · split at hw
    · obtain ⟨us, rfl, hr⟩ := inv_tuple h
      exact RelV.of_tuple (wkL_sound hr hw)
    · obtain ⟨us, rfl, hr⟩ := inv_agg h
      exact RelV.of_agg (wkL_sound hr hw)
    · exact hw.elim

def resV (tmps : Array Value) : ResultVar → Sem Value
  | .tmp t => pure (tmps.getD t undef)
  | .cell a t => do loadVar t (← asAddr (tmps.getD a undef))
theorem results_eq (fn : Func) (tmps : Array Value) : results fn tmps = (do let vs ← fn.results.mapM (resV tmps); pure (if h : vs.size = 1 then vs[0] else .tuple vs)) := by
  have e : (fun (x : ResultVar) => (match x with | .tmp t => pure (tmps.getD t undef) | .cell a t => do loadVar t (← asAddr (tmps.getD a undef)) : Sem Value)) = resV tmps := by
    funext x
    cases x <;> rfl
  rw [← e]
  rfl
theorem inv_elemQ {cs : List PV} {off : Nat} {u : Value} (h : RelV ρ (.elemP cs off) u) : ∃ x : Addr, u = .pointer (some x) := by
  cases h with | elemP cells off b o vs hl hi hr => exact ⟨_, rfl⟩
theorem inv_glob {g : Nat} {u : Value} (h : RelV ρ (.glob g) u) : u = .pointer (some ⟨g, 0, none⟩) := by
  cases h; rfl
theorem results_sound (hS : Ready P w0) (H : RelH w0 ρ σ w) {n : Nat} {fr : Fr} {a : Act} (F : RelF ρ n fr a) : ∀ (rs : List ResultVar) (K : List AV → Prop), resultsD P fr σ rs K →
    ∃ vs us, (rs.mapM (resV a.tmps)).run P w = .ok us w ∧ RelL ρ vs us ∧ K vs
  | [], K, h => ⟨[], [], rfl, .nil ρ, h⟩
  | .tmp t :: rs, K, h => by
    obtain ⟨vs, us, h1, h2, h3⟩ := results_sound hS H F rs _ h
    exact ⟨_, _, by simp only [List.mapM_cons, resV, Sem.run_bind, Sem.run_pure, Result.andThen_ok, h1], .cons (F.get t) h2, h3⟩
  | .cell b t :: rs, K, h => by
    simp only [resultsD, lock_eq] at h
    have hx := F.get b
    obtain ⟨ax, hax⟩ : ∃ x : Addr, a.tmps.getD b undef = .pointer (some x) := by
      have h' := h
      unfold loadD at h'
      obtain ⟨_, h'⟩ := h'
      split at h'
      · rename_i id off hb
        rw [hb] at hx
        obtain ⟨b', o', m', e, _⟩ := inv_addr hx
        exact ⟨_, e⟩
      · rename_i cs off hb
        rw [hb] at hx
        exact inv_elemQ hx
      · rename_i g hb
        rw [hb] at hx
        exact ⟨_, inv_glob hx⟩
      · exact h'.elim
    obtain ⟨v, r, h1, h2, h3⟩ := loadD_sound (P := P) hS H h hx
    obtain ⟨vs, us, h4, h5, h6⟩ := results_sound hS H F rs _ h3
    rw [hax] at h1
    simp only [Instr.loadAt, Instr.sureAddr, Sem.run_bind, Sem.run_pure, Result.andThen_ok] at h1
    refine ⟨_, _, ?_, .cons h2 h5, h6⟩
    simp only [List.mapM_cons, resV, hax, asAddr, Sem.run_bind, Sem.run_pure, Result.andThen_ok, h1, h4]
theorem ret_sound (hS : Ready P w0) (H : RelH w0 ρ σ w) {n : Nat} {fr : Fr} {a : Act} (F : RelF ρ n fr a) (fn : Func) {K : AV → AS → Prop} (h : retD P fn K fr σ) :
    ∃ r u σ', (results fn a.tmps).run P w = .ok u w ∧ RelV ρ r u ∧ σ'.sub σ ∧ K r σ' := by
  obtain ⟨vs, us, h1, h2, r, σ', h3, h4, h5⟩ := results_sound hS H F fn.results.toList _ h
  have hrun : (results fn a.tmps).run P w = .ok (if h : us.toArray.size = 1 then us.toArray[0] else .tuple us.toArray) w := by
    rw [results_eq, Array.mapM_eq_mapM_toList]
    simp only [Sem.run_bind, Sem.run_map, Sem.run_pure, Result.andThen_ok, h1]
  refine ⟨r, _, σ', hrun, wk_sound ?_ h3, h4, h5⟩
  split
  · rename_i v
    obtain ⟨u, us', rfl, hu, hr⟩ := h2.uncons
    rw [hr.nil_inv]
    simpa using hu
  · rename_i vs' hne
    have : ¬ us.toArray.size = 1 := by
      intro h1'
      have hl : vs.length = 1 := by rw [← h2.1]; simpa using h1'
      match vs, hl with
      | [v], _ => exact hne v rfl
    rw [dif_neg this]
    exact RelV.of_tuple h2
theorem frOf_get : ∀ (args : List AV) (i t : Nat), (frOf i args).get t = if i ≤ t then (args[t - i]?).getD .undef else .undef
  | [], i, t => by simp [frOf, Fr.get]
  | v :: vs, i, t => by
    rw [frOf, Fr.get, frOf_get vs (i + 1) t]
    by_cases h : i = t
    · subst h; simp
    · rw [if_neg h]
      by_cases h2 : i ≤ t
      · rw [if_pos h2, if_pos (by omega)]
        obtain ⟨k, rfl⟩ : ∃ k, t = i + 1 + k := ⟨t - (i + 1), by omega⟩
        rw [show i + 1 + k - (i + 1) = k by omega, show i + 1 + k - i = k + 1 by omega]
        simp
      · rw [if_neg h2, if_neg (by omega)]
theorem frOf_rel {args : List AV} {us : List Value} (h : RelL ρ args us) (n : Nat) (hn : args.length ≤ n) (ds : List Deferred) : RelF ρ n (frOf 0 args) { tmps := us.toArray ++ Array.replicate (n - us.toArray.size) undef, defers := ds } := by
  have hl := h.1
  refine ⟨by simp; omega, fun t => ?_⟩
  rw [frOf_get, if_pos (Nat.zero_le t), Nat.sub_zero]
  by_cases ht : t < args.length
  · obtain ⟨v, h1, h2⟩ := h.get? t (List.getElem?_eq_getElem ht)
    rw [List.getElem?_eq_getElem ht, Option.getD_some]
    have : (us.toArray ++ Array.replicate (n - us.toArray.size) undef).getD t undef = v := by
      have hlt : t < us.length := by omega
      rw [List.getElem?_eq_getElem hlt] at h1
      simp [Array.getElem?_append, hlt]
      exact Option.some.inj h1
    rw [this]
    exact h2
  · rw [List.getElem?_eq_none (by omega)]
    exact .undef _

theorem body_sound (hm : P.follows .mixedOrders = true) (E : EnvOk P env) (an : An) {f : FuncId} {fn : Func} (hf : P.funcs[f]? = some fn) (hcall : ∀ (args : Array Value) (w : World), (callFunc f args).run P w = .ok (.enter f args) w)
    (hok : (match fn.body with | some c => okCode an P fn.ntmps c | none => false) = true) {T : Tr} (hT : ∀ args σ K X, T args σ K X → bodyD P env an fn args σ K X) : SoundF P f T := by
  intro w0 hS ρ σ w args us K X H hr h
  refine ⟨hcall _ w, ?_⟩
  have h := hT _ _ _ _ h
  unfold bodyD at h
  split at h
  case isFalse => exact h.elim
  rename_i hn
  cases hc : fn.body with
  | none => rw [hc] at hok; cases hok
  | some c =>
    rw [hc] at hok
    have hbc : bodyC fn = c := by simp [bodyC, hc]
    rw [hbc] at h
    refine calls_of_wp hf hc (code_sound hm E hS an fn.ntmps [] c hok h H (frOf_rel hr _ hn []) rfl ?_)
    rintro e a w' ⟨ρ', fr, σ', e', h1, h2, h3, h4, h5, h6⟩
    cases h5 with
    | normal =>
      obtain ⟨r, u, σ2, k1, k2, k3, k4⟩ := ret_sound hS h2 h3 fn h6
      exact ⟨h4, u, k1, ρ', σ2, h1, h2.sub k3, r, k2, k4⟩
    | ret =>
      obtain ⟨r, u, σ2, k1, k2, k3, k4⟩ := ret_sound hS h2 h3 fn h6
      exact ⟨h4, u, k1, ρ', σ2, h1, h2.sub k3, r, k2, k4⟩
    | panic p u hp =>
      obtain ⟨σ2, k3, k4⟩ := h6
      exact ⟨h4, ρ', σ2, h1, h2.sub k3, p, u, rfl, hp, k4⟩
    | exit id => exact h6.elim
    | goto l => exact h6.elim

/-! ### the functions that may be called -/
def noTr : Tr := fun _ _ _ _ => False
def env0 : Env := fun _ => noTr
def Env.add (env : Env) (f : FuncId) (T : Tr) : Env := fun g => if g = f then T else env g
theorem env0_ok (P : Program) : EnvOk P env0 := fun _ _ _ _ _ _ _ _ _ _ _ _ h => h.elim
theorem EnvOk.add (E : EnvOk P env) {f : FuncId} {T : Tr} (h : SoundF P f T) : EnvOk P (env.add f T) := by
  intro g
  by_cases hg : g = f
  · subst hg
    have : (env.add g T) g = T := by simp [Env.add]
    rw [this]
    exact h
  · have : (env.add f T) g = env g := by simp [Env.add, hg]
    rw [this]
    exact E g

/-! ### the start: all that was there never turns -/
def Gh.start (W : World) : Gh := { imm := fun b o => W.cell? ⟨b, o, none⟩, loc := fun _ => none, lin := fun _ _ => none }
def AS.none : AS := fun _ => Option.none
theorem RelH.start (W : World) : RelH W (Gh.start W) AS.none W where
  below := Below.refl _ _
  imm := fun _ _ _ h => h
  obj := fun _ _ h => by cases h
  apart := fun _ _ _ _ h => by cases h
  bound := ⟨0, fun _ _ => ⟨rfl, fun _ => rfl, rfl⟩⟩
/-- A law whose transformer comes to true. -/
theorem law_sound {f : FuncId} {T : Tr} (S : SoundF P f T) {W : World} (hS : Ready P W) {args : List AV} {us : List Value} (hr : RelL (Gh.start W) args us) (h : T args AS.none (fun r _ => r = .pv (.bool true)) (fun _ _ => False)) :
    Calls P f us.toArray W fun e W' => e = .returned (.bool true) ∧ Below W.heap.size W W' := by
  obtain ⟨_, h2⟩ := S W hS _ _ W args us _ _ (RelH.start W) hr h
  refine h2.mono fun e W' hh => ?_
  obtain ⟨ρ', σ', h1, H, hh⟩ := hh
  cases e with
  | returned u =>
    obtain ⟨r, hr, rfl⟩ := hh
    exact ⟨by rw [relBool hr], H.below⟩
  | panicked ch => obtain ⟨_, _, _, _, h⟩ := hh; exact h.elim
  | outgrown => exact hh.elim
theorem start_int (W : World) (k : IntKind) (n : Int) : RelV (Gh.start W) (.pv (.int k n)) (.int k n) := .pv (.int k n)
theorem start_str (W : World) (s : ByteArray) : RelV (Gh.start W) (.pv (.str s.data.toList)) (.string s) := by
  have := mkStr (Gh.start W) s.data.toList
  simpa using this
/-- A slice of whole numbers that came in. -/
theorem start_ints (W : World) (k : IntKind) (a : Option Addr) (len cap : Nat) (zs : List Int)
    (h : (a = none ∧ len = 0 ∧ cap = 0 ∧ zs = []) ∨ ∃ x, a = some x ∧ len ≤ cap ∧ cap ≤ maxLen ∧ zs.length = cap ∧ (∀ i, i < zs.length → W.cell? (x.add i) = some (.int k (zs.getD i 0))) ∧ ∀ n ∈ zs, (Lit.int k n).wf = true) :
    RelV (Gh.start W) (.pv (.lst len ((zs.take len).map fun n => .int k n))) (.slice a len cap) := by
  rcases h with ⟨rfl, rfl, rfl, rfl⟩ | ⟨x, rfl, hl, hm, hz, hc, hw⟩
  · exact .pv (.lst 0 [] none 0 0 0 [] (Nat.le_refl _) (.inl rfl) rfl (fun i h => absurd h (by simp)) (fun i h => absurd h (by simp)))
  · have hspot : 0 < len → x = ⟨x.block, x.off, none⟩ := by
      intro h0
      have := hc 0 (by omega)
      simp only [Addr.add, if_true] at this
      unfold World.cell? at this
      obtain ⟨b, o, sp⟩ := x
      cases sp with
      | none => rfl
      | some s =>
        simp at this
        split at this <;> simp at this
    refine .pv (.lst len _ _ cap x.block x.off ((zs.take len).map fun n => .int k n) hl ?_ (by simp) ?_ ?_)
    · rcases Nat.eq_zero_or_pos len with h0 | h0
      · left; subst h0; simp
      · right; rw [← hspot h0]
    · intro i hi
      simp only [List.length_map, List.length_take] at hi
      have hc' := hc i (by omega)
      have hx := hspot (by omega)
      rw [hx, Addr.add_lit] at hc'
      show W.cell? ⟨x.block, x.off + i, none⟩ = _
      rw [hc']
      have h2 : i < zs.length := by omega
      simp [List.getD_eq_getElem?_getD, List.getElem?_take, show i < len by omega, h2]
    · intro i hi
      simp only [List.length_map, List.length_take] at hi
      have h2 : i < zs.length := by omega
      simp [List.getD_eq_getElem?_getD, List.getElem?_take, show i < len by omega, h2]
      exact .int _ _
end
/-- A loop's relation: what turns is told by a value of a type of one's own. -/
def Inv {α : Type} (enc : α → List AV) (μ : α → AS → Nat) (I : α → AS → Prop) : Nat → List AV → AS → Prop := fun m vs σ => ∃ a, vs = enc a ∧ m = μ a σ ∧ I a σ
theorem back {α : Type} {enc : α → List AV} {μ : α → AS → Nat} {I : α → AS → Prop} {M : Nat} {vs : List AV} {σ : AS} (a : α) (h1 : vs = enc a) (h2 : μ a σ < M) (h3 : I a σ) : ∃ m', m' < M ∧ Inv enc μ I m' vs σ :=
  ⟨_, h2, a, h1, rfl, h3⟩
end Go.AD
