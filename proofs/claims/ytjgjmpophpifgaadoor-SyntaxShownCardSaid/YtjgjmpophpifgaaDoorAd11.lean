/- All operations: what the calculus says of them is what the model does. -/
import Derived.Test.YtjgjmpophpifgaaDoorAd10
import Derived.Laws.IdiomStrings
import Derived.Laws.MakeOwn
set_option linter.unusedVariables false
set_option linter.unusedSimpArgs false
namespace Go.AD
open RowKit

section
variable {P : Program} {w0 w w' : World} {ρ ρ' : Gh} {σ : AS}

/-- What a transformer says of a function of the program. -/
def SoundF (P : Program) (f : FuncId) (T : Tr) : Prop :=
  ∀ (w0 : World), Ready P w0 → ∀ (ρ : Gh) (σ : AS) (w : World) (args : List AV) (us : List Value) (K : AV → AS → Prop) (X : PV → AS → Prop), RelH w0 ρ σ w → RelL ρ args us → T args σ K X →
    (callFunc f us.toArray).run P w = .ok (.enter f us.toArray) w ∧
    Calls P f us.toArray w fun e w' => ∃ ρ' σ', ρ.le ρ' ∧ RelH w0 ρ' σ' w' ∧ match e with
      | .returned u => ∃ r, RelV ρ' r u ∧ K r σ'
      | .panicked ch => ∃ p u, ch = [{ v := u, recovered := false }] ∧ RelP ρ'.imm p u ∧ X p σ'
      | .outgrown => False
def EnvOk (P : Program) (env : Env) : Prop := ∀ f, SoundF P f (env f)

theorem heap_push (w : World) (o : Obj) : ({ w with heap := w.heap.push o } : World) = w.alloc o := rfl
theorem elemsFill_sound {sz : Nat} : ∀ (parts : List (Nat × AV)) (i : Nat) (parts' : List (Nat × Value)) (cs : List AV) (arr : Array Value), RelParts ρ parts parts' → elemsFill sz i parts = some cs → arr.size = (i + parts.length) * sz →
    ∃ out us, Instr.fill (fun i => some (i * sz, sz)) arr parts' = some out ∧ out.toList = arr.toList.take (i * sz) ++ us ∧ RelL ρ cs us ∧ us.length = parts.length * sz ∧ cs.all AV.cellOk = true
  | [], i, parts', cs, arr, h, he, hs => by
    cases parts' with
    | cons _ _ => exact h.elim
    | nil =>
      simp [elemsFill] at he
      subst he
      refine ⟨arr, [], rfl, ?_, .nil ρ, by simp, rfl⟩
      rw [List.append_nil, List.take_of_length_le (by simp at hs; simp [hs])]
  | (j, a) :: parts, i, parts', cs, arr, h, he, hs => by
    cases parts' with
    | nil => exact h.elim
    | cons p' parts' =>
      obtain ⟨j', v⟩ := p'
      obtain ⟨rfl, hv, hr⟩ := h
      simp only [elemsFill] at he
      split at he
      · rename_i hc
        obtain ⟨rfl, h1, h2⟩ := hc
        cases hrest : elemsFill sz (i + 1) parts with
        | none => simp [hrest] at he
        | some rest =>
          simp [hrest] at he
          subst he
          have hcr := cells_rel hv h2
          have hvs : v.cells.toList.length = sz := by rw [hcr.1, h1]
          have hle : i * sz + sz ≤ arr.size := by rw [hs, ← Nat.succ_mul]; exact Nat.mul_le_mul_right _ (by simp)
          obtain ⟨out, us, e1, e2, e3, e4, e5⟩ := elemsFill_sound parts (i + 1) parts' rest (setV arr.toList (i * sz) v.cells.toList).toArray hr hrest
            (by simp only [List.size_toArray, setV_length, Array.length_toList, hs, List.length_cons]; congr 1; omega)
          refine ⟨out, v.cells.toList ++ us, ?_, ?_, hcr.append e3, ?_, ?_⟩
          · rw [fill_cons _ arr i v parts' (o := i * sz) (sz := sz) rfl (by simpa using hvs) hle]
            exact e1
          · rw [e2]
            rw [setV_eq _ _ _ (by simp [hvs]; omega)]
            have hl : (arr.toList.take (i * sz) ++ v.cells.toList).length = (i + 1) * sz := by
              rw [List.length_append, hvs, List.length_take, Array.length_toList, Nat.min_eq_left (by omega), Nat.succ_mul]
            rw [List.take_append_of_le_length (by rw [hl]; exact Nat.le_refl _), List.take_of_length_le (by rw [hl]; exact Nat.le_refl _), List.append_assoc]
          · rw [List.length_append, hvs, e4, List.length_cons, Nat.succ_mul, Nat.add_comm]
          · rw [List.all_append, h2, e5]; rfl
      · cases he
theorem flat_get {α : Type} (z : List α) (hz : 0 < z.length) : ∀ (l i : Nat), i < l * z.length → (List.flatten (List.replicate l z))[i]? = z[i % z.length]?
  | 0, i, h => by simp at h
  | l + 1, i, h => by
    rw [List.replicate_succ, List.flatten_cons]
    by_cases hi : i < z.length
    · rw [List.getElem?_append_left hi, Nat.mod_eq_of_lt hi]
    · have e := Nat.mod_eq_sub_mod (a := i) (b := z.length) (by omega)
      rw [List.getElem?_append_right (by omega), flat_get z hz l _ (by rw [Nat.succ_mul] at h; omega), e]
theorem flat_len {α : Type} (z : List α) (l : Nat) : (List.flatten (List.replicate l z)).length = l * z.length := by
  induction l with
  | zero => simp
  | succ l ih => rw [List.replicate_succ, List.flatten_cons, List.length_append, ih, Nat.succ_mul, Nat.add_comm]
theorem flat_rel {cs : List AV} {vs : List Value} (h : RelL ρ cs vs) (l : Nat) : RelL ρ (List.flatten (List.replicate l cs)) (List.flatten (List.replicate l vs)) := by
  induction l with
  | zero => exact .nil ρ
  | succ l ih => rw [List.replicate_succ, List.replicate_succ, List.flatten_cons, List.flatten_cons]; exact h.append ih
theorem made_take (z : Array Value) (hz : 0 < z.size) (l c : Nat) (hlc : l ≤ c) : (madeCells z (c * z.size)).toList.take (l * z.size) = List.flatten (List.replicate l z.toList) := by
  have hlen : l * z.size ≤ c * z.size := Nat.mul_le_mul_right _ hlc
  apply List.ext_getElem?
  intro i
  by_cases hi : i < l * z.size
  · rw [List.getElem?_take, if_pos hi, flat_get z.toList (by simpa using hz) l i (by simpa using hi)]
    have hm : i % z.size < z.size := Nat.mod_lt _ hz
    simp [madeCells, show i < c * z.size by omega, hm]
  · rw [List.getElem?_eq_none (by simp only [List.length_take]; omega), List.getElem?_eq_none (by rw [flat_len]; simp; omega)]

/-- The cut of a row that may grow takes its place. -/
theorem takeOver_sound (H : RelH w0 ρ σ w) {t : TypeId} {x : AV} {lo hi : Option AV} {K : AV → AS → Prop} (h : takeOverD P σ t x lo hi K) {u : Value} {lo' hi' : Option Value} (hu : RelV ρ x u) (hlo : RelO ρ lo lo') (hhi : RelO ρ hi hi') :
    ∃ ρ' σ' a r, (Instr.sliceAt t u lo' hi' none).run P w = .ok r w ∧ ρ.le ρ' ∧ RelH w0 ρ' σ' w ∧ RelV ρ' a r ∧ K a σ' := by
  unfold takeOverD at h
  split at h
  · rename_i id n cs k l2 e he
    obtain ⟨hs, ⟨mk, ho⟩, hcl, h0, h01, hK⟩ := h
    cases hi' with
    | some v => exact hhi.elim
    | none =>
    cases lo' with
    | none => exact hlo.elim
    | some v =>
    rw [relInt (x := .undef) (show RelV ρ _ v from hlo)]
    cases hu with
    | grow _ _ _ b o cap vs hlin hnc hl hi2 hr =>
      obtain ⟨b', o', cap', cur, e', fz, hlin', hB, hb, hf, hnc', hcm, hfit, hii, hkk, _⟩ := H.obj id _ ho
      rw [hlin] at hlin'
      cases hlin'
      obtain ⟨l, rfl⟩ := Int.eq_ofNat_of_zero_le h0
      simp only [Int.toNat_natCast] at hK
      have hln : l ≤ n := by omega
      have hrun := run_slice_slice (P := P) (w := w) (A := some ⟨b, o, none⟩) (n := n) (cap := cap) (l := l) (r := n) (lo := some (.int k (l : Int))) (hi := none) (elOf_some he) hs
        (by simp [Instr.sliceBounds, bound_run _ h0 h01])
      have hpl : RelPL ρ.imm cs vs := ⟨hl, hr⟩
      have hsub : l * szOf P e + (cap - l) * szOf P e = cap * szOf P e := by rw [← Nat.add_mul]; congr 1; omega
      have hn2 : l * szOf P e + (n - l) * szOf P e = n * szOf P e := by rw [← Nat.add_mul]; congr 1; omega
      have Hd := H.sub (AS.del_sub σ id)
      have hap : ∀ j oj, (σ.del id) j = some oj → blkOf ρ j oj ≠ some b := fun j oj hj he => by
        have hjid : j ≠ id := fun he => by subst he; simp [AS.del] at hj
        exact hjid (H.apart j id oj _ (AS.del_sub σ id j oj hj) ho (by rw [he]; simp [blkOf, hlin]))
      have hfin : ∀ id2, (∀ k, ρ.lin id2 k = none) → (σ.del id) id2 = none → σ id2 = none := fun id2 g0 g1 => by
        have hne : id2 ≠ id := fun he => by subst he; rw [g0] at hlin; cases hlin
        have : (σ.del id) id2 = σ id2 := by simp [AS.del, hne]
        rw [← this]
        exact g1
      by_cases hc : cap = l
      · subst hc
        have hcn : n = cap := by omega
        subst hcn
        rw [if_pos rfl] at hrun
        obtain ⟨id2, ρ', g1, g0, g2, g3, g4⟩ := Hd.newLine b hB cur e' fz hb hf o (n - n) (n - n) (szOf P e) (Nat.le_refl _) (by omega) (by simp; omega) (fun hlt => absurd hlt (Nat.lt_irrefl _)) hap none (fun e' he => by cases he)
        refine ⟨ρ', _, _, _, hrun, g2, g4, ?_, hK id2 (hfin id2 g0 g1)⟩
        have e1 : cs.drop (n * szOf P e) = [] := List.drop_eq_nil_of_le (by omega)
        rw [e1]
        exact .grow id2 (n - n) [] b o (n - n) [] g3 (Nat.le_refl _) rfl (fun i hi => absurd hi (by simp)) (fun i hi => absurd hi (by simp))
      · rw [if_neg hc] at hrun
        simp only [Option.map_some, Addr.add_lit] at hrun
        obtain ⟨id2, ρ', g1, g0, g2, g3, g4⟩ := Hd.newLine b hB cur e' fz hb hf (o + l * szOf P e) (n - l) (cap - l) (szOf P e) (by omega) (by omega) (by omega)
          (fun hlt p v hv => by have := hii (by omega) p v hv; omega) hap none (fun e' he => by cases he)
        refine ⟨ρ', _, _, _, hrun, g2, g4, ?_, hK id2 (hfin id2 g0 g1)⟩
        have hcut := hpl.cut (l * szOf P e) cs.length
        have hicut := hi2.cut (l * szOf P e) cs.length
        have hvt : vs.take cs.length = vs := List.take_of_length_le (by omega)
        rw [List.take_length] at hcut
        rw [hvt] at hcut hicut
        exact .grow id2 (n - l) _ b (o + l * szOf P e) (cap - l) (vs.drop (l * szOf P e)) g3 (by omega) hcut.1 (fun i hi => g2.imm _ _ _ (hicut i hi)) (fun i hi => (hcut.2 i hi).mono g2.imm)
  · exact h.elim
end
end Go.AD
