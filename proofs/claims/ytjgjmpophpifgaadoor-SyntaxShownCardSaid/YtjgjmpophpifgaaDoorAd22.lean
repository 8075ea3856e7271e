/- A row that was written in its place is handed on as one that never turns again. -/
import Derived.Test.YtjgjmpophpifgaaDoorAd14
import Derived.Test.YtjgjmpophpifgaaDoorAd18
set_option linter.unusedVariables false
set_option linter.unusedSimpArgs false
namespace Go.AD
open RowKit
section
variable {P : Program} {w0 w : World} {ρ ρ' : Gh} {σ : AS}
/-- Below a block that is forgotten, all is as it was; of its cells it is known what they hold. -/
theorem RelH.freeze (H : RelH w0 ρ σ w) {id n size : Nat} {cs : List AV} {var : Option TypeId} {ps : List PV} (ho : σ id = some (.cells cs var)) (hp : toPVs (cs.take (n * size)) = some ps) {u : Value} (hu : RelV ρ (.msl id 0 n size) u) :
    ∃ ρ', ρ.le ρ' ∧ RelH w0 ρ' (σ.del id) w ∧ RelV ρ' (.pv (.lst n ps)) u := by
  obtain ⟨b, o, m, cur, e, fz, hl, hB, hb, hf, hs, hle, hok, hr, hi, hvar⟩ := H.obj id _ ho
  cases hu with
  | msl _ _ _ _ b' o' m' cap hl' hn hc hm =>
    rw [hl] at hl'
    cases hl'
    have hr2 := hr.take (n * size)
    have hlen := hr2.1
    generalize hvs : ((cur.toList.drop o).take cs.length).take (n * size) = vs at hr2 hlen
    have hrp := toPVs_rel hr2 hp
    have hle1 : ρ.le (ρ.ext b o vs) := Gh.le_ext (fun o' v h _ => hi o' v h)
    have hcell : ∀ i v, vs[i]? = some v → w.cell? ⟨b, o + i, none⟩ = some v := by
      intro i v hv
      rw [← hvs, List.getElem?_take] at hv
      split at hv
      · rw [List.getElem?_take] at hv
        split at hv
        · rw [List.getElem?_drop] at hv
          unfold World.cell?
          simp only [hb]
          simpa using hv
        · cases hv
      · cases hv
    refine ⟨ρ.ext b o vs, hle1, ?_, ?_⟩
    · have hsub : (σ.del id).sub σ := fun j oj hj => by
        unfold AS.del at hj
        split at hj
        · cases hj
        · exact hj
      refine RelH.keep (H.sub hsub) hle1 H.below ?_ ?_ ?_
      · intro b' o' v hv
        rcases Gh.ext_inv hv with ⟨rfl, h1, h2, h3⟩ | h
        · have := hcell _ _ h3
          rwa [Nat.add_sub_cancel' h1] at this
        · exact H.imm _ _ _ h
      · intro j oj b' hj hbj
        have hne : j ≠ id := by
          rintro rfl
          rw [del_same] at hj
          cases hj
        have hjσ := hsub j oj hj
        refine ⟨rfl, fun p => ?_, fun k => rfl⟩
        refine Gh.ext_other ρ b o vs ?_ p
        rintro rfl
        exact hne (H.apart j id oj _ hjσ ho (by rw [hbj]; simp [blkOf, hl]))
      · obtain ⟨N, hN⟩ := (H.sub hsub).bound
        exact ⟨N, fun j hj => hN j hj⟩
    · refine .pv (.lst n ps _ cap b o vs hn (.inr (by simp)) hrp.1 (Gh.ext_at ρ b o vs) (fun i hi => (hrp.2 i hi).mono hle1.imm))
/-- What is asked of a result, or of the same with its first part handed on so. -/
def frzK (K : AV → AS → Prop) : AV → AS → Prop := fun r σ => K r σ ∨ ∃ (id n size : Nat) (cs : List AV) (var : Option TypeId) (ps : List PV) (rest : List AV), r = .tuple (.msl id 0 n size :: rest) ∧ σ id = some (.cells cs var) ∧ toPVs (cs.take (n * size)) = some ps ∧ K (.tuple (.pv (.lst n ps) :: rest)) (σ.del id)
theorem SoundF.frz {f : FuncId} {T : Tr} (S : SoundF P f (fun args σ K' X => ∃ K, K' = frzK K ∧ T args σ K X)) : SoundF P f T := by
  intro w0 hS ρ σ w args us K X H hr h
  obtain ⟨h1, h2⟩ := S w0 hS ρ σ w args us (frzK K) X H hr ⟨K, rfl, h⟩
  refine ⟨h1, h2.mono fun e w' hh => ?_⟩
  obtain ⟨ρ', σ', hle, H', hh⟩ := hh
  cases e with
  | returned u =>
    obtain ⟨r, hru, hk | ⟨id, n, size, cs, var, ps, rest, rfl, ho, hp, hk⟩⟩ := hh
    · exact ⟨ρ', σ', hle, H', r, hru, hk⟩
    · obtain ⟨vs, rfl, hvs⟩ := inv_tuple hru
      obtain ⟨v0, vs', rfl, hv0, hvr⟩ := hvs.uncons
      obtain ⟨ρ2, hle2, H2, hv2⟩ := H'.freeze ho hp hv0
      exact ⟨ρ2, σ'.del id, Gh.le_trans hle hle2, H2, _, RelV.of_tuple (.cons hv2 (hvr.mono hle2)), hk⟩
  | panicked ch => exact ⟨ρ', σ', hle, H', hh⟩
  | outgrown => exact hh.elim
end
end Go.AD
