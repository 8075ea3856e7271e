/- strings.Builder's functions without a text in the calculus: sound. -/
import Derived.Test.YtjgjmpophpifgaaDoorB1
import Derived.Test.YtjgjmpophpifgaaDoorAd15
import Derived.Test.YtjgjmpophpifgaaDoorTy
set_option linter.unusedVariables false
namespace Go.AD
open Go.Proofs RowKit
theorem relNilPtr {ρ : Gh} {u : Value} (h : RelV ρ (.pv .nilPtr) u) : u = .pointer none := by
  cases h with | pv h => cases h; rfl
/-- The copy check: the builder is used behind it. -/
def T_copyCheck : Tr := fun args σ K _ => ∃ id p buf, args = [.addr id 0] ∧ σ id = some (.cells [p, buf] (some 75)) ∧ (p = .pv .nilPtr ∨ p = .addr id 0) ∧ K (.tuple []) (σ.set id (.cells [.addr id 0, buf] (some 75)))
theorem F_copyCheck : SoundF Tryd.prog 96 T_copyCheck := by
  rintro w0 hS ρ σ w args us K X H hr ⟨id, p, buf, rfl, ho, hp, hK⟩
  obtain ⟨u, us', rfl, hu, hnil⟩ := hr.uncons
  obtain rfl : us' = [] := hnil.nil_inv
  obtain ⟨b, o, m, cur, e, fz, hl, hB, hb, hf, hm, hle, hok, hrr, hi, hvar⟩ := H.obj id _ ho
  obtain ⟨rfl, rfl, hsz⟩ := hvar 75 rfl
  obtain ⟨b', o', m', rfl, hl'⟩ := inv_addr hu
  rw [hl] at hl'
  cases hl'
  refine ⟨Tryd.call96 _ w, ?_⟩
  have hsz2 : cur.size = 2 := by simpa using hsz
  obtain ⟨b0, o0, m0, vs, q1, _, q3, _, q5⟩ := cells_at H ho
  rw [hl] at q1
  cases q1
  obtain ⟨v0, vs', rfl, r0, r1⟩ := q3.uncons
  have c0 : w.cell? ⟨b, 0, none⟩ = some v0 := q5 0 v0 rfl
  rcases hp with rfl | rfl
  · have e0 := relNilPtr r0
    subst e0
    have hsh : w.shape? b = some (75, 2) := by simp [World.shape?, hb, hsz2]
    have hst : storeD Tryd.prog σ 73 (.addr id 0) (.addr id 0) fun σ => K (.tuple []) σ := by
      rw [store_addr (by kernel_rfl) (by rw [T.sz73]; rfl) rfl ho]
      exact ⟨by simp [AV.cells], hK⟩
    obtain ⟨σ', w', k1, k2, k3⟩ := store_sound H hst hu hu
    have hfz : w.frozen? ⟨b, 0, none⟩ = false := frozen_no hb hf (by omega)
    refine (copyCheck_fresh b w c0 hsh hfz).mono fun e W' ⟨he, hW⟩ => ?_
    subst he hW
    have ew : w' = w.setCell ⟨b, 0, none⟩ (.pointer (some ⟨b, 0, none⟩)) := by
      have hst2 := run_storeCells_cells (P := Tryd.prog) b 0 [.pointer (some ⟨b, 0, none⟩)] 0 w
        (fun j hj => by
          have : j = 0 := by simpa using hj
          subst this
          simp [c0])
        (fun j hj => by
          have : j = 0 := by simpa using hj
          subst this
          simpa using hfz) (fun u hu => by
          have : u = .pointer (some ⟨b, 0, none⟩) := by simpa using hu
          subst this; rfl)
      have k : (Instr.storeAt 73 (.pointer (some ⟨b, 0 + 0, none⟩)) (.pointer (some ⟨b, 0 + 0, none⟩))).run Tryd.prog w = .ok () (w.setCells b 0 [.pointer (some ⟨b, 0, none⟩)]) := by
        have hs : (inf Tryd.prog 73).isSome = true := by kernel_rfl
        simp [Instr.storeAt, Instr.sureAddr, storeVar, run_size hs, T.sz73, Value.cells] at hst2 ⊢
        exact hst2
      rw [k] at k1
      cases k1
      rfl
    rw [ew] at k2
    exact ⟨ρ, σ', Gh.le_refl ρ, k2, .tuple [], .of_tuple (.nil ρ), k3⟩
  · have e0 := inv_addr r0
    obtain ⟨b2, o2, m2, rfl, hl2⟩ := e0
    rw [hl] at hl2
    cases hl2
    refine (copyCheck_used b w c0).mono fun e W' ⟨he, hW⟩ => ?_
    subst he hW
    rw [AS.set_id ho] at hK
    exact ⟨ρ, σ, Gh.le_refl ρ, H, .tuple [], .of_tuple (.nil ρ), hK⟩
theorem freeze_other (w : World) (a : Addr) (n k : Nat) (h : k ≠ a.block) : (w.freeze a n).heap[k]? = w.heap[k]? := by
  unfold World.freeze
  split
  · rfl
  · simp [Array.getElem?_modify, Ne.symm h]
theorem freeze_cell (w : World) (a : Addr) (n : Nat) (b o : Nat) : (w.freeze a n).cell? ⟨b, o, none⟩ = w.cell? ⟨b, o, none⟩ := by
  by_cases h : b = a.block
  · subst h
    unfold World.freeze
    split
    · rfl
    · simp only [World.cell?, Array.getElem?_modify, if_true]
      cases e : w.heap[a.block]? with
      | none => rfl
      | some ob => cases ob <;> rfl
  · exact World.cell?_of_block (freeze_other w a n b h)
/-- A builder's bytes as a text. -/
def T_String : Tr := fun args σ K _ => ∃ id p buf, args = [.addr id 0] ∧ σ id = some (.cells [p, buf] (some 75)) ∧
  ((buf = .nilS ∧ K (.pv (.str [])) σ) ∨ ∃ g l, buf = .grow g l.length (pvBytes l) ∧ l ≠ [] ∧ σ g = some (.front l.length 1 (some 5)) ∧ K (.pv (.str l)) (σ.del g))
theorem F_String : SoundF Tryd.prog 48 T_String := by
  rintro w0 hS ρ σ w args us K X H hr ⟨id, p, buf, rfl, ho, hK⟩
  obtain ⟨u, us', rfl, hu, hnil⟩ := hr.uncons
  obtain rfl : us' = [] := hnil.nil_inv
  obtain ⟨b0, o0, m0, vs, q1, _, q3, _, q5⟩ := cells_at H ho
  obtain ⟨v0, vs', rfl, r0, r1⟩ := q3.uncons
  obtain ⟨v1, vs'', rfl, r1, _⟩ := r1.uncons
  obtain ⟨b, o, m, cur, e, fz, hl, hB, hb, hf, hm, hle, hok, hrr, hi, hvar⟩ := H.obj id _ ho
  obtain ⟨rfl, rfl, hsz⟩ := hvar 75 rfl
  obtain ⟨b', o', m', rfl, hl'⟩ := inv_addr hu
  rw [hl] at hl' q1
  have e1 : b = b' ∧ b = b0 ∧ 0 = o' ∧ 0 = o0 := by
    simp only [Option.some.injEq, Prod.mk.injEq] at hl' q1
    omega
  obtain ⟨rfl, rfl, rfl, rfl⟩ := e1
  have c1 : w.cell? ⟨b, 1, none⟩ = some v1 := by simpa using q5 1 v1 rfl
  refine ⟨Tryd.call48 _ w, ?_⟩
  rcases hK with ⟨rfl, hK⟩ | ⟨g, l, rfl, hl0, hg, hK⟩
  · cases r1
    refine (string_nil b w c1).mono fun e W' ⟨he, hW⟩ => ?_
    subst he hW
    exact ⟨ρ, σ, Gh.le_refl ρ, H.drawn _, _, mkStr ρ [], hK⟩
  · cases r1 with
    | grow _ _ _ b1 o1 cap ws hlin hn hlen hi' hr' =>
      obtain ⟨b2, o2, cap2, cur2, e2, fz2, hlin2, hB2, hb2, hf2, hn2, hc2, hs2, hii, hkk, hmk⟩ := H.obj g _ hg
      rw [hlin] at hlin2
      cases hlin2
      obtain ⟨rfl, rfl⟩ := hmk 5 rfl
      have hpl : (pvBytes l).length = l.length := by simp [pvBytes]
      refine (string_row b b1 v0 cap cur2 l w c1 hl0 (by simp [World.shape?, hb2]) hn hc2 (by omega) ?_).mono fun e W' ⟨he, hW⟩ => ?_
      · intro j x hx
        rw [Addr.add_lit]
        have hj : j < l.length := (List.getElem?_eq_some_iff.1 hx).1
        have h1 := ImmAt.cell H hi' j (ws.getD j undef) (by rw [List.getD_eq_getElem?_getD, List.getElem?_eq_getElem (by omega)]; rfl)
        have h2 := hr' j (by omega)
        have h3 : (pvBytes l)[j]'(by omega) = .int .u8 x.toNat := by
          have := (List.getElem?_eq_some_iff.1 hx).2
          simp [pvBytes, this]
        rw [h3] at h2
        have h4 : ws.getD j undef = .int .u8 x.toNat := by
          generalize ws.getD j undef = y at h2
          cases h2
          rfl
        rw [h1, h4]
      · subst he hW
        have Hd := (H.sub (AS.del_sub σ g)).drawn (w.drawn + 1)
        have hbel : Below w0.heap.size w0 (w.drew.freeze ⟨b1, 0, none⟩ l.length) := Lib.below_freeze Hd.below hB2 _
        refine ⟨ρ, σ.del g, Gh.le_refl ρ, Hd.keep (Gh.le_refl ρ) hbel (fun b o v hv => ?_) (fun j oj b3 hoj hbj => ?_) ?_, _, mkStr ρ l, hK⟩
        · rw [freeze_cell]
          exact Hd.imm b o v hv
        · refine ⟨freeze_other _ _ _ _ (fun he => ?_), fun _ => rfl, fun _ => rfl⟩
          have hj : j ≠ g := fun he => by subst he; simp [AS.del] at hoj
          refine hj (H.apart j g oj _ (AS.del_sub σ g j oj hoj) hg ?_)
          rw [hbj]
          simp only [blkOf, hlin, Option.map_some]
          exact congrArg some he
        · exact Hd.bound
end Go.AD
