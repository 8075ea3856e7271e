/- Rows of bytes, as they were built or grown; rows of texts. -/
import Derived.Test.YtjgjmpophpifgaaDoorLb
set_option linter.unusedVariables false
set_option linter.unusedSimpArgs false
set_option maxRecDepth 100000
namespace Go.AD.Lx
open Go.Proofs
section
variable {σ0 σ : AS} {K : AV → AS → Prop}
theorem rowTB : RowT PS 30 5 := ⟨T.el30, by rw [T.sz5]; decide, _, T.zo5, by rw [T.sz5]; rfl⟩
/-- A row of bytes, as it was built or grown. -/
def RowF (v : AV) (L : Objs) (l : List UInt8) : Prop := RowV PS 5 v L l.length (pvBytes l) ∨ (v = .full l.length (pvBytes l) ∧ L = [])
theorem RowF.toPV {v : AV} {L : Objs} {l : List UInt8} (h : RowF v L l) : AD.toPV v = some (.lst l.length (pvBytes l)) := by
  rcases h with h | ⟨rfl, rfl⟩
  · exact h.toPV
  · rfl
theorem RowF.append {v x : AV} {L Y : Objs} {l r : List UInt8} (G : RowF v L l) (hS : Sep σ0 σ (Y ++ L)) (hx : ∀ σ, shown PS σ 5 x = some (r.length, pvBytes r)) (hr : r ≠ []) (hb : l.length + r.length ≤ 100000000)
    (hK : ∀ v' L' σ', RowF v' L' (l ++ r) → Sep σ0 σ' (Y ++ L') → K v' σ') : appendD PS false σ 30 v x K := by
  have hp : 0 < r.length := List.length_pos_iff.2 hr
  have hlen : (pvBytes (l ++ r)).length = (l ++ r).length * szOf PS 5 := by rw [pvBytes_len, T.sz5, Nat.mul_one]
  rcases G with G | ⟨rfl, rfl⟩
  · refine G.append hS rowTB (hx σ) (by rw [pvBytes_len, T.sz5]; omega) hp (by rw [T.by5]; omega) (by omega) ?_
    intro v' L' σ' h1 h2
    exact hK v' L' σ' (.inl (by rw [List.length_append, pvBytes_app]; exact h1)) h2
  · obtain ⟨h1, h2, z, h3, h4⟩ := rowTB
    have hne : r.length ≠ 0 := by omega
    simp only [appendD, appendCore, h1, h2, h3, h4, hx σ, true_and, hne, if_false]
    refine ⟨by rw [pvBytes_len, T.sz5]; omega, by rw [pvBytes_len, T.sz5]; omega, by rw [T.by5]; omega, by omega, ?_⟩
    simp only [newRowD, Bool.false_eq_true, if_false, toPVs_pv]
    intro id hid
    have h5 := hS.alloc hid (.front (l.length + r.length) (szOf PS 5) (some 5))
    refine hK _ [(id, .front (l ++ r).length (szOf PS 5) (some 5))] _ (.inl ⟨hlen, .inr ⟨id, _, ?_, rfl⟩⟩) ?_
    · rw [pvBytes_app, List.length_append]
    · rw [List.length_append]
      refine h5.perm ?_
      simpa using List.perm_append_comm (l₁ := [(id, AObj.front (l.length + r.length) (szOf PS 5) (some 5))]) (l₂ := Y)

theorem RowF.nil : RowF .nilS [] [] := .inl (RowV.nil PS 5)
def ixS : Nat → List (List UInt8) → List (Nat × AV)
  | _, [] => []
  | i, x :: l => (i, .pv (.str x)) :: ixS (i + 1) l
theorem fill_strs : ∀ (l : List (List UInt8)) (i : Nat), elemsFill 1 i (ixS i l) = some (l.map fun x => .pv (.str x))
  | [], _ => rfl
  | x :: l, i => by
    rw [ixS, elemsFill]
    simp [AV.cells, AV.cellOk, fill_strs l (i + 1)]
theorem build_strs (l : List (List UInt8)) {K : AV → AS → Prop} (hl : l.length ≤ 1000) : buildSliceD PS false σ 27 l.length l.length (ixS 0 l) K = K (.full l.length (l.map .str)) σ := by
  have e : toPVs (l.map fun x => AV.pv (.str x)) = some (l.map .str) := by
    have := toPVs_pv (l.map PV.str)
    rwa [List.map_map] at this
  have hz : l.length ≤ 16777216 := by omega
  simp [buildSliceD, T.el27, T.hT9, T.sz9, T.zo9, fill_strs, e, hz]
end
end Go.AD.Lx
