/- What comes in, for the rows: a slice of texts; a byte. -/
import Derived.Test.YtjgjmpophpifgaaDoorAd16
import Derived.SliceStrings
set_option maxRecDepth 100000
set_option linter.unusedVariables false
set_option linter.unusedSimpArgs false
namespace Go.AD
open Go.ChangeShapes Go.WideShapes
theorem start_strs (W : World) (a : Option Addr) (len cap : Nat) (ss : List ByteArray)
    (h : (a = none ∧ len = 0 ∧ cap = 0 ∧ ss = []) ∨ ∃ x, a = some x ∧ len ≤ cap ∧ ss.length = cap ∧ (∀ i, i < ss.length → W.cell? (x.add i) = some (.string (ss.getD i ByteArray.empty)))) :
    RelV (Gh.start W) (.pv (.lst len (((ss.take len).map fun s => s.data.toList).map .str))) (.slice a len cap) := by
  rcases h with ⟨rfl, rfl, rfl, rfl⟩ | ⟨x, rfl, hl, hz, hc⟩
  · exact .pv (.lst 0 [] none 0 0 0 [] (Nat.le_refl _) (.inl rfl) rfl (fun i h => absurd h (by simp)) (fun i h => absurd h (by simp)))
  · have hspot : 0 < len → x = ⟨x.block, x.off, none⟩ := by
      intro h0
      have := hc 0 (by omega)
      simp only [Addr.add, if_true] at this
      unfold World.cell? at this
      obtain ⟨b, o, sp⟩ := x
      cases sp with
      | none => rfl
      | some s =>
        simp at this
        split at this <;> simp at this
    refine .pv (.lst len _ _ cap x.block x.off ((ss.take len).map .string) hl ?_ (by simp) ?_ ?_)
    · rcases Nat.eq_zero_or_pos len with h0 | h0
      · left; subst h0; simp
      · right; rw [← hspot h0]
    · intro i hi
      simp only [List.length_map, List.length_take] at hi
      have hc' := hc i (by omega)
      have hx := hspot (by omega)
      rw [hx, Addr.add_lit] at hc'
      show W.cell? ⟨x.block, x.off + i, none⟩ = _
      rw [hc']
      have h2 : i < ss.length := by omega
      simp [List.getD_eq_getElem?_getD, List.getElem?_take, show i < len by omega, h2]
    · intro i hi
      simp only [List.length_map, List.length_take] at hi
      have h2 : i < ss.length := by omega
      simp [List.getD_eq_getElem?_getD, List.getElem?_take, show i < len by omega, h2]
      have := start_str W ss[i]
      cases this with | pv h => exact h
theorem weights_strs {H : Type} {P : Program} {e : TypeId} : ∀ (ss : List ByteArray), ∀ s ∈ ss, s.data.toList.length ∈ DataW.weightsAll P e (strs (H := H) ss)
  | s0 :: ss, s, h => by
    have e1 : strs (H := H) (s0 :: ss) = .lit (.string s0.data.toList) :: strs ss := rfl
    rw [e1, DataW.weightsAll, DataW.weights, List.mem_append]
    rcases List.mem_cons.1 h with rfl | h
    · left; simp
    · right; exact weights_strs ss s h
theorem strs_in {P : Program} {H : Type} {enc : TypeId × Value → H} {W : World} {t e : TypeId} {a : Option Addr} {len cap : Nat} {d : DataW H} {ps : List MemPlace} {ts : List TypeId} {ds : List (DataW H)} {j : Nat}
    (hsz : (DataW.weightsEach P ts ds).all (· ≤ reachBytes) = true) (ht : ts[j]? = some t) (hd : ds[j]? = some d) (hu : P.underlying t = some (.slice e)) (he : P.underlying e = some .string) (hc : P.cellsOf e = 1)
    (h : DataW.Trod enc P W 0 (fun _ => true) true t (.slice a len cap) d ps) :
    ∃ l : List (List UInt8), l.length = len ∧ (∀ x ∈ l, x.length ≤ 140737488351232) ∧ RelV (Gh.start W) (.pv (.lst l.length (l.map .str))) (.slice a len cap) := by
  obtain ⟨fuel, hf⟩ := h
  rcases open_strings hu he hc hf with ⟨hcs, _⟩ | ⟨x, l, c, ss, hcs, _, hl, hm, hz, hx, hcell, _⟩
  · simp [Value.cells] at hcs
    obtain ⟨rfl, rfl, rfl⟩ := hcs
    exact ⟨[], rfl, by simp, start_strs W none 0 0 [] (.inl ⟨rfl, rfl, rfl, rfl⟩)⟩
  · simp [Value.cells] at hcs
    obtain ⟨rfl, rfl, rfl⟩ := hcs
    obtain ⟨hx, _⟩ := Prod.mk.inj hx
    subst hx
    have hz : ss.length = cap := by simpa using hz
    have hlen : ((ss.take len).map fun s => s.data.toList).length = len := by rw [List.length_map, List.length_take]; omega
    refine ⟨(ss.take len).map fun s => s.data.toList, hlen, ?_, ?_⟩
    · intro x hx
      obtain ⟨s, hs, rfl⟩ := List.mem_map.1 hx
      have h1 := weights_strs (H := H) (P := P) (e := e) (ss.take len) s hs
      have h2 : s.data.toList.length ∈ (DataW.slice (strs (H := H) (ss.take len)) (strs (ss.drop len))).weights P t := by
        simp only [DataW.weights, hu, List.mem_cons, List.mem_append]
        exact .inr (.inl h1)
      have := List.all_eq_true.1 hsz _ (DataW.weights_mem_each ht hd _ h2)
      exact of_decide_eq_true this
    rw [hlen]
    exact start_strs W (some x) len cap ss (.inr ⟨x, rfl, hl, hz, hcell⟩)
theorem byte_of {n : Int} (h : (Lit.int .u8 n).wf = true) : ∃ c : UInt8, n = (c.toNat : Int) := by
  simp [Lit.wf, IntKind.min, IntKind.max, IntKind.signed, IntKind.bits] at h
  refine ⟨UInt8.ofNat n.toNat, ?_⟩
  have : (UInt8.ofNat n.toNat).toNat = n.toNat % 256 := by simp
  rw [this]
  omega
end Go.AD
