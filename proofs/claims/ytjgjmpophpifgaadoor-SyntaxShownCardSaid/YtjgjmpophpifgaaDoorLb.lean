/- The library's functions in the calculus: texts; strings.Builder beside a parted store. -/
import Derived.Test.YtjgjmpophpifgaaDoorB2
import Derived.Test.YtjgjmpophpifgaaDoorSh
import Derived.Test.YtjgjmpophpifgaaDoorG2
import Derived.Test.YtjgjmpophpifgaaDoorTz
import Derived.Test.YtjgjmpophpifgaaDoorAd19
set_option linter.unusedVariables false
set_option linter.unusedSimpArgs false
set_option maxRecDepth 100000
namespace Go.AD
open Go.Proofs RowKit
noncomputable abbrev PS := Go.Proofs.Tryd.prog
theorem toList_mk (s : List UInt8) : (⟨s.toArray⟩ : ByteArray).data.toList = s := by simp
theorem var0 {w0 w : World} {ρ : Gh} {σ : AS} (hS : Ready PS w0) (H : RelH w0 ρ σ w) : ∃ m, w.cell? ⟨1, 0, none⟩ = some (.int .i64 m) := by
  obtain ⟨m, hm⟩ : ∃ m, w0.cell? ⟨1, 0, none⟩ = some (.int .i64 m) := Tryd.laysM143.s1_3 w0 hS.shaped
  have hsz : 1 < w0.heap.size := by
    rcases Nat.lt_or_ge 1 w0.heap.size with h | h
    · exact h
    · exfalso
      have h1 : w0.heap[1]? = none := Array.getElem?_eq_none h
      have h2 : w0.cell? ⟨1, 0, none⟩ = none := by unfold World.cell?; simp only [h1]
      rw [h2] at hm
      cases hm
  exact ⟨m, (H.below.cell (p := ⟨1, 0, none⟩) hsz).trans hm⟩
/-- A function of two texts that leaves all alone. -/
def strT2 (r : List UInt8 → List UInt8 → AV) : Tr := fun args σ K _ => ∃ s t : List UInt8, args = [.pv (.str s), .pv (.str t)] ∧ s.length ≤ 100000 ∧ K (r s t) σ
theorem F_Contains : SoundF PS 116 (strT2 fun s t => .pv (.bool (Lib.contains s t))) := by
  rintro w0 hS ρ σ w args us K X H hr ⟨s, t, rfl, hs, hK⟩
  obtain ⟨u, us', rfl, hu, hr⟩ := hr.uncons
  obtain ⟨v, us'', rfl, hv, hnil⟩ := hr.uncons
  obtain rfl : us'' = [] := hnil.nil_inv
  rw [relStr hu, relStr hv]
  refine ⟨Tryd.call116 _ w, ?_⟩
  obtain ⟨m, hm⟩ := var0 hS H
  refine (Tryd.strings_Contains ⟨s.toArray⟩ ⟨t.toArray⟩ m w (by simp [ByteArray.size]; omega) hm).mono fun e W' ⟨he, hW⟩ => ?_
  subst he hW
  exact ⟨ρ, σ, Gh.le_refl ρ, H, _, .pv (.bool _), hK⟩
theorem F_HasPrefix : SoundF PS 85 (strT2 fun s t => .pv (.bool (Lib.hasPrefix s t))) := by
  rintro w0 hS ρ σ w args us K X H hr ⟨s, t, rfl, hs, hK⟩
  obtain ⟨u, us', rfl, hu, hr⟩ := hr.uncons
  obtain ⟨v, us'', rfl, hv, hnil⟩ := hr.uncons
  obtain rfl : us'' = [] := hnil.nil_inv
  rw [relStr hu, relStr hv]
  refine ⟨Tryd.call85 _ w, ?_⟩
  refine (Tryd.strings_HasPrefix ⟨s.toArray⟩ ⟨t.toArray⟩ w).mono fun e W' ⟨he, hW⟩ => ?_
  subst he hW
  exact ⟨ρ, σ, Gh.le_refl ρ, H, _, .pv (.bool _), hK⟩
def T_IndexByte : Tr := fun args σ K _ => ∃ (s : List UInt8) (c : UInt8), args = [.pv (.str s), .pv (.int .u8 c.toNat)] ∧ K (.pv (.int .i64 (Lib.indexByte s c))) σ
theorem F_IndexByte : SoundF PS 24 T_IndexByte := by
  rintro w0 hS ρ σ w args us K X H hr ⟨s, c, rfl, hK⟩
  obtain ⟨u, us', rfl, hu, hr⟩ := hr.uncons
  obtain ⟨v, us'', rfl, hv, hnil⟩ := hr.uncons
  obtain rfl : us'' = [] := hnil.nil_inv
  rw [relStr hu, relInt (x := .undef) hv]
  refine ⟨Tryd.call24 _ w, ?_⟩
  refine (Tryd.strings_IndexByte ⟨s.toArray⟩ (c.toNat : Int) w).mono fun e W' ⟨he, hW⟩ => ?_
  subst he hW
  refine ⟨ρ, σ, Gh.le_refl ρ, H, .pv (.int .i64 (Lib.indexByte s c)), ?_, hK⟩
  have e : ((c.toNat : Int).toNat).toUInt8 = c := by simp
  rw [e]
  exact .pv (.int _ _)
/-! ### strings.Builder -/
/-- A builder's objects: it holds these bytes. -/
def BAt (b : Nat) (l : List UInt8) (B : Objs) : Prop := ∃ p buf, (p = .pv .nilPtr ∨ p = .addr b 0) ∧
  ((buf = .nilS ∧ l = [] ∧ B = [(b, .cells [p, buf] (some 75))]) ∨ ∃ g, buf = .grow g l.length (pvBytes l) ∧ l ≠ [] ∧ B = [(b, .cells [p, buf] (some 75)), (g, .front l.length 1 (some 5))])
theorem BAt.new (b : Nat) : BAt b [] [(b, .cells [.pv .nilPtr, .nilS] (some 75))] := ⟨_, _, .inl rfl, .inl ⟨rfl, rfl, rfl⟩⟩
def T_WriteByte : Tr := fun args σ K _ => ∃ (b : Nat) (c : UInt8) (σ0 : AS) (l : List UInt8) (B X : Objs), args = [.addr b 0, .pv (.int .u8 c.toNat)] ∧ BAt b l B ∧ Sep σ0 σ (B ++ X) ∧ l.length ≤ 1000000 ∧ ∀ σ' B', BAt b (l ++ [c]) B' → Sep σ0 σ' (B' ++ X) → K (.pv .nilIface) σ'
theorem T_WriteByte_ok {env : Env} (hc : env 96 = T_copyCheck) (args : List AV) (σ : AS) (K : AV → AS → Prop) (X : PV → AS → Prop) (h : T_WriteByte args σ K X) : bodyD PS env an47 Tryd.f47 args σ K X := by
  obtain ⟨b, c, σ0, l, B, Y, rfl, ⟨p, buf, hp, hB⟩, hS, hl, hK⟩ := h
  rw [← S47_eq env, S47, hc]
  have e : ∀ σ1 K, buildSliceD PS false σ1 30 1 1 [(0, .pv (.int .u8 c.toNat))] K = K (.full 1 [.int .u8 c.toNat]) σ1 := by
    intro σ1 K
    simp [buildSliceD, go_sem, elemsFill, AV.cells, AV.cellOk, toPVs, toPV]
  have hT : RowT PS 30 5 := ⟨T.el30, by rw [T.sz5]; decide, _, T.zo5, by rw [T.sz5]; rfl⟩
  rcases hB with ⟨rfl, rfl, rfl⟩ | ⟨g, rfl, hne, rfl⟩
  · refine ⟨b, p, .nilS, rfl, hS.get (by simp), hp, ?_⟩
    have h1 : Sep σ0 (σ.set b (.cells [.addr b 0, .nilS] (some 75))) _ := Sep.set1 hS _
    have hb := h1.get (i := b) (o := .cells [.addr b 0, .nilS] (some 75)) (by simp)
    simp (disch := omega) only [go_sem, e, hb, ldM_cells, List.getElem?_cons_succ, List.getElem?_cons_zero]
    refine app_nil hT rfl (by rw [T.sz5]; rfl) (by omega) (by rw [T.by5]; omega) (by omega) ?_
    intro g hg
    have h2 := h1.alloc hg (.front 1 (szOf PS 5) (some 5))
    have h3 : Sep σ0 _ ((b, AObj.cells [.addr b 0, .nilS] (some 75)) :: ((g, .front 1 (szOf PS 5) (some 5)) :: Y)) := h2.perm (List.Perm.swap _ _ _)
    have hb2 := h3.get (i := b) (o := .cells [.addr b 0, .nilS] (some 75)) (by simp)
    rw [T.stv30 rfl rfl, hb2]
    refine ⟨by simp, ?_⟩
    refine retV_self (hK _ [(b, .cells [.addr b 0, .grow g 1 [.int .u8 c.toNat]] (some 75)), (g, .front 1 1 (some 5))] ⟨_, _, .inr rfl, .inr ⟨g, rfl, by simp, rfl⟩⟩ ?_)
    rw [T.sz5] at h3 ⊢
    exact Sep.set1 h3 _
  · refine ⟨b, p, .grow g l.length (pvBytes l), rfl, hS.get (by simp), hp, ?_⟩
    have h1 : Sep σ0 (σ.set b (.cells [.addr b 0, .grow g l.length (pvBytes l)] (some 75))) _ := Sep.set1 hS _
    have hb := h1.get (i := b) (o := .cells [.addr b 0, .grow g l.length (pvBytes l)] (some 75)) (by simp)
    have hg := h1.get (i := g) (o := .front l.length 1 (some 5)) (by simp)
    simp (disch := omega) only [go_sem, e, hb, ldM_cells, List.getElem?_cons_succ, List.getElem?_cons_zero]
    refine app_grow hT rfl (by rw [T.sz5]; rfl) (by rw [T.sz5]; exact hg) (by omega) (by rw [T.sz5, pvBytes_len]; omega) (by rw [T.by5]; omega) (by omega) ?_
    have h2 := Sep.set (l1 := [_]) h1 (.front (l.length + 1) (szOf PS 5) (if some 5 = some 5 then some 5 else none))
    have hb2 := h2.get (i := b) (o := .cells [.addr b 0, .grow g l.length (pvBytes l)] (some 75)) (by simp)
    rw [T.stv30 rfl rfl, hb2]
    refine ⟨by simp, ?_⟩
    refine retV_self (hK _ [(b, .cells [.addr b 0, .grow g (l.length + 1) (pvBytes l ++ [.int .u8 c.toNat])] (some 75)), (g, .front (l.length + 1) 1 (some 5))] ⟨.addr b 0, .grow g (l.length + 1) (pvBytes l ++ [.int .u8 c.toNat]), .inr rfl, .inr ⟨g, ?_, by simp, ?_⟩⟩ ?_)
    · rw [pvBytes_app, List.length_append]; rfl
    · rw [List.length_append]; rfl
    · rw [T.sz5] at h2 ⊢
      rw [if_pos rfl] at h2 ⊢
      exact Sep.set1 h2 _
/-- A builder's text; its objects are let go. -/
def T_Str : Tr := fun args σ K _ => ∃ (b : Nat) (σ0 : AS) (l : List UInt8) (B X : Objs), args = [.addr b 0] ∧ BAt b l B ∧ Sep σ0 σ (B ++ X) ∧ ∀ σ', Sep σ0 σ' X → K (.pv (.str l)) σ'
theorem F_Str : SoundF PS 48 T_Str := by
  rintro w0 hS ρ σ w args us K X H hr ⟨b, σ0, l, B, Y, rfl, ⟨p, buf, hp, hB⟩, hSep, hK⟩
  refine F_String w0 hS ρ σ w _ us K X H hr ?_
  rcases hB with ⟨rfl, rfl, rfl⟩ | ⟨g, rfl, hne, rfl⟩
  · exact ⟨b, p, .nilS, rfl, hSep.get (by simp), .inl ⟨rfl, hK _ hSep.drop⟩⟩
  · refine ⟨b, p, _, rfl, hSep.get (by simp), .inr ⟨g, l, rfl, hne, hSep.get (by simp), hK _ ?_⟩⟩
    exact (Sep.del (hSep.perm (List.Perm.swap _ _ _))).drop
end Go.AD
