/- Conversions, struct literals; all operations that leave the store alone in one statement. -/
import Derived.Test.YtjgjmpophpifgaaDoorAd5
import Derived.Laws.Tables
set_option linter.unusedVariables false
set_option linter.unusedSimpArgs false
namespace Go.AD

section
variable {P : Program} {w0 w : World} {ρ : Gh} {σ : AS}

theorem cellOk_one {v : AV} {u : Value} (h : RelV ρ v u) (hv : v.cellOk = true) : u.oneCell' = true := by
  cases h with
  | pv h => cases h <;> rfl
  | undef => simp [AV.cellOk] at hv
  | agg => simp [AV.cellOk] at hv
  | tuple => simp [AV.cellOk] at hv
  | _ => rfl
theorem cells_rel {v : AV} {u : Value} (h : RelV ρ v u) (hv : v.cells.all AV.cellOk = true) : RelL ρ v.cells u.cells.toList := by
  cases h with
  | undef => simp [AV.cells, AV.cellOk] at hv
  | agg cs vs hl hr => exact ⟨hl, hr⟩
  | tuple => simp [AV.cells, AV.cellOk] at hv
  | pv h =>
    have hp := RelV.pv (ρ := ρ) h
    cases h <;> exact .cons hp (.nil ρ)
  | addr id off b o m h => exact .cons (.addr id off b o m h) (.nil ρ)
  | elemP cells off b o vs hl hi hr => exact .cons (.elemP cells off b o vs hl hi hr) (.nil ρ)
  | nilS => exact .cons .nilS (.nil ρ)
  | grow id n cells b o cap vs h hn hl hi hr => exact .cons (.grow id n cells b o cap vs h hn hl hi hr) (.nil ρ)
  | full n cells b o vs hl hi hr => exact .cons (.full n cells b o vs hl hi hr) (.nil ρ)
  | glob g => exact .cons (.glob g) (.nil ρ)
  | cut n cells A b o vs hA hl hi hr => exact .cons (.cut n cells A b o vs hA hl hi hr) (.nil ρ)
  | msl id off n size b o m cap h hn hc hm => exact .cons (.msl id off n size b o m cap h hn hc hm) (.nil ρ)
  | clo f first cap vs us hl hr hl' hr' => exact .cons (.clo f first cap vs us hl hr hl' hr') (.nil ρ)
  | iter id b m h => exact .cons (.iter id b m h) (.nil ρ)
  | amap id b m h => exact .cons (.amap id b m h) (.nil ρ)
theorem all_one {cs : List AV} {us : List Value} (h : RelL ρ cs us) (hc : cs.all AV.cellOk = true) : ∀ u ∈ us, u.oneCell' = true := by
  induction cs generalizing us with
  | nil => rw [h.nil_inv]; intro u hu; cases hu
  | cons c cs ih =>
    obtain ⟨v, vs, rfl, hv, hr⟩ := h.uncons
    simp only [List.all_cons, Bool.and_eq_true] at hc
    intro u hu
    rcases List.mem_cons.1 hu with rfl | hu
    · exact cellOk_one hv hc.1
    · exact ih hr hc.2 u hu

def setV : List Value → Nat → List Value → List Value
  | vs, _, [] => vs
  | vs, o, u :: us => setV (vs.set o u) (o + 1) us
theorem setAll_rel : ∀ {ds : List AV} {us : List Value} {cs : List AV} {vs : List Value} (o : Nat), RelL ρ ds us → RelL ρ cs vs → RelL ρ (setAll cs o ds) (setV vs o us)
  | [], us, cs, vs, o, h, k => by rw [h.nil_inv]; exact k
  | d :: ds, us, cs, vs, o, h, k => by
    obtain ⟨u, us', rfl, hu, hr⟩ := h.uncons
    exact setAll_rel (o + 1) hr (k.set o hu)
theorem setV_eq : ∀ (us vs : List Value) (o : Nat), o + us.length ≤ vs.length → setV vs o us = vs.take o ++ us ++ vs.drop (o + us.length)
  | [], vs, o, h => by simp [setV]
  | u :: us, vs, o, h => by
    simp only [List.length_cons] at h
    rw [setV, setV_eq us _ (o + 1) (by simp; omega)]
    have ho : o < vs.length := by omega
    rw [List.set_eq_take_append_cons_drop, if_pos ho]
    have ht : (vs.take o).length = o := by simp; omega
    rw [List.take_append, List.drop_append, ht]
    simp only [Nat.add_sub_cancel_left, List.take_succ_cons, List.take_zero, List.length_cons]
    rw [show o + 1 + us.length - o = us.length + 1 by omega, List.drop_succ_cons, List.drop_drop]
    have e1 : List.take (o + 1) (vs.take o) = vs.take o := List.take_of_length_le (by omega)
    have e2 : List.drop (o + 1 + us.length) (vs.take o) = [] := List.drop_eq_nil_of_le (by omega)
    rw [e1, e2, show o + 1 + us.length = o + (us.length + 1) by omega]
    simp
theorem setV_length : ∀ (us vs : List Value) (o : Nat), (setV vs o us).length = vs.length
  | [], vs, o => rfl
  | u :: us, vs, o => by rw [setV, setV_length us]; simp
theorem setAll_length : ∀ (us vs : List AV) (o : Nat), (setAll vs o us).length = vs.length
  | [], vs, o => rfl
  | u :: us, vs, o => by rw [setAll, setAll_length us]; simp
theorem foldSet (off : Nat) : ∀ (l : List Value) (k : Nat) (arr : Array Value), (l.zipIdx k).foldl (fun cs (x : Value × Nat) => cs.setIfInBounds (off + x.2) x.1) arr = (setV arr.toList (off + k) l).toArray
  | [], k, arr => by simp [setV]
  | u :: us, k, arr => by
    rw [List.zipIdx_cons, List.foldl_cons, foldSet off us (k + 1), setV]
    simp [Nat.add_assoc]
theorem fill_cons (place : Nat → Option (Nat × Nat)) (cells : Array Value) (i : Nat) (v : Value) (rest : List (Nat × Value)) {o sz : Nat} (hp : place i = some (o, sz)) (h1 : v.cells.size = sz) (h2 : o + sz ≤ cells.size) :
    Instr.fill place cells ((i, v) :: rest) = Instr.fill place (setV cells.toList o v.cells.toList).toArray rest := by
  rw [Instr.fill, hp]
  simp only [h1, ne_eq, not_true_eq_false, false_or]
  rw [if_neg (by simp; omega)]
  congr 1
  have := foldSet o v.cells.toList 0 cells
  rw [Nat.add_zero] at this
  rw [← this, ← Array.toList_zipIdx, Array.foldl_toList]

/-- The parts, with their values. -/
def RelParts (ρ : Gh) : List (Nat × AV) → List (Nat × Value) → Prop
  | [], [] => True
  | (i, a) :: l, (j, v) :: m => i = j ∧ RelV ρ a v ∧ RelParts ρ l m
  | _, _ => False
theorem buildFill_sound {fs : Nat → Option (Nat × TypeId)} {place : Nat → Option (Nat × Nat)} (hp : ∀ i o t, fs i = some (o, t) → place i = some (o, szOf P t)) :
    ∀ (parts : List (Nat × AV)) (parts' : List (Nat × Value)) (cs : List AV) (vs : Array Value) (out : List AV), RelParts ρ parts parts' → RelL ρ cs vs.toList → buildFill fs P cs parts = some out →
      ∃ us, Instr.fill place vs parts' = some us ∧ RelL ρ out us.toList
  | [], parts', cs, vs, out, h, k, hb => by
    cases parts' with
    | cons _ _ => exact h.elim
    | nil =>
      simp [buildFill] at hb
      subst hb
      exact ⟨vs, rfl, k⟩
  | (i, a) :: parts, parts', cs, vs, out, h, k, hb => by
    cases parts' with
    | nil => exact h.elim
    | cons p' parts' =>
      obtain ⟨j, v⟩ := p'
      obtain ⟨rfl, hv, hr⟩ := h
      simp only [buildFill] at hb
      split at hb
      · rename_i o t hf
        split at hb
        · rename_i hc
          obtain ⟨h1, h2, h3, h4⟩ := hc
          have hcr := cells_rel hv h4
          have hsz : v.cells.size = szOf P t := by have := hcr.1; simp at this; omega
          obtain ⟨us, hu, hur⟩ := buildFill_sound hp parts parts' _ (setV vs.toList o v.cells.toList).toArray out hr (by simpa using setAll_rel o hcr k) hb
          refine ⟨us, ?_, hur⟩
          rw [fill_cons place vs i v parts' (hp _ _ _ hf) hsz (by have := k.1; simp at this; omega), hu]
        · cases hb
      · cases hb
theorem fieldOff_info {t : TypeId} {fs : Array Field} (hu : P.underlying t = some (.struct fs)) (hall : (fs.all fun f => hasT P f.type) = true) :
    ∃ places : List (Nat × Nat), fs.toList.mapM (fun f => (P.info? f.type).map fun i => (f.offset, i.size)) = some places ∧ ∀ i o ty, fieldOff P t i = some (o, ty) → places.toArray[i]? = some (o, szOf P ty) := by
  have hall' : ∀ f ∈ fs.toList, hasT P f.type = true := by
    intro f hf
    have := Array.all_eq_true'.1 hall f (by simpa using hf)
    simpa using this
  have key : ∀ l : List Field, (∀ f ∈ l, hasT P f.type = true) → l.mapM (fun f => (P.info? f.type).map fun i => (f.offset, i.size)) = some (l.map fun f => (f.offset, szOf P f.type)) := by
    intro l
    induction l with
    | nil => intro _; rfl
    | cons f l ih =>
      intro h
      obtain ⟨i, hi, hs, _⟩ := inf_some (hasT_inf (h f (by simp)))
      simp [List.mapM_cons, hi, ih (fun g hg => h g (by simp [hg])), hs]
  refine ⟨_, key _ hall', fun i o ty h => ?_⟩
  obtain ⟨fs', fd, h1, h2, h3, h4⟩ := fieldOff_some h
  rw [hu] at h1
  cases h1
  simp [h2, h3, h4]
theorem zeroOf_some {t : TypeId} {z : List AV} (h : zeroOf P t = some z) : ∃ i zv, P.info? t = some i ∧ i.zero = some zv ∧ z = zv.cells.toList.map ofCell := by
  unfold zeroOf inf at h
  cases hi : P.info? t with
  | none => simp [hi] at h
  | some i =>
    cases hz : i.zero with
    | none => simp [hi, hz] at h
    | some zv =>
      simp [hi, hz] at h
      exact ⟨i, zv, rfl, hz, h.symm⟩
theorem buildD_sound {t : TypeId} {parts : List (Nat × AV)} {K : AV → Prop} (h : buildD P t parts K) (parts' : Array (Nat × Value)) (hp : RelParts ρ parts parts'.toList) (w : World) :
    ∃ a r, (Instr.build t parts').run P w = .ok r w ∧ RelV ρ a r ∧ K a := by
  unfold buildD at h
  split at h
  · rename_i z fs hz hu
    obtain ⟨hall, h⟩ := h
    split at h
    · rename_i cs hcs
      obtain ⟨i, zv, hi, hzv, rfl⟩ := zeroOf_some hz
      obtain ⟨places, hm, hpl⟩ := fieldOff_info hu hall
      obtain ⟨us, hus, hr⟩ := buildFill_sound (P := P) (ρ := ρ) hpl parts parts'.toList _ zv.cells cs hp (ofCells_rel ρ _) hcs
      refine ⟨.agg cs, .agg us, run_build w t parts' us ?_, by simpa using RelV.of_agg hr, h⟩
      simp only [Program.built, hi, hu, hzv, hm]
      exact hus
    · exact h.elim
  · rename_i z n e hz hu
    obtain ⟨hie, h⟩ := h
    split at h
    · rename_i cs hcs
      obtain ⟨i, zv, hi, hzv, rfl⟩ := zeroOf_some hz
      obtain ⟨ie, hie, hsz, _⟩ := inf_some hie
      obtain ⟨us, hus, hr⟩ := buildFill_sound (P := P) (ρ := ρ) (place := fun i => some (i * ie.size, ie.size)) (by
        intro i o t h
        simp only [Option.some.injEq, Prod.mk.injEq] at h
        rw [← h.1, ← h.2, hsz]) parts parts'.toList _ zv.cells cs hp (ofCells_rel ρ _) hcs
      refine ⟨.agg cs, .agg us, run_build w t parts' us ?_, by simpa using RelV.of_agg hr, h⟩
      simp only [Program.built, hi, hu, hzv, hie]
      exact hus
    · exact h.elim
  · exact h.elim

/-! ### bytes and texts -/
/-- What a slice shows, and where. -/
theorem shown_sound (H : RelH w0 ρ σ w) {e : TypeId} {x : AV} {n : Nat} {cs : List PV} (h : shown P σ e x = some (n, cs)) {u : Value} (hu : RelV ρ x u) :
    ∃ A cap b o vs, u = .slice A n cap ∧ n ≤ cap ∧ RelPL ρ.imm cs vs ∧ (cs = [] ∨ A = some ⟨b, o, none⟩) ∧ ∀ (i : Nat) v, vs[i]? = some v → w.cell? ⟨b, o + i, none⟩ = some v := by
  unfold shown at h
  split at h
  · cases h
    cases hu with | pv hu => cases hu with
    | lst _ _ A cap b o vs hnc hA hl hi hr => exact ⟨A, cap, b, o, vs, rfl, hnc, ⟨hl, hr⟩, hA, fun i v hv => ImmAt.cell H hi i v hv⟩
  · cases h
    cases hu
    exact ⟨none, 0, 0, 0, [], rfl, Nat.le_refl _, ⟨rfl, fun i hi => absurd hi (by simp)⟩, .inl rfl, fun i v hv => by simp at hv⟩
  · cases h
    cases hu with
    | grow _ _ _ b o cap vs hlin hnc hl hi hr => exact ⟨_, cap, b, o, vs, rfl, hnc, ⟨hl, hr⟩, .inr rfl, fun i v hv => ImmAt.cell H hi i v hv⟩
  · cases h
    cases hu with
    | full _ _ b o vs hl hi hr => exact ⟨_, n, b, o, vs, rfl, Nat.le_refl _, ⟨hl, hr⟩, .inr rfl, fun i v hv => ImmAt.cell H hi i v hv⟩
  · rename_i id off n' sz
    split at h
    · rename_i objs var ho
      split at h
      · rename_i hle
        cases hp : toPVs ((objs.drop off).take (n' * szOf P e)) with
        | none => simp [hp] at h
        | some ps =>
          simp [hp] at h
          obtain ⟨rfl, rfl⟩ := h
          obtain ⟨b, o, m, vs, hl, _, hr, _, hc⟩ := cells_at H ho
          cases hu with
          | msl _ _ _ _ b' o' m' cap hl' hnc hcm hm =>
            rw [hl] at hl'
            cases hl'
            refine ⟨_, cap, b, o + off, (vs.drop off).take (n' * szOf P e), rfl, hnc, toPVs_rel ((hr.drop off).take _) hp, .inr rfl, fun i v hv => ?_⟩
            rw [List.getElem?_take] at hv
            split at hv
            · rw [List.getElem?_drop] at hv
              have := hc _ _ hv
              rwa [← Nat.add_assoc] at this
            · cases hv
      · cases h
    · cases h
  · cases h
theorem bytesOfPV_some : ∀ {cs : List PV} {l : List UInt8} {imm : Nat → Nat → Option Value} {vs : List Value}, bytesOfPV cs = some l → RelPL imm cs vs →
    ∃ ns : List Int, vs = ns.map (Value.int .u8) ∧ l = ns.map fun n => UInt8.ofNat n.toNat
  | [], l, imm, vs, h, hr => by
    simp [bytesOfPV] at h
    subst h
    have : vs = [] := List.eq_nil_of_length_eq_zero (by simpa using hr.1)
    subst this
    exact ⟨[], rfl, rfl⟩
  | p :: cs, l, imm, vs, h, hr => by
    cases vs with
    | nil => have := hr.1; simp at this
    | cons v vs =>
      unfold bytesOfPV at h
      split at h
      · rename_i h1; cases h1
      · rename_i n ps heq
        cases heq
        cases hb : bytesOfPV cs with
        | none => simp [hb] at h
        | some l' =>
          simp [hb] at h
          subst h
          have h0 := hr.2 0 (by simp)
          simp at h0
          cases h0
          obtain ⟨ns, e1, e2⟩ := bytesOfPV_some (imm := imm) (vs := vs) hb ⟨by simpa using hr.1, fun i hi => by have := hr.2 (i + 1) (by simpa using hi); simpa using this⟩
          exact ⟨n :: ns, by rw [e1]; rfl, by rw [e2]; rfl⟩
      · cases h
theorem push_fold : ∀ (ns : List Int) (l : List UInt8), ns.foldl (fun (r : ByteArray) (n : Int) => r.push (UInt8.ofNat n.toNat)) ⟨l.toArray⟩ = ⟨(l ++ ns.map fun n => UInt8.ofNat n.toNat).toArray⟩
  | [], l => by simp
  | n :: ns, l => by
    rw [List.foldl_cons]
    have : (⟨l.toArray⟩ : ByteArray).push (UInt8.ofNat n.toNat) = ⟨(l ++ [UInt8.ofNat n.toNat]).toArray⟩ := by
      apply ByteArray.ext
      simp
    rw [this, push_fold ns]
    simp
theorem convD_sound (H : RelH w0 ρ σ w) {s d : TypeId} {x : AV} {K : AV → Prop} (h : convD P σ s d x K) {u : Value} (hu : RelV ρ x u) : ∃ a r, (convert s d u).run P w = .ok r w ∧ RelV ρ a r ∧ K a := by
  unfold convD at h
  split at h
  · rename_i k k' n hs hd
    rw [relInt (x := .undef) hu]
    exact ⟨_, _, by simp only [convert, Sem.run_bind, run_underlying hs, run_underlying hd, Result.andThen_ok, Conv.intToInt, Sem.run_pure], mkInt .., h⟩
  · rename_i k n hs hd
    rw [relInt (x := .undef) hu]
    refine ⟨_, .string (Utf8.encode n), by simp only [convert, Sem.run_bind, run_underlying hs, run_underlying hd, Result.andThen_ok, Conv.intToString, Sem.run_pure], ?_, h⟩
    have := mkStr ρ (Utf8.encode n).data.toList
    simpa using this
  · rename_i t hs hd
    rw [relStr hu]
    exact ⟨_, _, by simp only [convert, Sem.run_bind, run_underlying hs, run_underlying hd, Result.andThen_ok, Sem.run_pure], mkStr .., h⟩
  · rename_i e hs hd hn1 hn2
    obtain ⟨he, hsz, h⟩ := h
    split at h
    · rename_i n cs hsh
      obtain ⟨hn, h⟩ := h
      split at h
      · rename_i l hb
        obtain ⟨A, cap, b, o, vs, rfl, hnc, hr, hA, hc⟩ := shown_sound (P := P) H hsh hu
        obtain ⟨ns, e1, e2⟩ := bytesOfPV_some hb hr
        refine ⟨_, .string ⟨l.toArray⟩, ?_, mkStr .., h⟩
        rw [run_convert_bytes_string w s d e A n cap hs he hd]
        have hlen : vs.length = n := by have := hr.1; omega
        rcases hA with rfl | rfl
        · have hv : vs = [] := List.eq_nil_of_length_eq_zero (by simpa using hr.1)
          subst hv
          have hn0 : n = 0 := by simpa using hn
          subst hn0
          have hns : ns = [] := by simpa using e1
          subst hns
          subst e2
          cases A with
          | none => rfl
          | some a =>
            have := run_bytesToString (P := P) w a 0 cap [] rfl
            exact this
        · have hl := run_loadCells_list (P := P) w ⟨b, o, none⟩ vs (fun j v hv => by rw [Addr.add_lit]; exact hc j v hv)
          rw [hlen, e1] at hl
          have := run_bytesToString (P := P) w ⟨b, o, none⟩ n cap ns hl
          rw [this, e2]
          have hp := push_fold ns []
          simp only [List.nil_append] at hp
          rw [← hp]
          rfl
      · exact h.elim
    · exact h.elim
  · exact h.elim
end
end Go.AD
