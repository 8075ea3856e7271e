/- What the abstract values and stores say of the model's values and worlds. -/
import Derived.Test.YtjgjmpophpifgaaDoorAd1
import Derived.ShapedOpen
set_option linter.unusedVariables false
namespace Go.AD

theorem Fr.get_put (fr : Fr) (d t : Nat) (v : AV) : Fr.get (Fr.put fr (some d) v) t = if d = t then v else Fr.get fr t := rfl
theorem AS.set_same (σ : AS) (id : Nat) (o : AObj) : (σ.set id o) id = some o := by simp [AS.set]
theorem AS.set_ne (σ : AS) {id id' : Nat} (o : AObj) (h : id' ≠ id) : (σ.set id o) id' = σ id' := by simp [AS.set, h]
theorem AS.sub_refl (σ : AS) : σ.sub σ := fun _ _ h => h
theorem AS.sub_trans {a b c : AS} (h : a.sub b) (k : b.sub c) : a.sub c := fun i o hi => k i o (h i o hi)

/-- What is known of memory beside the store: cells that never turn again; where objects lie; where the rows that may grow have lain. -/
structure Gh where
  imm : Nat → Nat → Option Value
  loc : Nat → Option (Nat × Nat × Nat)
  lin : Nat → Nat → Option (Addr × Nat)
structure Gh.le (ρ ρ' : Gh) : Prop where
  imm : ∀ b o v, ρ.imm b o = some v → ρ'.imm b o = some v
  loc : ∀ i x, ρ.loc i = some x → ρ'.loc i = some x
  lin : ∀ i n x, ρ.lin i n = some x → ρ'.lin i n = some x
theorem Gh.le_refl (ρ : Gh) : ρ.le ρ := ⟨fun _ _ _ h => h, fun _ _ h => h, fun _ _ _ h => h⟩
theorem Gh.le_trans {a b c : Gh} (h : a.le b) (k : b.le c) : a.le c :=
  ⟨fun b o v e => k.imm b o v (h.imm b o v e), fun i x e => k.loc i x (h.loc i x e), fun i n x e => k.lin i n x (h.lin i n x e)⟩

def ImmAt (imm : Nat → Nat → Option Value) (b o : Nat) (vs : List Value) : Prop := ∀ i, i < vs.length → imm b (o + i) = some (vs.getD i undef)

inductive RelP (imm : Nat → Nat → Option Value) : PV → Value → Prop where
  | bool (b) : RelP imm (.bool b) (.bool b)
  | int (k n) : RelP imm (.int k n) (.int k n)
  | float (k b) : RelP imm (.float k b) (.float k b)
  | str (l : List UInt8) : RelP imm (.str l) (.string ⟨l.toArray⟩)
  | nilPtr : RelP imm .nilPtr (.pointer none)
  | lst (n : Nat) (cells : List PV) (A : Option Addr) (cap b o : Nat) (vs : List Value) (hn : n ≤ cap) (hA : cells = [] ∨ A = some ⟨b, o, none⟩) (hl : vs.length = cells.length)
      (hi : ImmAt imm b o vs) (hr : ∀ i (h : i < cells.length), RelP imm cells[i] (vs.getD i undef)) : RelP imm (.lst n cells) (.slice A n cap)
  | nilFunc : RelP imm .nilFunc .nilFunc
  | func (f) : RelP imm (.func f) (.func (.func f) #[] #[])
  | nilIface : RelP imm .nilIface .nilIface
  | ifaceOne (t c v) (hc : RelP imm c v) : RelP imm (.iface t false [c]) (.iface t v)
  | ifaceAgg (t : TypeId) (cells : List PV) (vs : List Value) (hl : vs.length = cells.length) (hr : ∀ i (h : i < cells.length), RelP imm cells[i] (vs.getD i undef)) :
      RelP imm (.iface t true cells) (.iface t (.agg vs.toArray))

theorem RelP.mono {imm imm' : Nat → Nat → Option Value} (hm : ∀ b o v, imm b o = some v → imm' b o = some v) {p : PV} {v : Value} (h : RelP imm p v) : RelP imm' p v := by
  induction h with
  | bool b => exact .bool b
  | int k n => exact .int k n
  | float k b => exact .float k b
  | str l => exact .str l
  | nilPtr => exact .nilPtr
  | lst n cells A cap b o vs hn hA hl hi hr ih => exact .lst n cells A cap b o vs hn hA hl (fun i h => hm _ _ _ (hi i h)) ih
  | nilFunc => exact .nilFunc
  | func f => exact .func f
  | nilIface => exact .nilIface
  | ifaceOne t c v hc ih => exact .ifaceOne t c v ih
  | ifaceAgg t cells vs hl hr ih => exact .ifaceAgg t cells vs hl ih

inductive RelV (ρ : Gh) : AV → Value → Prop where
  | undef (v) : RelV ρ .undef v
  | pv {p v} (h : RelP ρ.imm p v) : RelV ρ (.pv p) v
  | addr (id off b o m) (h : ρ.loc id = some (b, o, m)) : RelV ρ (.addr id off) (.pointer (some ⟨b, o + off, none⟩))
  | elemP (cells : List PV) (off b o : Nat) (vs : List Value) (hl : vs.length = cells.length) (hi : ImmAt ρ.imm b o vs) (hr : ∀ i (h : i < cells.length), RelP ρ.imm cells[i] (vs.getD i undef)) :
      RelV ρ (.elemP cells off) (.pointer (some ⟨b, o + off, none⟩))
  | nilS : RelV ρ .nilS (.slice none 0 0)
  | glob (g : Nat) : RelV ρ (.glob g) (.pointer (some ⟨g, 0, none⟩))
  | cut (n : Nat) (cells : List PV) (A : Option Addr) (b o : Nat) (vs : List Value) (hA : cells = [] ∨ A = some ⟨b, o, none⟩) (hl : vs.length = cells.length) (hi : ImmAt ρ.imm b o vs)
      (hr : ∀ i (h : i < cells.length), RelP ρ.imm cells[i] (vs.getD i undef)) : RelV ρ (.cut n cells) (.slice A n n)
  | grow (id n : Nat) (cells : List PV) (b o cap : Nat) (vs : List Value) (h : ρ.lin id n = some (⟨b, o, none⟩, cap)) (hn : n ≤ cap) (hl : vs.length = cells.length)
      (hi : ImmAt ρ.imm b o vs) (hr : ∀ i (h : i < cells.length), RelP ρ.imm cells[i] (vs.getD i undef)) : RelV ρ (.grow id n cells) (.slice (some ⟨b, o, none⟩) n cap)
  | full (n : Nat) (cells : List PV) (b o : Nat) (vs : List Value) (hl : vs.length = cells.length) (hi : ImmAt ρ.imm b o vs)
      (hr : ∀ i (h : i < cells.length), RelP ρ.imm cells[i] (vs.getD i undef)) : RelV ρ (.full n cells) (.slice (some ⟨b, o, none⟩) n n)
  | msl (id off n size b o m cap : Nat) (h : ρ.loc id = some (b, o, m)) (hn : n ≤ cap) (hc : cap ≤ maxLen) (hm : o + off + cap * size ≤ m) : RelV ρ (.msl id off n size) (.slice (some ⟨b, o + off, none⟩) n cap)
  | clo (f : FuncId) (first cap : List AV) (vs us : List Value) (hl : vs.length = first.length) (hr : ∀ i (h : i < first.length), RelV ρ first[i] (vs.getD i undef))
      (hl' : us.length = cap.length) (hr' : ∀ i (h : i < cap.length), RelV ρ cap[i] (us.getD i undef)) : RelV ρ (.clo f first cap) (.func (.func f) vs.toArray us.toArray)
  | agg (cs : List AV) (vs : List Value) (hl : vs.length = cs.length) (hr : ∀ i (h : i < cs.length), RelV ρ cs[i] (vs.getD i undef)) : RelV ρ (.agg cs) (.agg vs.toArray)
  | tuple (cs : List AV) (vs : List Value) (hl : vs.length = cs.length) (hr : ∀ i (h : i < cs.length), RelV ρ cs[i] (vs.getD i undef)) : RelV ρ (.tuple cs) (.tuple vs.toArray)
  | iter (id b m) (h : ρ.loc id = some (b, 0, m)) : RelV ρ (.iter id) (.pointer (some ⟨b, 0, none⟩))
  | amap (id b m) (h : ρ.loc id = some (b, 0, m)) : RelV ρ (.amap id) (.map (some b))

theorem RelV.mono {ρ ρ' : Gh} (hm : ρ.le ρ') {v : AV} {u : Value} (h : RelV ρ v u) : RelV ρ' v u := by
  induction h with
  | undef v => exact .undef v
  | pv h => exact .pv (h.mono hm.imm)
  | addr id off b o m h => exact .addr id off b o m (hm.loc _ _ h)
  | elemP cells off b o vs hl hi hr => exact .elemP cells off b o vs hl (fun i h => hm.imm _ _ _ (hi i h)) (fun i h => (hr i h).mono hm.imm)
  | nilS => exact .nilS
  | glob g => exact .glob g
  | cut n cells A b o vs hA hl hi hr => exact .cut n cells A b o vs hA hl (fun i h => hm.imm _ _ _ (hi i h)) (fun i h => (hr i h).mono hm.imm)
  | grow id n cells b o cap vs h hn hl hi hr => exact .grow id n cells b o cap vs (hm.lin _ _ _ h) hn hl (fun i h => hm.imm _ _ _ (hi i h)) (fun i h => (hr i h).mono hm.imm)
  | full n cells b o vs hl hi hr => exact .full n cells b o vs hl (fun i h => hm.imm _ _ _ (hi i h)) (fun i h => (hr i h).mono hm.imm)
  | msl id off n size b o m cap h hn hc hm' => exact .msl id off n size b o m cap (hm.loc _ _ h) hn hc hm'
  | clo f first cap vs us hl hr hl' hr' ih ih' => exact .clo f first cap vs us hl ih hl' ih'
  | agg cs vs hl hr ih => exact .agg cs vs hl ih
  | tuple cs vs hl hr ih => exact .tuple cs vs hl ih
  | iter id b m h => exact .iter id b m (hm.loc _ _ h)
  | amap id b m h => exact .amap id b m (hm.loc _ _ h)

/-- Value by value. -/
def RelL (ρ : Gh) (cs : List AV) (vs : List Value) : Prop := vs.length = cs.length ∧ ∀ i (h : i < cs.length), RelV ρ cs[i] (vs.getD i undef)
theorem RelL.nil (ρ : Gh) : RelL ρ [] [] := ⟨rfl, fun i h => absurd h (by simp)⟩
theorem RelL.cons {ρ : Gh} {c : AV} {v : Value} {cs : List AV} {vs : List Value} (h : RelV ρ c v) (k : RelL ρ cs vs) : RelL ρ (c :: cs) (v :: vs) := by
  refine ⟨by simp [k.1], fun i hi => ?_⟩
  cases i with
  | zero => simpa using h
  | succ i => simpa using k.2 i (by simpa using hi)
theorem RelL.uncons {ρ : Gh} {c : AV} {cs : List AV} {vs : List Value} (h : RelL ρ (c :: cs) vs) : ∃ v vs', vs = v :: vs' ∧ RelV ρ c v ∧ RelL ρ cs vs' := by
  cases vs with
  | nil => simp [RelL] at h
  | cons v vs' =>
    refine ⟨v, vs', rfl, h.2 0 (by simp), by simpa using h.1, fun i hi => ?_⟩
    exact h.2 (i + 1) (by simpa using hi)
theorem RelL.nil_inv {ρ : Gh} {vs : List Value} (h : RelL ρ [] vs) : vs = [] := List.eq_nil_of_length_eq_zero (by simpa using h.1)
theorem RelL.mono {ρ ρ' : Gh} (hm : ρ.le ρ') {cs : List AV} {vs : List Value} (h : RelL ρ cs vs) : RelL ρ' cs vs := ⟨h.1, fun i hi => (h.2 i hi).mono hm⟩
theorem RelL.append {ρ : Gh} {cs ds : List AV} {vs us : List Value} (h : RelL ρ cs vs) (k : RelL ρ ds us) : RelL ρ (cs ++ ds) (vs ++ us) := by
  induction cs generalizing vs with
  | nil => rw [h.nil_inv]; simpa using k
  | cons c cs ih =>
    obtain ⟨v, vs', rfl, hv, hr⟩ := h.uncons
    exact .cons hv (ih hr)
theorem RelL.get? {ρ : Gh} {cs : List AV} {vs : List Value} (h : RelL ρ cs vs) (i : Nat) {c : AV} (hc : cs[i]? = some c) : ∃ v, vs[i]? = some v ∧ RelV ρ c v := by
  obtain ⟨hi, rfl⟩ := List.getElem?_eq_some_iff.1 hc
  have hi' : i < vs.length := by rw [h.1]; exact hi
  refine ⟨vs[i], List.getElem?_eq_getElem hi', ?_⟩
  have := h.2 i hi
  rwa [List.getD_eq_getElem?_getD, List.getElem?_eq_getElem hi'] at this
theorem RelL.of_get? {ρ : Gh} {cs : List AV} {vs : List Value} (hl : vs.length = cs.length) (h : ∀ (i : Nat) c v, cs[i]? = some c → vs[i]? = some v → RelV ρ c v) : RelL ρ cs vs :=
  ⟨hl, fun i hi => h i _ _ (List.getElem?_eq_getElem hi) (by rw [List.getD_eq_getElem?_getD, List.getElem?_eq_getElem (by omega : i < vs.length)]; rfl)⟩
theorem RelL.take {ρ : Gh} {cs : List AV} {vs : List Value} (h : RelL ρ cs vs) (n : Nat) : RelL ρ (cs.take n) (vs.take n) :=
  .of_get? (by simp [h.1]) fun i c v hc hv => by
    rw [List.getElem?_take] at hc hv
    split at hc
    · rename_i hi
      rw [if_pos hi] at hv
      obtain ⟨v', hv', hr⟩ := h.get? i hc
      rw [hv'] at hv
      cases hv
      exact hr
    · cases hc
theorem RelL.drop {ρ : Gh} {cs : List AV} {vs : List Value} (h : RelL ρ cs vs) (n : Nat) : RelL ρ (cs.drop n) (vs.drop n) :=
  .of_get? (by simp [h.1]) fun i c v hc hv => by
    rw [List.getElem?_drop] at hc hv
    obtain ⟨v', hv', hr⟩ := h.get? _ hc
    rw [hv'] at hv
    cases hv
    exact hr
theorem RelL.set {ρ : Gh} {cs : List AV} {vs : List Value} (h : RelL ρ cs vs) (n : Nat) {c : AV} {v : Value} (hr : RelV ρ c v) : RelL ρ (cs.set n c) (vs.set n v) :=
  .of_get? (by simp [h.1]) fun i c' v' hc hv => by
    rw [List.getElem?_set] at hc hv
    by_cases hn : n = i
    · rw [if_pos hn] at hc hv
      have hvl := h.1
      by_cases hl : n < cs.length
      · rw [if_pos (by omega)] at hc hv
        cases hc; cases hv
        exact hr
      · rw [if_neg (by omega)] at hc
        cases hc
    · rw [if_neg hn] at hc hv
      obtain ⟨u, hu, hr'⟩ := h.get? i hc
      rw [hu] at hv
      cases hv
      exact hr'
theorem RelV.of_agg {ρ : Gh} {cs : List AV} {vs : List Value} (h : RelL ρ cs vs) : RelV ρ (.agg cs) (.agg vs.toArray) := .agg cs vs h.1 h.2
theorem RelV.of_tuple {ρ : Gh} {cs : List AV} {vs : List Value} (h : RelL ρ cs vs) : RelV ρ (.tuple cs) (.tuple vs.toArray) := .tuple cs vs h.1 h.2

/-- Pure values, one by one. -/
def RelPL (imm : Nat → Nat → Option Value) (cs : List PV) (vs : List Value) : Prop := vs.length = cs.length ∧ ∀ i (h : i < cs.length), RelP imm cs[i] (vs.getD i undef)
theorem RelPL.toL {ρ : Gh} {cs : List PV} {vs : List Value} (h : RelPL ρ.imm cs vs) : RelL ρ (cs.map .pv) vs :=
  ⟨by simpa using h.1, fun i hi => by simpa using RelV.pv (h.2 i (by simpa using hi))⟩
theorem RelPL.of_L {ρ : Gh} {cs : List PV} {vs : List Value} (h : RelL ρ (cs.map .pv) vs) : RelPL ρ.imm cs vs := by
  refine ⟨by simpa using h.1, fun i hi => ?_⟩
  have := h.2 i (by simpa using hi)
  simp only [List.getElem_map] at this
  cases this with
  | pv h => exact h

theorem toPV_rel {ρ : Gh} {a : AV} {p : PV} {v : Value} (h : RelV ρ a v) (hp : toPV a = some p) : RelP ρ.imm p v := by
  cases h with
  | pv h => simp [toPV] at hp; exact hp ▸ h
  | nilS => simp [toPV] at hp; subst hp; exact .lst 0 [] none 0 0 0 [] (Nat.le_refl _) (.inl rfl) rfl (fun i h => absurd h (by simp)) (fun i h => absurd h (by simp))
  | grow id n cells b o cap vs h hn hl hi hr => simp [toPV] at hp; subst hp; exact .lst n cells _ cap b o vs hn (.inr rfl) hl hi hr
  | full n cells b o vs hl hi hr => simp [toPV] at hp; subst hp; exact .lst n cells _ n b o vs (Nat.le_refl _) (.inr rfl) hl hi hr
  | clo f first cap vs us hl hr hl' hr' =>
    cases first with
    | cons _ _ => simp [toPV] at hp
    | nil => cases cap with
      | cons _ _ => simp [toPV] at hp
      | nil =>
        simp [toPV] at hp
        subst hp
        have e1 : vs = [] := List.eq_nil_of_length_eq_zero hl
        have e2 : us = [] := List.eq_nil_of_length_eq_zero hl'
        subst e1; subst e2
        exact .func f
  | _ => simp [toPV] at hp
theorem toPVs_rel {ρ : Gh} : ∀ {as : List AV} {ps : List PV} {vs : List Value}, RelL ρ as vs → toPVs as = some ps → RelPL ρ.imm ps vs
  | [], ps, vs, h, hp => by
    simp [toPVs] at hp
    subst hp
    exact ⟨h.1, fun i hi => absurd hi (by simp)⟩
  | a :: as, ps, vs, h, hp => by
    obtain ⟨v, vs', rfl, hv, hr⟩ := h.uncons
    unfold toPVs at hp
    split at hp
    · rename_i p ps' hp1 hp2
      cases hp
      have ih := toPVs_rel hr hp2
      refine ⟨by simp [ih.1], fun i hi => ?_⟩
      cases i with
      | zero => simpa using toPV_rel hv hp1
      | succ i => simpa using ih.2 i (by simpa using hi)
    · cases hp

theorem ofCell_rel (ρ : Gh) (v : Value) : RelV ρ (ofCell v) v := by
  unfold ofCell
  split
  · exact .pv (.bool _)
  · exact .pv (.int _ _)
  · exact .pv (.float _ _)
  · rename_i s
    have : s = ⟨s.data.toList.toArray⟩ := by cases s; simp
    have h := RelP.str (imm := ρ.imm) s.data.toList
    rw [← this] at h
    exact .pv h
  · exact .pv .nilPtr
  · exact .nilS
  · exact .pv .nilFunc
  · exact .pv .nilIface
  · exact .undef _
theorem ofCells_rel (ρ : Gh) (l : List Value) : RelL ρ (l.map ofCell) l :=
  ⟨by simp, fun i hi => by
    have hi' : i < l.length := by simpa using hi
    rw [List.getElem_map, List.getD_eq_getElem?_getD, List.getElem?_eq_getElem hi']
    exact ofCell_rel ρ _⟩
theorem ofConst_rel (ρ : Gh) (v : Value) : RelV ρ (ofConst v) v := by
  cases v with
  | agg cs => exact RelV.of_agg (ofCells_rel ρ cs.toList)
  | func fn x y =>
    cases fn with
    | func f =>
      simp only [ofConst]
      split
      · rename_i h1 h2
        have e1 : x = #[] := by simpa using h1
        have e2 : y = #[] := by simpa using h2
        subst e1; subst e2
        exact .pv (.func _)
      · exact .undef _
    | method m => exact ofCell_rel ρ (.func (.method m) x y)
    | methodOf t m => exact ofCell_rel ρ (.func (.methodOf t m) x y)
    | via t p f q => exact ofCell_rel ρ (.func (.via t p f q) x y)
    | yield l => exact ofCell_rel ρ (.func (.yield l) x y)
  | bool b => exact ofCell_rel ρ (.bool b)
  | int k n => exact ofCell_rel ρ (.int k n)
  | float k n => exact ofCell_rel ρ (.float k n)
  | complex k n m => exact ofCell_rel ρ (.complex k n m)
  | string s => exact ofCell_rel ρ (.string s)
  | pointer s => exact ofCell_rel ρ (.pointer s)
  | slice s n m => exact ofCell_rel ρ (.slice s n m)
  | map s => exact ofCell_rel ρ (.map s)
  | chan s => exact ofCell_rel ρ (.chan s)
  | nilFunc => exact ofCell_rel ρ .nilFunc
  | iface t v => exact ofCell_rel ρ (.iface t v)
  | nilIface => exact ofCell_rel ρ .nilIface
  | tuple v => exact ofCell_rel ρ (.tuple v)

/-! ### worlds -/
def NoFz (fz : Nat × Nat) (m : Nat) : Prop := ∀ i, i < m → ¬ (fz.1 ≤ i ∧ i < fz.2)
def blkOf (ρ : Gh) (id : Nat) : AObj → Option Nat
  | .front n _ _ => (ρ.lin id n).map fun x => x.1.block
  | _ => (ρ.loc id).map fun x => x.1
/-- Builders lie in two rows: the struct, and the bytes. -/
def ObjRel (B : Nat) (ρ : Gh) (w : World) (id : Nat) : AObj → Prop
  | .cells cs var => ∃ b o m cur e fz, ρ.loc id = some (b, o, m) ∧ B ≤ b ∧ w.heap[b]? = some (.cells cur e fz) ∧ NoFz fz cur.size ∧ cur.size = m ∧ o + cs.length ≤ m ∧
      cs.all AV.cellOk = true ∧ RelL ρ cs ((cur.toList.drop o).take cs.length) ∧ (∀ o' v, ρ.imm b o' = some v → False) ∧ ∀ t, var = some t → e = t ∧ o = 0 ∧ cur.size = cs.length
  | .front n size mk => ∃ b o cap cur e fz, ρ.lin id n = some (⟨b, o, none⟩, cap) ∧ B ≤ b ∧ w.heap[b]? = some (.cells cur e fz) ∧ NoFz fz cur.size ∧ n ≤ cap ∧ cap ≤ maxLen ∧
      o + cap * size ≤ cur.size ∧ (n < cap → ∀ o' v, ρ.imm b o' = some v → o' < o + n * size) ∧ (∀ k, n < k → ρ.lin id k = none) ∧ ∀ e', mk = some e' → e = e' ∧ o = 0
  | .strIter s pos => ∃ b m, ρ.loc id = some (b, 0, m) ∧ B ≤ b ∧ w.heap[b]? = some (.stringIter ⟨s.toArray⟩ pos) ∧ ∀ o' v, ρ.imm b o' = some v → False
  | .builder _ => False

structure RelH (w0 : World) (ρ : Gh) (σ : AS) (w : World) : Prop where
  below : RowKit.Below w0.heap.size w0 w
  imm : ∀ b o v, ρ.imm b o = some v → w.cell? ⟨b, o, none⟩ = some v
  obj : ∀ id o, σ id = some o → ObjRel w0.heap.size ρ w id o
  apart : ∀ id id' o o', σ id = some o → σ id' = some o' → blkOf ρ id o = blkOf ρ id' o' → id = id'
  bound : ∃ N, ∀ id, N ≤ id → ρ.loc id = none ∧ (∀ n, ρ.lin id n = none) ∧ σ id = none

theorem RelH.sub {w0 : World} {ρ : Gh} {σ τ : AS} {w : World} (h : RelH w0 ρ σ w) (hs : τ.sub σ) : RelH w0 ρ τ w where
  below := h.below
  imm := h.imm
  obj := fun id o ho => h.obj id o (hs id o ho)
  apart := fun id id' o o' ho ho' => h.apart id id' o o' (hs id o ho) (hs id' o' ho')
  bound := by
    obtain ⟨N, hN⟩ := h.bound
    refine ⟨N, fun id hid => ⟨(hN id hid).1, (hN id hid).2.1, ?_⟩⟩
    cases hτ : τ id with
    | none => rfl
    | some o => have := hs id o hτ; rw [(hN id hid).2.2] at this; cases this

/-- The start as it is asked of all calls: well shaped, and the known variables hold what is known of them. -/
structure Ready (P : Program) (w0 : World) : Prop where
  shaped : w0.ShapedOpen P
  known : ∀ g cs, known P g = some cs → ∃ vs : List Value, vs.length = cs.length ∧ (∀ i v, vs[i]? = some v → w0.cell? ⟨g, i, none⟩ = some v) ∧ ∀ i (h : i < cs.length), RelP (fun _ _ => none) cs[i] (vs.getD i undef)
theorem known_none {P : Program} (h : noKnown P = true) (g : Nat) : Go.AD.known P g = none := by
  unfold Go.AD.known
  split
  · rename_i x hx
    obtain ⟨hg, rfl⟩ := Array.getElem?_eq_some_iff.1 hx
    have := (Array.all_eq_true.1 h) g hg
    rw [if_neg (fun e => by rw [e] at this; simp at this)]
  · rfl
theorem Ready.of {P : Program} {w0 : World} (h : noKnown P = true) (hS : w0.ShapedOpen P) : Ready P w0 :=
  ⟨hS, fun g cs hk => by rw [known_none h] at hk; cases hk⟩
/-- A world that differs by draws alone. -/
theorem RelH.drawn {w0 : World} {ρ : Gh} {σ : AS} {w : World} (h : RelH w0 ρ σ w) (n : Nat) : RelH w0 ρ σ { w with drawn := n } where
  below := ⟨h.below.os, h.below.tape, h.below.output, h.below.size, h.below.block⟩
  imm := fun b o v hv => h.imm b o v hv
  obj := fun id o ho => by
    have := h.obj id o ho
    cases o <;> exact this
  apart := h.apart
  bound := h.bound

structure RelF (ρ : Gh) (n : Nat) (fr : Fr) (a : Act) : Prop where
  size : a.tmps.size = n
  get : ∀ t, RelV ρ (fr.get t) (a.tmps.getD t undef)
theorem RelF.mono {ρ ρ' : Gh} {n : Nat} {fr : Fr} {a : Act} (hm : ρ.le ρ') (h : RelF ρ n fr a) : RelF ρ' n fr a := ⟨h.size, fun t => (h.get t).mono hm⟩
theorem RelF.put {ρ : Gh} {n : Nat} {fr : Fr} {a : Act} (h : RelF ρ n fr a) {d : Option Nat} (hd : ∀ t, d = some t → t < n) {v : AV} {u : Value} (hv : RelV ρ v u) : RelF ρ n (fr.put d v) (a.put d u) := by
  cases d with
  | none => exact h
  | some t =>
    have ht := hd t rfl
    refine ⟨by simp [Act.put, h.size], fun s => ?_⟩
    rw [Fr.get_put]
    by_cases hs : t = s
    · subst hs
      rw [if_pos rfl]
      have : (a.put (some t) u).tmps.getD t undef = u := by simp [Act.put, h.size, ht]
      rw [this]
      exact hv
    · rw [if_neg hs]
      have : (a.put (some t) u).tmps.getD s undef = a.tmps.getD s undef := by simp [Act.put, Array.getElem?_setIfInBounds_ne hs]
      rw [this]
      exact h.get s
theorem ev_rel {ρ : Gh} {n : Nat} {fr : Fr} {a : Act} (h : RelF ρ n fr a) (x : Operand) : RelV ρ (ev fr x) (a.eval x) := by
  cases x with
  | tmp t => exact h.get t
  | const v => exact ofConst_rel ρ v
  | global g => exact .glob g
  | func f => exact .pv (.func f)
theorem evs_rel {ρ : Gh} {n : Nat} {fr : Fr} {a : Act} (h : RelF ρ n fr a) (l : List Operand) : RelL ρ (evs fr l) (l.map a.eval) := by
  induction l with
  | nil => exact .nil ρ
  | cons x l ih => exact .cons (ev_rel h x) ih
end Go.AD
