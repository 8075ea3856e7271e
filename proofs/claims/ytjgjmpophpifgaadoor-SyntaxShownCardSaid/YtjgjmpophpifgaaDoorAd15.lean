/- One step of the calculus' words at a time, for simp. -/
import Derived.Test.YtjgjmpophpifgaaDoorAd14
set_option linter.unusedVariables false
namespace Go.AD

section
variable {P : Program} {σ τ : AS} {t : TypeId} {K : AV → Prop} {k : IntKind} {a b : Int}

attribute [go_sem] lock_eq
@[go_sem] theorem set_same (σ : AS) (i : Nat) (o : AObj) : (σ.set i o) i = some o := by simp [AS.set]
theorem set_ne (σ : AS) {i j : Nat} (o : AObj) (h : j ≠ i) : (σ.set i o) j = σ j := by simp [AS.set, h]
@[go_sem] theorem del_same (σ : AS) (i : Nat) : (σ.del i) i = none := by simp [AS.del]
theorem del_ne (σ : AS) {i j : Nat} (h : j ≠ i) : (σ.del i) j = σ j := by simp [AS.del, h]
@[go_sem] theorem set_set (σ : AS) (i : Nat) (o o' : AObj) : (σ.set i o).set i o' = σ.set i o' := by
  funext j; simp only [AS.set]; split <;> rfl
theorem sub_refl (σ : AS) : σ.sub σ := fun _ _ h => h
theorem AS.sub.trans {σ τ υ : AS} (h : σ.sub τ) (h' : τ.sub υ) : σ.sub υ := fun i o x => h' i o (h i o x)
theorem sub_set {σ : AS} {i : Nat} (o : AObj) (h : σ i = none) : σ.sub (σ.set i o) := by
  intro j o' hj
  by_cases e : j = i
  · subst e; rw [h] at hj; cases hj
  · rw [set_ne σ o e]; exact hj

/- integers -/
@[go_sem] theorem bin_add : binD P .add t (.pv (.int k a)) (.pv (.int k b)) K = K (.pv (.int k (k.wrap (a + b)))) := by simp [binD, intOp]
@[go_sem] theorem bin_sub : binD P .sub t (.pv (.int k a)) (.pv (.int k b)) K = K (.pv (.int k (k.wrap (a - b)))) := by simp [binD, intOp]
@[go_sem] theorem bin_mul : binD P .mul t (.pv (.int k a)) (.pv (.int k b)) K = K (.pv (.int k (k.wrap (a * b)))) := by simp [binD, intOp]
@[go_sem] theorem bin_quo : binD P .quo t (.pv (.int k a)) (.pv (.int k b)) K = (b ≠ 0 ∧ K (.pv (.int k (k.wrap (a.tdiv b))))) := by simp [binD, intOp]
@[go_sem] theorem bin_rem : binD P .rem t (.pv (.int k a)) (.pv (.int k b)) K = (b ≠ 0 ∧ K (.pv (.int k (a.tmod b)))) := by simp [binD, intOp]
@[go_sem] theorem bin_and : binD P .and t (.pv (.int k a)) (.pv (.int k b)) K = K (.pv (.int k (k.wrap (BitVec.ofInt k.bits a &&& BitVec.ofInt k.bits b).toNat))) := by simp [binD, intOp]
@[go_sem] theorem bin_or : binD P .or t (.pv (.int k a)) (.pv (.int k b)) K = K (.pv (.int k (k.wrap (BitVec.ofInt k.bits a ||| BitVec.ofInt k.bits b).toNat))) := by simp [binD, intOp]
@[go_sem] theorem bin_xor : binD P .xor t (.pv (.int k a)) (.pv (.int k b)) K = K (.pv (.int k (k.wrap (BitVec.ofInt k.bits a ^^^ BitVec.ofInt k.bits b).toNat))) := by simp [binD, intOp]
@[go_sem] theorem bin_eql : binD P .eql t (.pv (.int k a)) (.pv (.int k b)) K = K (.pv (.bool (a == b))) := by simp [binD, intOp]
@[go_sem] theorem bin_neq : binD P .neq t (.pv (.int k a)) (.pv (.int k b)) K = K (.pv (.bool (a != b))) := by simp [binD, intOp]
@[go_sem] theorem bin_lss : binD P .lss t (.pv (.int k a)) (.pv (.int k b)) K = K (.pv (.bool (a < b))) := by simp [binD, intOp]
@[go_sem] theorem bin_leq : binD P .leq t (.pv (.int k a)) (.pv (.int k b)) K = K (.pv (.bool (a ≤ b))) := by simp [binD, intOp]
@[go_sem] theorem bin_gtr : binD P .gtr t (.pv (.int k a)) (.pv (.int k b)) K = K (.pv (.bool (a > b))) := by simp [binD, intOp]
@[go_sem] theorem bin_geq : binD P .geq t (.pv (.int k a)) (.pv (.int k b)) K = K (.pv (.bool (a ≥ b))) := by simp [binD, intOp]
@[go_sem] theorem bin_shl {k' : IntKind} : binD P .shl t (.pv (.int k a)) (.pv (.int k' b)) K = (0 ≤ b ∧ K (.pv (.int k (k.wrap (a * 2 ^ min b.toNat k.bits))))) := by simp [binD, shiftOp]
@[go_sem] theorem bin_shr {k' : IntKind} : binD P .shr t (.pv (.int k a)) (.pv (.int k' b)) K = (0 ≤ b ∧ K (.pv (.int k (a.fdiv (2 ^ min b.toNat k.bits))))) := by simp [binD, shiftOp]
/- texts -/
variable {x y : List UInt8}
@[go_sem] theorem bin_cat : binD P .add t (.pv (.str x)) (.pv (.str y)) K = (x.length + y.length ≤ 9223372036854775807 ∧ K (.pv (.str (x ++ y)))) := by simp [binD, strOp]
@[go_sem] theorem bin_seql : binD P .eql t (.pv (.str x)) (.pv (.str y)) K = K (.pv (.bool (x == y))) := by simp [binD, strOp]
@[go_sem] theorem bin_sneq : binD P .neq t (.pv (.str x)) (.pv (.str y)) K = K (.pv (.bool (!(x == y)))) := by simp [binD, strOp]
@[go_sem] theorem bin_slss : binD P .lss t (.pv (.str x)) (.pv (.str y)) K = K (.pv (.bool (Op.bytesLess x y))) := by simp [binD, strOp]
@[go_sem] theorem bin_sleq : binD P .leq t (.pv (.str x)) (.pv (.str y)) K = K (.pv (.bool (Op.bytesLess x y || x == y))) := by simp [binD, strOp]
@[go_sem] theorem bin_sgtr : binD P .gtr t (.pv (.str x)) (.pv (.str y)) K = K (.pv (.bool (!(Op.bytesLess x y || x == y)))) := by simp [binD, strOp]
@[go_sem] theorem bin_sgeq : binD P .geq t (.pv (.str x)) (.pv (.str y)) K = K (.pv (.bool (!(Op.bytesLess x y)))) := by simp [binD, strOp]
/- truth -/
theorem bin_beql {p q : Bool} (h : P.underlying t = some .bool) : binD P .eql t (.pv (.bool p)) (.pv (.bool q)) K = K (.pv (.bool (p == q))) := by simp [binD, eqD, h]
theorem bin_bneq {p q : Bool} (h : P.underlying t = some .bool) : binD P .neq t (.pv (.bool p)) (.pv (.bool q)) K = K (.pv (.bool (!(p == q)))) := by simp [binD, eqD, h]
@[go_sem] theorem un_not {p : Bool} : unD .not (.pv (.bool p)) K = K (.pv (.bool (!p))) := rfl
@[go_sem] theorem un_neg : unD .neg (.pv (.int k a)) K = K (.pv (.int k (k.wrap (0 - a)))) := rfl
@[go_sem] theorem cond_bool {p : Bool} {A B : Prop} : condD (.pv (.bool p)) A B = if p = true then A else B := rfl
@[go_sem] theorem guard_true {p : Bool} {A B : Prop} : guardD (.pv (.bool p)) true A B = if p = true then A else B := rfl
@[go_sem] theorem guard_false {p : Bool} {A B : Prop} : guardD (.pv (.bool p)) false A B = if p = true then B else A := by
  cases p <;> simp [guardD]
@[go_sem] theorem pick_bool {p : Bool} {A B : AV} : pickD (.pv (.bool p)) A B K = K (if p = true then A else B) := rfl
@[go_sem] theorem max_one : foldD max2D (.pv (.int k a)) [.pv (.int k b)] K = K (.pv (.int k (max a b))) := by
  simp only [foldD, max2D]
  congr 3
  omega
@[go_sem] theorem min_one : foldD min2D (.pv (.int k a)) [.pv (.int k b)] K = K (.pv (.int k (min a b))) := by
  simp only [foldD, min2D]
  congr 3
  omega
/- lengths -/
variable {n off id size : Nat} {cs : List PV} {i : Int}
theorem isSlice {e : TypeId} (h : elOf P t = some e) : P.underlying t = some (.slice e) := by
  unfold elOf at h; split at h
  · rename_i e' h'; cases h; exact h'
  · cases h
theorem isSlice' (h : (elOf P t).isSome = true) : P.underlying t = some (.slice ((elOf P t).getD 0)) := by
  cases he : elOf P t with
  | none => rw [he] at h; cases h
  | some e => simpa using isSlice he
@[go_sem] theorem len_lst (h : (elOf P t).isSome = true) : lenD P t (.pv (.lst n cs)) K = K (.pv (.int .i64 n)) := by simp only [lenD, isSlice' h]
@[go_sem] theorem len_grow (h : (elOf P t).isSome = true) : lenD P t (.grow id n cs) K = K (.pv (.int .i64 n)) := by simp only [lenD, isSlice' h]
@[go_sem] theorem len_full (h : (elOf P t).isSome = true) : lenD P t (.full n cs) K = K (.pv (.int .i64 n)) := by simp only [lenD, isSlice' h]
@[go_sem] theorem len_msl (h : (elOf P t).isSome = true) : lenD P t (.msl id off n size) K = K (.pv (.int .i64 n)) := by simp only [lenD, isSlice' h]
@[go_sem] theorem len_nil (h : (elOf P t).isSome = true) : lenD P t .nilS K = K (.pv (.int .i64 0)) := by simp only [lenD, isSlice' h]
theorem len_str (h : P.underlying t = some .string) : lenD P t (.pv (.str x)) K = K (.pv (.int .i64 x.length)) := by simp only [lenD, h]
/-- A value that shows a row. -/
theorem len_of {v : AV} (ht : (elOf P t).isSome = true) (h : toPV v = some (.lst n cs)) : lenD P t v K = K (.pv (.int .i64 n)) := by
  cases v with
  | pv p => simp only [toPV, Option.some.injEq] at h; subst h; exact len_lst ht
  | nilS => simp only [toPV, Option.some.injEq, PV.lst.injEq] at h; rw [← h.1]; exact len_nil ht
  | grow => simp only [toPV, Option.some.injEq, PV.lst.injEq] at h; rw [← h.1]; exact len_grow ht
  | full => simp only [toPV, Option.some.injEq, PV.lst.injEq] at h; rw [← h.1]; exact len_full ht
  | clo f a b => cases a <;> cases b <;> simp [toPV] at h
  | _ => simp [toPV] at h
/- places -/
/-- The place of an element: in an unchanging row. -/
@[go_sem] theorem ix_lst (h : (elOf P t).isSome = true) : indexAddrD P t (.pv (.lst n cs)) (.pv (.int k i)) K = ((inf P ((elOf P t).getD 0)).isSome = true ∧ n * szOf P ((elOf P t).getD 0) ≤ cs.length ∧ 0 < szOf P ((elOf P t).getD 0) ∧ 0 ≤ i ∧ i < (n : Int) ∧ K (.elemP cs (i.toNat * szOf P ((elOf P t).getD 0)))) := by
  simp only [indexAddrD, isSlice' h]
@[go_sem] theorem ix_grow (h : (elOf P t).isSome = true) : indexAddrD P t (.grow id n cs) (.pv (.int k i)) K = ((inf P ((elOf P t).getD 0)).isSome = true ∧ n * szOf P ((elOf P t).getD 0) ≤ cs.length ∧ 0 < szOf P ((elOf P t).getD 0) ∧ 0 ≤ i ∧ i < (n : Int) ∧ K (.elemP cs (i.toNat * szOf P ((elOf P t).getD 0)))) := by
  simp only [indexAddrD, isSlice' h]
@[go_sem] theorem ix_full (h : (elOf P t).isSome = true) : indexAddrD P t (.full n cs) (.pv (.int k i)) K = ((inf P ((elOf P t).getD 0)).isSome = true ∧ n * szOf P ((elOf P t).getD 0) ≤ cs.length ∧ 0 < szOf P ((elOf P t).getD 0) ∧ 0 ≤ i ∧ i < (n : Int) ∧ K (.elemP cs (i.toNat * szOf P ((elOf P t).getD 0)))) := by
  simp only [indexAddrD, isSlice' h]
@[go_sem] theorem ix_msl (h : (elOf P t).isSome = true) : indexAddrD P t (.msl id off n size) (.pv (.int k i)) K = ((inf P ((elOf P t).getD 0)).isSome = true ∧ 0 ≤ i ∧ i < (n : Int) ∧ K (.addr id (off + i.toNat * szOf P ((elOf P t).getD 0)))) := by
  simp only [indexAddrD, isSlice' h]
theorem ix_of {v : AV} (ht : (elOf P t).isSome = true) (h : toPV v = some (.lst n cs)) (h1 : (inf P ((elOf P t).getD 0)).isSome = true) (h2 : n * szOf P ((elOf P t).getD 0) ≤ cs.length) (h3 : 0 < szOf P ((elOf P t).getD 0)) (h4 : 0 ≤ i) (h5 : i < (n : Int)) (hK : K (.elemP cs (i.toNat * szOf P ((elOf P t).getD 0)))) :
    indexAddrD P t v (.pv (.int k i)) K := by
  cases v with
  | pv p => simp only [toPV, Option.some.injEq] at h; subst h; rw [ix_lst ht]; exact ⟨h1, h2, h3, h4, h5, hK⟩
  | nilS => simp only [toPV, Option.some.injEq, PV.lst.injEq] at h; omega
  | grow => simp only [toPV, Option.some.injEq, PV.lst.injEq] at h; obtain ⟨rfl, rfl⟩ := h; rw [ix_grow ht]; exact ⟨h1, h2, h3, h4, h5, hK⟩
  | full => simp only [toPV, Option.some.injEq, PV.lst.injEq] at h; obtain ⟨rfl, rfl⟩ := h; rw [ix_full ht]; exact ⟨h1, h2, h3, h4, h5, hK⟩
  | clo f a b => cases a <;> cases b <;> simp [toPV] at h
  | _ => simp [toPV] at h
theorem ix_str (h : P.underlying t = some .string) : indexD P t (.pv (.str x)) (.pv (.int k i)) K = (0 ≤ i ∧ ∃ b, x[i.toNat]? = some b ∧ K (.pv (.int .u8 b.toNat))) := by
  simp only [indexD, h, true_and]
  cases x[i.toNat]? <;> simp
variable {s f : Nat}
@[go_sem] theorem fa_addr (h : (fieldOff P s f).isSome = true) : fieldAddrD P s (.addr id off) f K = (hasT P ((fieldOff P s f).getD (0, 0)).2 = true ∧ 0 < szOf P ((fieldOff P s f).getD (0, 0)).2 ∧ K (.addr id (off + ((fieldOff P s f).getD (0, 0)).1))) := by
  cases e : fieldOff P s f with
  | none => rw [e] at h; cases h
  | some x => simp only [fieldAddrD, e, movePtr, Option.getD_some, Nat.pos_iff_ne_zero]
@[go_sem] theorem fa_elem (h : (fieldOff P s f).isSome = true) : fieldAddrD P s (.elemP cs off) f K = (hasT P ((fieldOff P s f).getD (0, 0)).2 = true ∧ 0 < szOf P ((fieldOff P s f).getD (0, 0)).2 ∧ K (.elemP cs (off + ((fieldOff P s f).getD (0, 0)).1))) := by
  cases e : fieldOff P s f with
  | none => rw [e] at h; cases h
  | some x => simp only [fieldAddrD, e, movePtr, Option.getD_some, Nat.pos_iff_ne_zero]
@[go_sem] theorem nil_addr : nilD (.addr id off) K = K (.addr id off) := rfl
@[go_sem] theorem nil_elem : nilD (.elemP cs off) K = K (.elemP cs off) := rfl
/- loads -/
@[go_sem] theorem load_elem (h : hasT P t = true) (h2 : aggB P t = false) : loadD P σ t (.elemP cs off) K = (∃ v, cs[off]? = some v ∧ K (.pv v)) := by
  simp only [loadD, h, h2, true_and]
  cases cs[off]? <;> simp
@[go_sem] theorem load_elemA (h : hasT P t = true) (h2 : aggB P t = true) : loadD P σ t (.elemP cs off) K = (off + szOf P t ≤ cs.length ∧ K (.agg (((cs.drop off).take (szOf P t)).map .pv))) := by simp [loadD, h, h2]
theorem load_addr (h : hasT P t = true) (h2 : aggB P t = false) {as : List AV} {var : Option TypeId} (h3 : σ id = some (.cells as var)) : loadD P σ t (.addr id off) K = (∃ v, as[off]? = some v ∧ K v) := by
  simp only [loadD, h, h2, h3, true_and]
  cases as[off]? <;> simp
theorem load_addrA (h : hasT P t = true) (h2 : aggB P t = true) {as : List AV} {var : Option TypeId} (h3 : σ id = some (.cells as var)) : loadD P σ t (.addr id off) K = (off + szOf P t ≤ as.length ∧ K (.agg ((as.drop off).take (szOf P t)))) := by simp [loadD, h, h2, h3]
theorem store_addr {K : AS → Prop} {v : AV} {as : List AV} {var : Option TypeId} (h : hasT P t = true) (h1 : v.cells.length = szOf P t) (h2 : v.cells.all AV.cellOk = true) (h3 : σ id = some (.cells as var)) :
    storeD P σ t (.addr id off) v K = (off + v.cells.length ≤ as.length ∧ K (σ.set id (.cells (setAll as off v.cells) var))) := by simp [storeD, h, h1, h2, h3]
theorem store_one {K : AS → Prop} {v : AV} {as : List AV} {var : Option TypeId} (h : hasT P t = true) (h1 : szOf P t = 1) (hv : v.cells = [v]) (h2 : v.cellOk = true) (h3 : σ id = some (.cells as var)) (ho : off < as.length) (hk : K (σ.set id (.cells (as.set off v) var))) :
    storeD P σ t (.addr id off) v K := by
  rw [store_addr h (by simp [hv, h1]) (by simp [hv, h2]) h3, hv]
  exact ⟨by simp; omega, hk⟩
/- rows -/
theorem toPVs_pv : ∀ ys : List PV, toPVs (ys.map .pv) = some ys
  | [] => rfl
  | y :: ys => by simp [toPVs, toPV, toPVs_pv ys]
theorem all_pv_ok : ∀ ys : List PV, (ys.map AV.pv).all AV.cellOk = true
  | [] => rfl
  | y :: ys => by simp [AV.cellOk]
/-- A type of rows, and its elements' type. -/
def RowT (P : Program) (t e : TypeId) : Prop := elOf P t = some e ∧ 0 < szOf P e ∧ ∃ z, zeroOf P e = some z ∧ z.length = szOf P e
section
variable {e : TypeId} {m : Nat} {ys : List PV} {v : AV} {K : AV → AS → Prop}
theorem app_nil (he : RowT P t e) (hx : shown P σ e v = some (m, ys)) (hl : ys.length = m * szOf P e) (hm : m ≠ 0) (hb : m * byOf P e ≤ 140737488355328) (hn : m ≤ 9223372036854775807)
    (h : ∀ id, σ id = none → K (.grow id m ys) (σ.set id (.front m (szOf P e) (some e)))) : appendD P false σ t .nilS v K := by
  obtain ⟨h1, h2, z, h3, h4⟩ := he
  simp only [appendD, appendCore, h1, h2, h3, h4, hx, hl, hm, if_false, true_and]
  refine ⟨hb, hn, ?_⟩
  simp only [newRowD, Bool.false_eq_true, if_false, toPVs_pv]
  exact h
theorem app_nilM (he : RowT P t e) (hx : shown P σ e v = some (m, ys)) (hl : ys.length = m * szOf P e) (hm : m ≠ 0) (hb : m * byOf P e ≤ 140737488355328) (hn : m ≤ 9223372036854775807)
    (h : ∀ id, σ id = none → K (.msl id 0 m (szOf P e)) (σ.set id (.cells (ys.map .pv) none))) : appendD P true σ t .nilS v K := by
  obtain ⟨h1, h2, z, h3, h4⟩ := he
  simp only [appendD, appendCore, h1, h2, h3, h4, hx, hl, hm, if_false, true_and]
  refine ⟨hb, hn, ?_⟩
  simp only [newRowD, if_true]
  exact ⟨all_pv_ok ys, h⟩
theorem app_grow {mu : Bool} (he : RowT P t e) (hx : shown P σ e v = some (m, ys)) (hl : ys.length = m * szOf P e) {mk : Option TypeId} (hg : σ id = some (.front n (szOf P e) mk)) (hm0 : m ≠ 0) (hc : cs.length = n * szOf P e) (hb : (n + m) * byOf P e ≤ 140737488355328) (hn : n + m ≤ 9223372036854775807)
    (h : K (.grow id (n + m) (cs ++ ys)) (σ.set id (.front (n + m) (szOf P e) (if mk = some e then mk else none)))) : appendD P mu σ t (.grow id n cs) v K := by
  obtain ⟨h1, h2, z, h3, h4⟩ := he
  simp only [appendD, appendCore, h1, h2, h3, h4, hx, hl, hg, hm0, if_false, true_and]
  exact ⟨hc, hb, hn, h⟩
theorem app_msl {mu : Bool} {as : List AV} (he : RowT P t e) (hx : shown P σ e v = some (m, ys)) (hl : ys.length = m * szOf P e) {var : Option TypeId} (hg : σ id = some (.cells as var)) (hs : size = szOf P e) (hc : as.length = off + n * szOf P e) (hb : (n + m) * byOf P e ≤ 140737488355328) (hn : n + m ≤ 9223372036854775807) (h0 : 0 < m)
    (h : ∀ id2, σ id2 = none → K (.msl id2 0 (n + m) size) ((σ.del id).set id2 (.cells (as.drop off ++ ys.map .pv) none))) : appendD P mu σ t (.msl id off n size) v K := by
  obtain ⟨h1, h2, z, h3, h4⟩ := he
  simp only [appendD, appendCore, h1, h2, h3, h4, hx, hl, hg, true_and]
  exact ⟨hs, hc, hb, hn, h0, h⟩
theorem make_mu {l c : Int} {z : List AV} (he : elOf P t = some e) (hT : hasT P e = true) (h0 : 0 < szOf P e) (hz : zeroOf P e = some z) (hzl : z.length = szOf P e) (hzo : z.all AV.cellOk = true) (hl : 0 ≤ l) (hlc : l ≤ c) (hc : c * byOf P e ≤ 281474976710656) (hc2 : c ≤ 9223372036854775807)
    (h : ∀ id, σ id = none → K (.msl id 0 l.toNat (szOf P e)) (σ.set id (.cells (List.flatten (List.replicate l.toNat z)) none))) : makeSliceD P true σ t (.pv (.int .i64 l)) (.pv (.int .i64 c)) K := by
  simp only [makeSliceD, he, hz, newRowD, if_true]
  refine ⟨hT, h0, hl, hlc, hc, hc2, hzl, ?_, h⟩
  simp only [List.all_eq_true] at hzo ⊢
  intro x hx
  obtain ⟨y, hy, hxy⟩ := List.mem_flatten.1 hx
  obtain ⟨_, rfl⟩ := List.mem_replicate.1 hy
  exact hzo x hxy
end
theorem alloc_of {K : AV → AS → Prop} {z : List AV} (h : zeroOf P t = some z) (h2 : z.all AV.cellOk = true) (hK : ∀ id, σ id = none → K (.addr id 0) (σ.set id (.cells z (some t)))) : allocD P σ t K := by
  simp only [allocD, h]
  exact ⟨h2, hK⟩
/- the end -/
theorem retV_self {K : AV → AS → Prop} {v : AV} (h : K v σ) : retV v σ K := ⟨v, σ, .inl (.inl rfl), sub_refl σ, h⟩
theorem retV_pv {K : AV → AS → Prop} {v : AV} {p : PV} (hp : toPV v = some p) (h : K (.pv p) σ) : retV v σ K := ⟨_, σ, .inl (.inr ⟨p, hp, rfl⟩), sub_refl σ, h⟩
theorem wkL_refl : ∀ l : List AV, wkL l l
  | [] => trivial
  | a :: l => ⟨.inl rfl, wkL_refl l⟩
theorem retV_sub {K : AV → AS → Prop} {v : AV} (hs : τ.sub σ) (h : K v τ) : retV v σ K := ⟨v, τ, .inl (.inl rfl), hs, h⟩
theorem wrap64 {n : Int} (h : -9223372036854775808 ≤ n) (h' : n < 9223372036854775808) : IntKind.wrap .i64 n = n := by
  have e : IntKind.wrap .i64 n = if n % 18446744073709551616 ≥ 9223372036854775808 then n % 18446744073709551616 - 18446744073709551616 else n % 18446744073709551616 := by
    simp [IntKind.wrap, IntKind.bits, IntKind.signed]
  rw [e]
  split <;> omega
end
attribute [go_sem] Nat.le_refl Nat.zero_lt_one Nat.zero_lt_succ Int.toNat_natCast Int.natCast_nonneg Option.isSome_some Option.getD_some decide_eq_true_eq Nat.mul_one Nat.zero_add Nat.add_zero true_and and_true
/-- A call may be handed more than its transformer asks. -/
def Tr.wk (T : Tr) : Tr := fun args σ K X => ∃ args', wkL args args' ∧ T args' σ K X
theorem Tr.wk_intro {T : Tr} {args args' : List AV} {σ : AS} {K : AV → AS → Prop} {X : PV → AS → Prop} (h : wkL args args') (hT : T args' σ K X) : Tr.wk T args σ K X := ⟨args', h, hT⟩
theorem Tr.wk_same {T : Tr} {args : List AV} {σ : AS} {K : AV → AS → Prop} {X : PV → AS → Prop} (hT : T args σ K X) : Tr.wk T args σ K X := ⟨args, wkL_refl args, hT⟩
theorem SoundF.wk {P : Program} {f : FuncId} {T : Tr} (S : SoundF P f T) : SoundF P f (Tr.wk T) := by
  rintro w0 hS ρ σ w args us K X H hr ⟨args', hw, hT⟩
  exact S w0 hS ρ σ w args' us K X H (wkL_sound hr hw) hT
/-- Whole numbers that came in. -/
def i64s (l : List Int) : List PV := l.map fun n => .int .i64 n
@[go_sem] theorem i64s_length (l : List Int) : (i64s l).length = l.length := by simp [i64s]
theorem i64s_get (l : List Int) (i : Nat) (h : i < l.length) : (i64s l)[i]? = some (.int .i64 l[i]) := by simp [i64s, h]
def in64 (n : Int) : Prop := -9223372036854775808 ≤ n ∧ n < 9223372036854775808
end Go.AD
