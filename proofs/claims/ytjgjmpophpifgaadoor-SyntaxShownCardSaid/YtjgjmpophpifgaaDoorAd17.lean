/- Numbers and texts in the calculus, in one spelling, for simp with omega behind it. -/
import Derived.Test.YtjgjmpophpifgaaDoorAd15
set_option linter.unusedVariables false
namespace Go.AD
/- whole numbers: a counter is a natural number -/
@[go_sem] theorem nAdd (a b : Nat) : (a : Int) + (b : Int) = ((a + b : Nat) : Int) := rfl
@[go_sem] theorem nAddL (a k : Nat) [NeZero k] : (a : Int) + (no_index (OfNat.ofNat k) : Int) = ((a + OfNat.ofNat k : Nat) : Int) := rfl
@[go_sem] theorem nLAdd (a k : Nat) [NeZero k] : (no_index (OfNat.ofNat k) : Int) + (a : Int) = ((OfNat.ofNat k + a : Nat) : Int) := rfl
@[go_sem] theorem nAdd1 (a : Nat) : (a : Int) + 1 = ((a + 1 : Nat) : Int) := rfl
@[go_sem] theorem nSub (a b : Nat) (h : b ≤ a) : (a : Int) - (b : Int) = ((a - b : Nat) : Int) := by omega
@[go_sem] theorem nSub1 (a : Nat) (h : 1 ≤ a) : (a : Int) - 1 = ((a - 1 : Nat) : Int) := by omega
@[go_sem] theorem nSubL (a k : Nat) [NeZero k] (h : OfNat.ofNat k ≤ a) : (a : Int) - (no_index (OfNat.ofNat k) : Int) = ((a - OfNat.ofNat k : Nat) : Int) := nSub a k h
@[go_sem] theorem nMax (a b : Nat) : max (a : Int) (b : Int) = ((max a b : Nat) : Int) := by omega
@[go_sem] theorem nMin (a b : Nat) : min (a : Int) (b : Int) = ((min a b : Nat) : Int) := by omega
@[go_sem] theorem nLt (a b : Nat) : ((a : Int) < (b : Int)) = (a < b) := by simp
@[go_sem] theorem nLe (a b : Nat) : ((a : Int) ≤ (b : Int)) = (a ≤ b) := by simp
@[go_sem] theorem nEq (a b : Nat) : ((a : Int) = (b : Int)) = (a = b) := propext ⟨by omega, by omega⟩
@[go_sem] theorem nLtL (a k : Nat) [NeZero k] : ((a : Int) < (no_index (OfNat.ofNat k) : Int)) = (a < OfNat.ofNat k) := nLt a k
@[go_sem] theorem nLeL (a k : Nat) [NeZero k] : ((a : Int) ≤ (no_index (OfNat.ofNat k) : Int)) = (a ≤ OfNat.ofNat k) := nLe a k
@[go_sem] theorem nLLt (a k : Nat) [NeZero k] : ((no_index (OfNat.ofNat k) : Int) < (a : Int)) = (OfNat.ofNat k < a) := nLt k a
@[go_sem] theorem nLLe (a k : Nat) [NeZero k] : ((no_index (OfNat.ofNat k) : Int) ≤ (a : Int)) = (OfNat.ofNat k ≤ a) := nLe k a
@[go_sem] theorem nEqL (a k : Nat) [NeZero k] : ((a : Int) = (no_index (OfNat.ofNat k) : Int)) = (a = OfNat.ofNat k) := nEq a k
/-- Two ways, without a look into the test (a look into 'x < 57344' of whole numbers does not end). -/
theorem iteI {c : Prop} [Decidable c] {A B : Prop} (h1 : c → A) (h2 : ¬ c → B) : if c then A else B := by
  by_cases h : c
  · rw [if_pos h]; exact h1 h
  · rw [if_neg h]; exact h2 h
@[go_sem] theorem nBeq (a b : Nat) : ((a : Int) == (b : Int)) = (a == b) := by
  rw [Bool.eq_iff_iff]; simp only [beq_iff_eq]; omega
@[go_sem] theorem nBeqL (a k : Nat) [NeZero k] : ((a : Int) == (no_index (OfNat.ofNat k) : Int)) = (a == OfNat.ofNat k) := nBeq a k
@[go_sem] theorem nBeq0 (a : Nat) : ((a : Int) == 0) = (a == 0) := nBeq a 0
@[go_sem] theorem nLt0 (a : Nat) : ((0 : Int) < (a : Int)) = (0 < a) := nLt 0 a
@[go_sem] theorem nLe0 (a : Nat) : ((a : Int) ≤ 0) = (a ≤ 0) := nLe a 0
@[go_sem] theorem nEq0 (a : Nat) : ((a : Int) = 0) = (a = 0) := nEq a 0
@[go_sem] theorem nGt (a b : Int) : (a > b) = (b < a) := rfl
@[go_sem] theorem nGe (a b : Int) : (a ≥ b) = (b ≤ a) := rfl
@[go_sem] theorem nTmod (a k : Nat) : (a : Int).tmod (k : Int) = ((a % k : Nat) : Int) := rfl
@[go_sem] theorem nTmodL (a k : Nat) [NeZero k] : (a : Int).tmod (no_index (OfNat.ofNat k) : Int) = ((a % OfNat.ofNat k : Nat) : Int) := rfl
@[go_sem] theorem nTdiv (a k : Nat) : (a : Int).tdiv (k : Int) = ((a / k : Nat) : Int) := rfl
@[go_sem] theorem nTdivL (a k : Nat) [NeZero k] : (a : Int).tdiv (no_index (OfNat.ofNat k) : Int) = ((a / OfNat.ofNat k : Nat) : Int) := rfl
theorem nFdiv (a k : Nat) : (a : Int).fdiv (k : Int) = ((a / k : Nat) : Int) := by rw [Int.fdiv_eq_ediv_of_nonneg _ (by omega)]; rfl
@[go_sem] theorem nMul (a b : Nat) : (a : Int) * (b : Int) = ((a * b : Nat) : Int) := rfl
@[go_sem] theorem nMulL (a k : Nat) [NeZero k] : (a : Int) * (no_index (OfNat.ofNat k) : Int) = ((a * OfNat.ofNat k : Nat) : Int) := rfl
@[go_sem] theorem wrapU8 {n : Int} (h : 0 ≤ n) (h' : n < 256) : IntKind.wrap .u8 n = n := by
  have e : IntKind.wrap .u8 n = n % 256 := by simp [IntKind.wrap, IntKind.bits, IntKind.signed]
  rw [e]; omega
@[go_sem] theorem wrap32 {n : Int} (h : -2147483648 ≤ n) (h' : n < 2147483648) : IntKind.wrap .i32 n = n := by
  have e : IntKind.wrap .i32 n = if n % 4294967296 ≥ 2147483648 then n % 4294967296 - 4294967296 else n % 4294967296 := by simp [IntKind.wrap, IntKind.bits, IntKind.signed]
  rw [e]
  split <;> omega
theorem u8lt (c : UInt8) : c.toNat < 256 := c.toNat_lt
/-- What holds of each number below 256 holds of each byte. -/
theorem allU8 {p : UInt8 → Prop} (h : ∀ n : Fin 256, p (UInt8.ofFin n)) (c : UInt8) : p c := by
  have := h c.toFin
  simpa using this
theorem take_snocD {α : Type} {s : List α} {i : Nat} {d : α} (hi : i < s.length) : s.take (i + 1) = s.take i ++ [s.getD i d] := by
  rw [List.take_succ_eq_append_getElem hi]; simp [hi]
theorem drop_consD {α : Type} {s : List α} {i : Nat} {d : α} (hi : i < s.length) : s.drop i = s.getD i d :: s.drop (i + 1) := by
  rw [List.drop_eq_getElem_cons hi]; simp [hi]
section
variable {P : Program} {σ : AS} {t id off : Nat} {K : AV → Prop} {k : IntKind}
/- a text's bytes -/
theorem ixS (h : P.underlying t = some .string) {x : List UInt8} {i : Nat} (hi : i < x.length) : indexD P t (.pv (.str x)) (.pv (.int k i)) K = K (.pv (.int .u8 (x.getD i 0).toNat)) := by
  rw [ix_str h]
  simp [hi]
/- a text's parts -/
theorem slS (h : P.underlying t = some .string) {x : List UInt8} {i : Nat} (hi : i ≤ x.length) : sliceD P t (.pv (.str x)) (some (.pv (.int k i))) none K = K (.pv (.str (x.drop i))) := by
  simp [sliceD, h, cutAt, hi]
theorem slS0 (h : P.underlying t = some .string) {x : List UInt8} {i : Nat} (hi : i ≤ x.length) : sliceD P t (.pv (.str x)) none (some (.pv (.int k i))) K = K (.pv (.str (x.take i))) := by
  simp [sliceD, h, cutAt, hi]
theorem slS2 (h : P.underlying t = some .string) {k' : IntKind} {x : List UInt8} {i j : Nat} (hi : i ≤ j) (hj : j ≤ x.length) : sliceD P t (.pv (.str x)) (some (.pv (.int k i))) (some (.pv (.int k' j))) K = K (.pv (.str ((x.take j).drop i))) := by
  simp [sliceD, h, cutAt, hi, hj]
/- one's own cells -/
def ldM : Option AObj → Nat → (AV → Prop) → Prop
  | some (.cells cs _), off, K => ∃ v, cs[off]? = some v ∧ K v
  | _, _, _ => False
def stM (σ : AS) (id : Nat) : Option AObj → Nat → AV → (AS → Prop) → Prop
  | some (.cells cs var), off, v, K => off < cs.length ∧ K (σ.set id (.cells (cs.set off v) var))
  | _, _, _, _ => False
theorem ldM_cells {cs : List AV} {var : Option TypeId} : ldM (some (.cells cs var)) off K = ∃ v, cs[off]? = some v ∧ K v := rfl
theorem stM_cells {cs : List AV} {var : Option TypeId} {v : AV} {K : AS → Prop} : stM σ id (some (.cells cs var)) off v K = (off < cs.length ∧ K (σ.set id (.cells (cs.set off v) var))) := rfl
theorem ldA (h : hasT P t = true) (h2 : aggB P t = false) : loadD P σ t (.addr id off) K = ldM (σ id) off K := by
  simp only [loadD, h, h2, true_and]
  cases σ id with
  | none => rfl
  | some o =>
    cases o with
    | cells cs var => simp only [ldM]; cases cs[off]? <;> simp
    | _ => rfl
theorem stA {v : AV} {K : AS → Prop} (h : hasT P t = true) (h1 : szOf P t = 1) (hv : v.cells = [v]) (h2 : v.cellOk = true) : storeD P σ t (.addr id off) v K = stM σ id (σ id) off v K := by
  simp only [storeD, h, h1, hv, h2, List.length_singleton, List.all_cons, List.all_nil, Bool.and_self, true_and]
  cases σ id with
  | none => rfl
  | some o =>
    cases o with
    | cells cs var =>
      simp only [stM, setAll]
      exact propext ⟨fun h => ⟨by omega, h.2⟩, fun h => ⟨by omega, h.2⟩⟩
    | _ => rfl
end
theorem cvI {P : Program} {σ : AS} {s d : TypeId} {k k' : IntKind} {n : Int} {K : AV → Prop} (hs : (P.underlying s).isSome = true) (hd : P.underlying d = some (.int k)) : convD P σ s d (.pv (.int k' n)) K = K (.pv (.int k (k.wrap n))) := by
  cases e : P.underlying s with
  | none => rw [e] at hs; cases hs
  | some x => simp [convD, e, hd]
theorem cvS {P : Program} {σ : AS} {s d : TypeId} {k' : IntKind} {n : Int} {K : AV → Prop} (hs : (P.underlying s).isSome = true) (hd : P.underlying d = some .string) : convD P σ s d (.pv (.int k' n)) K = K (.pv (.str (Utf8.encode n).data.toList)) := by
  cases e : P.underlying s with
  | none => rw [e] at hs; cases hs
  | some x => cases x <;> simp [convD, e, hd]
@[go_sem] theorem ext_tuple {vs : List AV} {i : Nat} {K : AV → Prop} : extractD (.tuple vs) i K = ∃ v, vs[i]? = some v ∧ K v := by
  simp only [extractD]
  cases vs[i]? <;> simp
theorem fIff {p : Prop} (h : ¬ p) : (false = true ↔ p) := ⟨fun e => absurd e (by decide), fun e => absurd e h⟩
theorem tIff {p : Prop} (h : p) : (true = true ↔ p) := ⟨fun _ => h, fun _ => rfl⟩
theorem dIff {p q : Prop} [Decidable p] (h : p ↔ q) : (decide p = true ↔ q) := ⟨fun e => h.1 (of_decide_eq_true e), fun e => decide_eq_true (h.2 e)⟩
theorem eIff {a b : Nat} {q : Prop} (h : a = b ↔ q) : ((a == b) = true ↔ q) := ⟨fun e => h.1 (eq_of_beq e), fun e => beq_iff_eq.2 (h.2 e)⟩
theorem wkN : wkL [] [] := trivial
theorem wkS {a : AV} {as bs : List AV} (h : wkL as bs) : wkL (a :: as) (a :: bs) := ⟨.inl rfl, h⟩
theorem wkP {a : AV} {p : PV} {as bs : List AV} (hp : toPV a = some p) (h : wkL as bs) : wkL (a :: as) (.pv p :: bs) := ⟨.inr ⟨p, hp, rfl⟩, h⟩
theorem pvC (p : PV) : AV.cells (.pv p) = [.pv p] := rfl
theorem someEx {α : Type} {a : α} {p : α → Prop} : (∃ v, some a = some v ∧ p v) = p a := by simp
theorem pvBytes_len (l : List UInt8) : (pvBytes l).length = l.length := by simp [pvBytes]
theorem pvBytes_app (l r : List UInt8) : pvBytes (l ++ r) = pvBytes l ++ pvBytes r := by simp [pvBytes]
theorem pvBytes_get (l : List UInt8) (i : Nat) (h : i < l.length) : (pvBytes l)[i]? = some (.int .u8 (l.getD i 0).toNat) := by simp [pvBytes, h]
theorem bytesOf_pvBytes (l : List UInt8) : bytesOfPV (pvBytes l) = some l := by
  induction l with
  | nil => rfl
  | cons c l ih =>
    simp only [pvBytes, List.map_cons] at ih ⊢
    simp [bytesOfPV, ih]
/-! ### a row that grows, beside a store that stays -/
structure Grow (P : Program) (e : TypeId) (σ0 σ : AS) (v : AV) (n : Nat) (cs : List PV) : Prop where
  sub : σ0.sub σ
  row : (v = .nilS ∧ n = 0 ∧ cs = []) ∨ ∃ id mk, v = .grow id n cs ∧ 0 < n ∧ σ id = some (.front n (szOf P e) mk) ∧ σ0 id = none
  len : cs.length = n * szOf P e
section
variable {P : Program} {σ0 σ : AS} {t e : TypeId} {v x : AV} {n m : Nat} {cs ys : List PV}
theorem Grow.start (P : Program) (e : TypeId) (σ : AS) : Grow P e σ σ .nilS 0 [] := ⟨sub_refl σ, .inl ⟨rfl, rfl, rfl⟩, by simp⟩
theorem Grow.toPV (G : Grow P e σ0 σ v n cs) : toPV v = some (.lst n cs) := by
  rcases G.row with ⟨rfl, rfl, rfl⟩ | ⟨id, mk, rfl, _⟩ <;> rfl
theorem shown_toPV {P : Program} {σ : AS} {e : TypeId} {v : AV} {n : Nat} {cs : List PV} (h : Go.AD.toPV v = some (.lst n cs)) : shown P σ e v = some (n, cs) := by
  cases v with
  | pv p => simp only [Go.AD.toPV, Option.some.injEq] at h; subst h; rfl
  | nilS => simp only [Go.AD.toPV, Option.some.injEq, PV.lst.injEq] at h; simp [shown, h]
  | grow => simp only [Go.AD.toPV, Option.some.injEq, PV.lst.injEq] at h; simp [shown, h]
  | full => simp only [Go.AD.toPV, Option.some.injEq, PV.lst.injEq] at h; simp [shown, h]
  | clo f a b => cases a <;> cases b <;> simp [Go.AD.toPV] at h
  | _ => simp [Go.AD.toPV] at h
theorem Grow.append {K : AV → AS → Prop} (G : Grow P e σ0 σ v n cs) (hT : RowT P t e) (hx : shown P σ e x = some (m, ys)) (hl : ys.length = m * szOf P e) (hm : 0 < m) (hb : (n + m) * byOf P e ≤ 140737488355328) (hn : n + m ≤ 9223372036854775807)
    (h : ∀ v' σ', Grow P e σ0 σ' v' (n + m) (cs ++ ys) → K v' σ') : appendD P false σ t v x K := by
  rcases G.row with ⟨rfl, rfl, rfl⟩ | ⟨id, mk, rfl, h0, hg, hg0⟩
  · refine app_nil hT hx hl (by omega) (by simpa using hb) (by omega) ?_
    intro id hid
    have h0 : σ0 id = none := by
      cases e : σ0 id with
      | none => rfl
      | some o => rw [G.sub _ _ e] at hid; cases hid
    exact h _ _ ⟨G.sub.trans (sub_set _ hid), .inr ⟨id, some e, by simp, by omega, by simp [set_same], h0⟩, by simp [hl]⟩
  · refine app_grow hT hx hl hg (by omega) G.len hb hn ?_
    refine h _ _ ⟨?_, .inr ⟨id, _, rfl, by omega, set_same _ _ _, hg0⟩, by rw [List.length_append, G.len, hl, Nat.add_mul]⟩
    intro j o hj
    have : j ≠ id := by intro e; rw [e, hg0] at hj; cases hj
    rw [set_ne _ _ this]
    exact G.sub j o hj
end
section
variable {P : Program} {σ : AS} {t t' e : TypeId} {v : AV} {ys : List PV}
theorem build1 {K : AV → AS → Prop} (hT : RowT P t e) (h1 : hasT P e = true) (h2 : v.cells.length = szOf P e) (h3 : toPVs v.cells = some ys) (h4 : v.cells.all AV.cellOk = true) (h5 : szOf P e ≤ 16777216) :
    buildSliceD P false σ t 1 1 [(0, v)] K = K (.full 1 ys) σ := by
  obtain ⟨a1, a2, z, a3, a4⟩ := hT
  simp [buildSliceD, a1, a2, a3, h1, h2, h5, elemsFill, h4, h3]
theorem conv_bytes {K : AV → Prop} {l : List UInt8} (hs : P.underlying t = some (.slice e)) (hd : P.underlying t' = some .string) (he : P.underlying e = some (.int .u8)) (h1 : szOf P e = 1) (h : toPV v = some (.lst l.length (pvBytes l))) : convD P σ t t' v K = K (.pv (.str l)) := by
  have hl := pvBytes_len l
  have hb := bytesOf_pvBytes l
  cases v with
  | pv p => simp only [toPV, Option.some.injEq] at h; subst h; simp [convD, hs, hd, he, h1, shown, hb, hl]
  | nilS => simp only [toPV, Option.some.injEq, PV.lst.injEq] at h; rw [← h.2] at hb hl; simp only [convD, hs, hd, he, h1, shown]; rw [hb]; simp
  | grow => simp only [toPV, Option.some.injEq, PV.lst.injEq] at h; obtain ⟨rfl, rfl⟩ := h; simp [convD, hs, hd, he, h1, shown, hb, hl]
  | full => simp only [toPV, Option.some.injEq, PV.lst.injEq] at h; obtain ⟨rfl, rfl⟩ := h; simp [convD, hs, hd, he, h1, shown, hb, hl]
  | clo f a b => cases a <;> cases b <;> simp [toPV] at h
  | _ => simp [toPV] at h
end
attribute [go_sem] wrap64 someEx
end Go.AD
