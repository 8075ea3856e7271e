/- sched: the tree of sums. -/
import Derived.Test.YtcaidbmopehjhaaS1
import Derived.Test.YtcaidbmopehjhaaG6
import Derived.Test.YtcaidbmopehjhaaTz
set_option linter.unusedVariables false
set_option maxRecDepth 100000
namespace Go.AD.Sc
open Go.Proofs
noncomputable abbrev PS := Go.Proofs.Try.prog
def intsA (l : List Int) : List AV := (i64s l).map .pv
theorem intsA_len (l : List Int) : (intsA l).length = l.length := by simp [intsA, i64s]
theorem intsA_get (l : List Int) (i : Nat) (h : i < l.length) : (intsA l)[i]? = some (.pv (.int .i64 (l.getD i 0))) := by simp [intsA, i64s, h]
theorem i64s_getD (l : List Int) (i : Nat) (h : i < l.length) : (i64s l)[i]? = some (.int .i64 (l.getD i 0)) := by simp [i64s, h]
theorem intsA_set (l : List Int) (i : Nat) (v : Int) : (intsA l).set i (.pv (.int .i64 v)) = intsA (l.set i v) := by simp [intsA, i64s, List.map_set]
theorem intsA_rep (n : Nat) : List.flatten (List.replicate n [AV.pv (.int .i64 0)]) = intsA (List.replicate n 0) := by
  induction n with
  | zero => rfl
  | succ n ih => simp only [List.replicate_succ, List.flatten_cons, ih]; rfl
theorem getDI_set (l : List Int) (i j : Nat) (v : Int) (h : i < l.length) : (l.set i v).getD j 0 = if j = i then v else l.getD j 0 := by
  simp only [List.getD_eq_getElem?_getD, List.getElem?_set]
  by_cases e : i = j
  · subst e; simp [h]
  · rw [if_neg e, if_neg (Ne.symm e)]
/-! ### the plain law -/
structure TreeOk (n : Nat) (sum : List Int) (leaf : Nat → Int) : Prop where
  len : sum.length = 2 * n
  lf : ∀ j, j < n → sum.getD (n + j) 0 = leaf j
  nd : ∀ a, 1 ≤ a → a < n → sum.getD a 0 = sum.getD (2 * a) 0 + sum.getD (2 * a + 1) 0
def Bits (leaf : Nat → Int) : Prop := ∀ j, leaf j = 0 ∨ leaf j = 1
theorem tree_bd {n : Nat} {sum : List Int} {leaf : Nat → Int} (h : TreeOk n sum leaf) (hb : Bits leaf) : ∀ (d b : Nat), 2 * n - b = d → 1 ≤ b → b < 2 * n → 0 ≤ sum.getD b 0 ∧ (b : Int) * sum.getD b 0 ≤ 2 * n := by
  intro d
  induction d using Nat.strongRecOn with
  | _ d ih =>
    intro b hd h1 h2
    by_cases hn : b < n
    · obtain ⟨x0, x1⟩ := ih (2 * n - 2 * b) (by omega) (2 * b) rfl (by omega) (by omega)
      obtain ⟨y0, y1⟩ := ih (2 * n - (2 * b + 1)) (by omega) (2 * b + 1) rfl (by omega) (by omega)
      rw [h.nd b h1 hn]
      generalize sum.getD (2 * b) 0 = x at *
      generalize sum.getD (2 * b + 1) 0 = y at *
      refine ⟨by omega, ?_⟩
      have e1 : ((2 * b : Nat) : Int) * x = 2 * ((b : Int) * x) := by
        rw [show ((2 * b : Nat) : Int) = 2 * (b : Int) by omega, Int.mul_assoc]
      have e2 : ((2 * b + 1 : Nat) : Int) * y = 2 * ((b : Int) * y) + y := by
        rw [show ((2 * b + 1 : Nat) : Int) = 2 * (b : Int) + 1 by omega, Int.add_mul, Int.mul_assoc, Int.one_mul]
      rw [Int.mul_add]
      omega
    · obtain ⟨j, rfl⟩ : ∃ j, b = n + j := ⟨b - n, by omega⟩
      rw [h.lf j (by omega)]
      rcases hb j with e | e <;> rw [e] <;> omega
theorem tree_le {n : Nat} {sum : List Int} {leaf : Nat → Int} (h : TreeOk n sum leaf) (hb : Bits leaf) (b : Nat) (h1 : 1 ≤ b) (h2 : b < 2 * n) : 0 ≤ sum.getD b 0 ∧ sum.getD b 0 ≤ 2 * n := by
  obtain ⟨x, y⟩ := tree_bd h hb _ b rfl h1 h2
  refine ⟨x, ?_⟩
  have : 1 * sum.getD b 0 ≤ (b : Int) * sum.getD b 0 := Int.mul_le_mul_of_nonneg_right (by omega) x
  omega
/-- How many ones ahead of a place. -/
def pre (leaf : Nat → Int) : Nat → Int
  | 0 => 0
  | i + 1 => pre leaf i + leaf i
theorem tree_sum {n : Nat} {sum : List Int} {leaf : Nat → Int} (h : TreeOk n sum leaf) : ∀ (k a : Nat), n ≤ a * 2 ^ k → a * 2 ^ k + 2 ^ k ≤ 2 * n → sum.getD a 0 = pre leaf (a * 2 ^ k - n + 2 ^ k) - pre leaf (a * 2 ^ k - n) := by
  intro k
  induction k with
  | zero =>
    intro a h1 h2
    simp only [Nat.pow_zero, Nat.mul_one] at h1 h2 ⊢
    obtain ⟨j, rfl⟩ : ∃ j, a = n + j := ⟨a - n, by omega⟩
    rw [h.lf j (by omega), show n + j - n = j by omega, pre]
    omega
  | succ k ih =>
    intro a h1 h2
    have e1 : a * 2 ^ (k + 1) = 2 * a * 2 ^ k := by rw [Nat.pow_succ, Nat.mul_comm 2 a, Nat.mul_assoc, Nat.mul_comm 2]
    have e2 : (2 * a + 1) * 2 ^ k = 2 * a * 2 ^ k + 2 ^ k := by rw [Nat.add_mul, Nat.one_mul]
    have e3 : 2 ^ (k + 1) = 2 ^ k + 2 ^ k := by rw [Nat.pow_succ]; omega
    rw [e1] at h1 h2
    rw [e3] at h2
    have hk : 1 ≤ 2 ^ k := Nat.one_le_two_pow
    have ha : 1 ≤ a := by
      rcases Nat.eq_zero_or_pos a with h0 | h0
      · subst h0; simp at h1; omega
      · exact h0
    have han : a < n := by
      have : 2 * a * 1 ≤ 2 * a * 2 ^ k := Nat.mul_le_mul_left _ hk
      omega
    rw [h.nd a ha han, ih (2 * a) (by omega) (by omega), ih (2 * a + 1) (by omega) (by omega), e1, e2, e3]
    rw [show 2 * a * 2 ^ k + 2 ^ k - n = 2 * a * 2 ^ k - n + 2 ^ k by omega, show 2 * a * 2 ^ k - n + (2 ^ k + 2 ^ k) = 2 * a * 2 ^ k - n + 2 ^ k + 2 ^ k by omega]
    omega
def updL (leaf : Nat → Int) (i : Nat) (v : Int) : Nat → Int := fun j => if j = i then v else leaf j
/-! ### the walk -/
def treeO (t s n : Nat) (sum : List Int) : Objs := [(t, .cells [.pv (.int .i64 n), .msl s 0 (2 * n) 1] none), (s, .cells (intsA sum) none)]
def bitOf (b : Bool) : Int := if b then 1 else 0
def T55 : Tr := fun args σ K _ => ∃ (σ0 : AS) (t s n i : Nat) (sum : List Int) (leaf : Nat → Int) (may : Bool), args = [.addr t 0, .pv (.int .i64 i), .pv (.bool may)] ∧ Sep σ0 σ (treeO t s n sum) ∧ i < n ∧ n ≤ 8192 ∧ TreeOk n sum leaf ∧ Bits leaf ∧
  ∀ σ' sum', Sep σ0 σ' (treeO t s n sum') → TreeOk n sum' (updL leaf i (bitOf may)) → K (.tuple []) σ'
theorem T55_ok {env : Env} (args : List AV) (σ : AS) (K : AV → AS → Prop) (X : PV → AS → Prop) (h : T55 args σ K X) : bodyD PS env an55 Try.f55 args σ K X := by
  obtain ⟨σ0, t, s, n, i, sum0, leaf, may, rfl, hS, hi, hn, hT, hB, hK⟩ := h
  rw [← S55_eq env, S55]
  have ht : σ t = some (.cells [.pv (.int .i64 n), .msl s 0 (2 * n) 1] none) := hS.get (by simp [treeO])
  have hs : σ s = some (.cells (intsA sum0) none) := hS.get (by simp [treeO])
  have j3 : ∀ v : Int, v = bitOf may → J55_3 env (.addr t 0) (.pv (.int .i64 i)) (.pv (.int .i64 v)) σ K X := by
    intro v hv
    have hv1 : v = 0 ∨ v = 1 := by rw [hv]; cases may <;> simp [bitOf]
    have hlen := hT.len
    have hb0 := tree_le hT hB (n + i) (by omega) (by omega)
    have hlf := hB i
    unfold J55_3
    simp (disch := omega) only [go_sem, T.ixm22, ht, hs, ldM_cells, List.getElem?_cons_zero, List.getElem?_cons_succ, intsA_get]
    rw [hT.lf i hi]
    generalize hd : v - leaf i = d
    have hdb : -1 ≤ d ∧ d ≤ 1 := by omega
    refine lp55_4 (fun (a : Nat × List Int) _ => a.1) (fun a τ => a.1 < 2 * n ∧ Sep σ0 τ (treeO t s n a.2) ∧ a.2.length = 2 * n ∧ (∀ b, 1 ≤ b → b < n → b ≠ a.1 → a.2.getD b 0 = a.2.getD (2 * b) 0 + a.2.getD (2 * b + 1) 0) ∧ (1 ≤ a.1 → a.1 < n → a.2.getD a.1 0 + d = a.2.getD (2 * a.1) 0 + a.2.getD (2 * a.1 + 1) 0) ∧
      (∀ b, b ≤ a.1 → a.2.getD b 0 = sum0.getD b 0) ∧ (a.1 = n + i ∧ (∀ j, j < n → a.2.getD (n + j) 0 = leaf j) ∨ a.1 < n ∧ (∀ j, j < n → a.2.getD (n + j) 0 = updL leaf i v j))) (fun a => .pv (.int .i64 a.1)) (n + i, sum0)
      ⟨by simp only; omega, hS, hlen, fun b h1 h2 _ => hT.nd b h1 h2, fun h1 h2 => by simp only at h2; omega, fun b _ => rfl, .inl ⟨rfl, hT.lf⟩⟩ ?_
    rintro ⟨at_, sum⟩ τ ⟨hat, hS', hl, hnd, hat2, hlow, hph⟩
    simp only at hat hS' hl hnd hat2 hlow hph
    have ht' : τ t = some (.cells [.pv (.int .i64 n), .msl s 0 (2 * n) 1] none) := hS'.get (by simp [treeO])
    have hs' : τ s = some (.cells (intsA sum) none) := hS'.get (by simp [treeO])
    have fin : (d = 0 ∨ at_ = 0) → K (.tuple []) τ := by
      intro hor
      refine hK τ sum hS' ⟨hl, ?_, ?_⟩
      · intro j hj
        rw [← hv]
        rcases hph with ⟨e, hf⟩ | ⟨e, hf⟩
        · rw [hf j hj]
          unfold updL
          split
          · rename_i e2; subst e2; omega
          · rfl
        · exact hf j hj
      · intro b h1 h2
        by_cases e : b = at_
        · subst e
          have := hat2 h1 h2
          omega
        · exact hnd b h1 h2 e
    unfold L55_4
    simp only [go_sem, bne_iff_ne, ne_eq]
    split
    · rename_i hd0
      split
      · rename_i hpos
        unfold J55_6
        have hbd := tree_le hT hB at_ (by omega) hat
        have hv0 := hlow at_ (Nat.le_refl _)
        simp (disch := omega) only [go_sem, T.ixm22, ht', hs', ldM_cells, List.getElem?_cons_zero, List.getElem?_cons_succ, intsA_get, stM_cells, intsA_len, intsA_set]
        refine ⟨by omega, by decide, ?_⟩
        have hset := getDI_set sum at_
        refine back (at_ / 2, sum.set at_ (sum.getD at_ 0 + d)) rfl (by simp only; omega) ⟨by simp only; omega, ?_, by simp [hl], ?_, ?_, ?_, ?_⟩
        · exact (Sep.set (l1 := [_]) hS' _)
        · intro b h1 h2 h3
          simp only at h3 ⊢
          rw [hset b _ (by omega), hset (2 * b) _ (by omega), hset (2 * b + 1) _ (by omega), if_neg (c := 2 * b = at_) (by omega), if_neg (c := 2 * b + 1 = at_) (by omega)]
          split
          · rename_i e; subst e
            have := hat2 h1 h2
            omega
          · rename_i e
            exact hnd b h1 h2 e
        · intro h1 h2
          simp only at h1 h2 ⊢
          rw [hset (at_ / 2) _ (by omega), hset (2 * (at_ / 2)) _ (by omega), hset (2 * (at_ / 2) + 1) _ (by omega), if_neg (c := at_ / 2 = at_) (by omega)]
          have := hnd (at_ / 2) h1 h2 (by omega)
          by_cases e : 2 * (at_ / 2) = at_
          · rw [if_pos e, if_neg (by omega)]
            rw [e] at this ⊢
            omega
          · rw [if_neg e, if_pos (by omega)]
            have e2 : 2 * (at_ / 2) + 1 = at_ := by omega
            rw [e2] at this
            omega
        · intro b hb
          simp only at hb ⊢
          rw [hset b _ (by omega), if_neg (by omega)]
          exact hlow b (by omega)
        · right
          simp only
          refine ⟨by rcases hph with ⟨e, _⟩ | ⟨e, _⟩ <;> omega, ?_⟩
          intro j hj
          rw [hset (n + j) _ (by omega)]
          rcases hph with ⟨e, hf⟩ | ⟨e, hf⟩
          · unfold updL
            by_cases hji : j = i
            · subst hji
              rw [if_pos e.symm, if_pos rfl, e, hf j hj]; omega
            · rw [if_neg (by omega), if_neg hji]; exact hf j hj
          · rw [if_neg (by omega)]; exact hf j hj
      · exact retV_self (fin (by omega))
    · rename_i hd0
      exact retV_self (fin (by omega))
  simp only [go_sem]
  split
  · rename_i hm; exact j3 1 (by rw [hm]; rfl)
  · rename_i hm; exact j3 0 (by simp at hm; rw [hm]; rfl)
theorem pre_mono {leaf : Nat → Int} (hB : Bits leaf) (i : Nat) : 0 ≤ pre leaf i := by
  induction i with
  | zero => simp [pre]
  | succ i ih => rw [pre]; rcases hB i with h | h <;> omega
/-- The place of the one that has so many ahead of it. -/
def T57 : Tr := fun args σ K _ => ∃ (σ0 : AS) (t s n h c : Nat) (sum : List Int) (leaf : Nat → Int), args = [.addr t 0, .pv (.int .i64 c)] ∧ Sep σ0 σ (treeO t s n sum) ∧ n = 2 ^ h ∧ n ≤ 8192 ∧ TreeOk n sum leaf ∧ Bits leaf ∧ (c : Int) < pre leaf n ∧
  ∀ i : Nat, i < n → leaf i = 1 → pre leaf i = c → K (.pv (.int .i64 i)) σ
theorem T57_ok {env : Env} (args : List AV) (σ : AS) (K : AV → AS → Prop) (X : PV → AS → Prop) (h : T57 args σ K X) : bodyD PS env an57 Try.f57 args σ K X := by
  obtain ⟨σ0, t, s, n, h, c0, sum, leaf, rfl, hS, hp, hn, hT, hB, hc, hK⟩ := h
  rw [← S57_eq env, S57]
  have ht : σ t = some (.cells [.pv (.int .i64 n), .msl s 0 (2 * n) 1] none) := hS.get (by simp [treeO])
  have hs : σ s = some (.cells (intsA sum) none) := hS.get (by simp [treeO])
  have hn1 : 1 ≤ n := by rw [hp]; exact Nat.one_le_two_pow
  have hlen := hT.len
  refine lp57_2 (fun (a : Nat × Nat) _ => 2 * n - a.2) (fun a τ => τ = σ ∧ 1 ≤ a.2 ∧ a.2 < 2 * n ∧ (a.1 : Int) < sum.getD a.2 0 ∧ ∃ k, n ≤ a.2 * 2 ^ k ∧ a.2 * 2 ^ k + 2 ^ k ≤ 2 * n ∧ pre leaf (a.2 * 2 ^ k - n) + a.1 = c0) (fun a => .pv (.int .i64 a.1)) (fun a => .pv (.int .i64 a.2)) (c0, 1)
    ⟨rfl, by simp, by simp only; omega, ?_, h, by simp [hp], by simp only [Nat.one_mul]; omega, by simp [hp, pre]⟩ ?_
  · have := tree_sum hT h 1 (by omega) (by omega)
    simp only
    rw [this]
    rw [show 1 * 2 ^ h - n = 0 by omega, show 0 + 2 ^ h = n by omega]
    simp only [pre]; omega
  rintro ⟨c, at_⟩ τ ⟨rfl, h1, h2, h3, k, k1, k2, k3⟩
  simp only at h1 h2 h3 k1 k2 k3
  unfold L57_2
  simp (disch := omega) only [go_sem, ht, ldM_cells, List.getElem?_cons_zero, List.getElem?_cons_succ]
  split
  · rename_i hlt
    have hk : 1 ≤ k := by
      rcases Nat.eq_zero_or_pos k with h0 | h0
      · subst h0; simp at k1; omega
      · exact h0
    obtain ⟨k, rfl⟩ : ∃ m, k = m + 1 := ⟨k - 1, by omega⟩
    have e1 : at_ * 2 ^ (k + 1) = 2 * at_ * 2 ^ k := by rw [Nat.pow_succ, Nat.mul_comm 2 at_, Nat.mul_assoc, Nat.mul_comm 2]
    have e2 : (2 * at_ + 1) * 2 ^ k = 2 * at_ * 2 ^ k + 2 ^ k := by rw [Nat.add_mul, Nat.one_mul]
    have e3 : 2 ^ (k + 1) = 2 ^ k + 2 ^ k := by rw [Nat.pow_succ]; omega
    have hk1 : 1 ≤ 2 ^ k := Nat.one_le_two_pow
    rw [e1] at k1 k2 k3
    rw [e3] at k2
    have s1 := tree_sum hT k (2 * at_) (by omega) (by omega)
    have nd := hT.nd at_ h1 hlt
    have bd := tree_le hT hB (2 * at_) (by omega) (by omega)
    rw [Nat.mul_comm 2 at_] at s1 nd bd e2 k1 k2 k3
    have bd2 := tree_le hT hB (at_ * 2 + 1) (by omega) (by omega)
    simp (disch := omega) only [go_sem, T.ixm22, hs, ldM_cells, intsA_get]
    split
    · rename_i hge
      try simp (disch := omega) only [go_sem]
      obtain ⟨c', hc'⟩ : ∃ c' : Nat, (c : Int) - sum.getD (at_ * 2) 0 = c' := ⟨((c : Int) - sum.getD (at_ * 2) 0).toNat, by omega⟩
      rw [hc']
      refine back (c', at_ * 2 + 1) rfl (by simp only; omega) ⟨rfl, by simp only; omega, by simp only; omega, ?_, k, by simp only; rw [e2]; omega, by simp only; rw [e2]; omega, ?_⟩
      · simp only
        omega
      · simp only
        rw [e2, show at_ * 2 * 2 ^ k + 2 ^ k - n = at_ * 2 * 2 ^ k - n + 2 ^ k by omega]
        omega
    · rename_i hge
      exact back (c, at_ * 2) rfl (by simp only; omega) ⟨rfl, by simp only; omega, by simp only; omega, by simp only; omega, k, by simp only; omega, by simp only; omega, k3⟩
  · rename_i hge
    have hk : k = 0 := by
      rcases Nat.eq_zero_or_pos k with h0 | h0
      · exact h0
      · have : 2 ^ 1 ≤ 2 ^ k := Nat.pow_le_pow_right (by omega) h0
        have : at_ * 2 ≤ at_ * 2 ^ k := Nat.mul_le_mul_left _ this
        omega
    subst hk
    simp only [Nat.pow_zero, Nat.mul_one] at k1 k2 k3
    obtain ⟨i, rfl⟩ : ∃ i, at_ = n + i := ⟨at_ - n, by omega⟩
    have hl := hT.lf i (by omega)
    rw [hl] at h3
    have hb := hB i
    have : (n + i : Nat) - n = i := by omega
    rw [this] at k3
    try simp (disch := omega) only [go_sem]
    rw [this]
    exact retV_self (hK i (by omega) (by omega) (by omega))
end Go.AD.Sc
