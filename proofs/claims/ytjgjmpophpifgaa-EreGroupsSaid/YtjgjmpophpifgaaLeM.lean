import Derived.Test.YtjgjmpophpifgaaLeK
import Derived.Test.YtjgjmpophpifgaaLj
/- ere: a set and its opposite are read alike; a text in a group. Plain. -/
set_option linter.unusedVariables false
set_option linter.unusedSimpArgs false
set_option maxRecDepth 100000
namespace Go.AD.Lx
open ETree
/-! ### fuel plays no part -/
theorem parse_fuel : ∀ f : Nat,
    (∀ g d s, s ≠ [] → 3 * s.length ≤ f → 3 * s.length ≤ g → atomE f d s = atomE g d s) ∧
    (∀ g d s l, 3 * s.length + 1 ≤ f → 3 * s.length + 1 ≤ g → piecesE f d s l = piecesE g d s l) ∧
    (∀ g d s, 3 * s.length + 2 ≤ f → 3 * s.length + 2 ≤ g → branchesE f d s = branchesE g d s) ∧
    (∀ g d s l, 3 * s.length + 1 ≤ f → 3 * s.length + 1 ≤ g → altsE f d s l = altsE g d s l)
  | 0 => ⟨fun g d s hne h _ => by have := List.length_pos_iff.2 hne; omega, fun _ _ _ _ h _ => by omega, fun _ _ _ h _ => by omega, fun _ _ _ _ h _ => by omega⟩
  | f + 1 => by
    obtain ⟨ha, hp, hb, hal⟩ := parse_fuel f
    refine ⟨fun g d s hne h1 h2 => ?_, fun g d s l h1 h2 => ?_, fun g d s h1 h2 => ?_, fun g d s l h1 h2 => ?_⟩
    · have hp0 := List.length_pos_iff.2 hne
      have hd1 : (s.drop 1).length = s.length - 1 := List.length_drop ..
      obtain ⟨g, rfl⟩ : ∃ k, g = k + 1 := ⟨g - 1, by omega⟩
      rw [atomE, atomE, hb g (d + 1) (s.drop 1) (by omega) (by omega)]
    · obtain ⟨g, rfl⟩ : ∃ k, g = k + 1 := ⟨g - 1, by omega⟩
      rw [piecesE, piecesE]
      by_cases hq : s = [] ∨ (s.getD 0 0).toNat = 124 ∨ (s.getD 0 0).toNat = 41
      · rw [if_pos hq, if_pos hq]
      rw [if_neg hq, if_neg hq]
      have hne : s ≠ [] := fun e => hq (.inl e)
      rw [ha g d s hne (by omega) (by omega)]
      cases hr : repE s with
      | error n => rfl
      | ok x =>
        obtain ⟨o, r0⟩ := x
        cases o with
        | some z => rfl
        | none =>
          cases hat : atomE g d s with
          | error n => rfl
          | ok y =>
            obtain ⟨e, r⟩ := y
            have hl := (parse_len g).1 d s e r hne hat
            show (match repsE (r.length + 1) r e with
              | Except.error n => Except.error n
              | Except.ok (e', r') => piecesE f d r' (l ++ [e'])) = (match repsE (r.length + 1) r e with
              | Except.error n => Except.error n
              | Except.ok (e', r') => piecesE g d r' (l ++ [e']))
            cases hrs : repsE (r.length + 1) r e with
            | error n => rfl
            | ok z =>
              obtain ⟨e', r'⟩ := z
              have := repsE_len _ _ _ _ _ hrs
              exact hp g d r' _ (by omega) (by omega)
    · obtain ⟨g, rfl⟩ : ∃ k, g = k + 1 := ⟨g - 1, by omega⟩
      rw [branchesE, branchesE, hp g d s [] (by omega) (by omega)]
      cases hr : piecesE g d s [] with
      | error n => rfl
      | ok x =>
        obtain ⟨e, r⟩ := x
        have hl := (parse_len g).2.1 d s [] e r hr
        exact hal g d r [e] (by omega) (by omega)
    · obtain ⟨g, rfl⟩ : ∃ k, g = k + 1 := ⟨g - 1, by omega⟩
      rw [altsE, altsE]
      by_cases hq : Lib.hasPrefix s [124] = true
      · have hp0 := hasP_len hq
        simp only [List.length_cons, List.length_nil] at hp0
        have hd1 : (s.drop 1).length = s.length - 1 := List.length_drop ..
        rw [if_pos hq, if_pos hq, hp g d (s.drop 1) [] (by omega) (by omega)]
        cases hr : piecesE g d (s.drop 1) [] with
        | error n => rfl
        | ok x =>
          obtain ⟨e, r⟩ := x
          have hl := (parse_len g).2.1 d (s.drop 1) [] e r hr
          exact hal g d r _ (by omega) (by omega)
      · rw [if_neg hq, if_neg hq]
theorem setL_fuel : ∀ (f g : Nat) (first : Bool) (s : Bytes) (b : BSet), s.length + 1 ≤ f → s.length + 1 ≤ g → setL f first s b = setL g first s b
  | 0, _, _, _, _, h, _ => by omega
  | f + 1, g, first, s, b, h1, h2 => by
    obtain ⟨g, rfl⟩ : ∃ k, g = k + 1 := ⟨g - 1, by omega⟩
    rw [setL, setL]
    by_cases c1 : first = false ∧ Lib.hasPrefix s [93] = true
    · rw [if_pos c1, if_pos c1]
    rw [if_neg c1, if_neg c1]
    by_cases hne : s = []
    · rw [if_pos hne, if_pos hne]
    rw [if_neg hne, if_neg hne]
    cases hi : itemE s b with
    | error n => rfl
    | ok x =>
      obtain ⟨fr, s1, b1⟩ := x
      have hl := itemE_len hne hi
      have e0 : ∀ b, setL f false s1 b = setL g false s1 b := fun b => setL_fuel f g false s1 b (by omega) (by omega)
      dsimp only
      by_cases c2 : 1 < s1.length ∧ (s1.getD 0 0).toNat = 45 ∧ (s1.getD 1 0).toNat ≠ 93
      · rw [if_pos c2, if_pos c2]
        cases fr with
        | none => rfl
        | some c =>
          have hne2 : s1.drop 1 ≠ [] := by
            intro e; have := congrArg List.length e; rw [List.length_drop] at this; simp at this; omega
          dsimp only
          cases hi2 : itemE (s1.drop 1) noB with
          | error n => rfl
          | ok y =>
            obtain ⟨o, s2, b2⟩ := y
            have hl2 := itemE_len hne2 hi2
            rw [List.length_drop] at hl2
            cases o with
            | none => rfl
            | some t =>
              dsimp only
              rw [setL_fuel f g false s2 _ (by omega) (by omega)]
      · rw [if_neg c2, if_neg c2]
        cases fr with
        | none => exact e0 _
        | some c => exact e0 _
/-! ### two trees that are alike but for a set -/
def Sim (A B x y : ETree) : Prop := (x = A ∧ y = B) ∨ (x.op ≠ eSet ∧ y.op ≠ eSet ∧ sizeE x = sizeE y)
section
variable {A B x y : ETree}
theorem Sim.size (hAB : sizeE A = sizeE B) (h : Sim A B x y) : sizeE x = sizeE y := by
  rcases h with ⟨rfl, rfl⟩ | ⟨_, _, h⟩
  · exact hAB
  · exact h
theorem Sim.node (hAB : sizeE A = sizeE B) (h : Sim A B x y) {op : Bytes} (ho : op ≠ eSet) (l : List ETree) (lo hi : Int) : Sim A B (.mk op [] (x :: l) lo hi) (.mk op [] (y :: l) lo hi) := by
  refine .inr ⟨ho, ho, ?_⟩
  have := h.size hAB
  rw [sizeE, sizeE, sizesE, sizesE, this]
theorem Sim.joined (hAB : sizeE A = sizeE B) (h : Sim A B x y) {op : Bytes} (ho : op ≠ eSet) (l : List ETree) : Sim A B (joinedE op (x :: l)) (joinedE op (y :: l)) := by
  cases l with
  | nil => exact h
  | cons z l => exact h.node hAB ho _ _ _
/-- Two answers alike. -/
def SimR (A B : ETree) (p q : Except Nat (ETree × Bytes)) : Prop := (∃ n, p = .error n ∧ q = .error n) ∨ ∃ x y r, p = .ok (x, r) ∧ q = .ok (y, r) ∧ Sim A B x y
theorem SimR.err (n : Nat) : SimR A B (.error n) (.error n) := .inl ⟨n, rfl, rfl⟩
theorem reps_sim (hAB : sizeE A = sizeE B) : ∀ (f : Nat) (s : Bytes) (x y : ETree), Sim A B x y → SimR A B (repsE f s x) (repsE f s y)
  | 0, _, _, _, _ => .err 3
  | f + 1, s, x, y, h => by
    rw [repsE, repsE]
    cases hr : repE s with
    | error n => exact .err n
    | ok z =>
      obtain ⟨o, r⟩ := z
      cases o with
      | none => exact .inr ⟨x, y, r, rfl, rfl, h⟩
      | some p => exact reps_sim hAB f r _ _ (h.node hAB (by decide) [] _ _)
theorem pieces_sim (hAB : sizeE A = sizeE B) (h : Sim A B x y) : ∀ (f d : Nat) (s : Bytes) (l : List ETree), SimR A B (piecesE f d s (x :: l)) (piecesE f d s (y :: l))
  | 0, _, _, _ => by rw [piecesE, piecesE]; exact .err 0
  | f + 1, d, s, l => by
    rw [piecesE, piecesE]
    by_cases hq : s = [] ∨ (s.getD 0 0).toNat = 124 ∨ (s.getD 0 0).toNat = 41
    · rw [if_pos hq, if_pos hq]
      exact .inr ⟨_, _, s, rfl, rfl, h.joined hAB (by decide) l⟩
    rw [if_neg hq, if_neg hq]
    cases hr : repE s with
    | error n => exact .err n
    | ok z =>
      obtain ⟨o, r0⟩ := z
      cases o with
      | some p => exact .err 3
      | none =>
        dsimp only
        cases hat : atomE f d s with
        | error n => exact .err n
        | ok w =>
          obtain ⟨e, r⟩ := w
          dsimp only
          cases hrs : repsE (r.length + 1) r e with
          | error n => exact .err n
          | ok z =>
            obtain ⟨e', r'⟩ := z
            exact pieces_sim hAB h f d r' (l ++ [e'])
theorem alts_sim (hAB : sizeE A = sizeE B) (h : Sim A B x y) : ∀ (f d : Nat) (s : Bytes) (l : List ETree), SimR A B (altsE f d s (x :: l)) (altsE f d s (y :: l))
  | 0, _, _, _ => by rw [altsE, altsE]; exact .err 0
  | f + 1, d, s, l => by
    rw [altsE, altsE]
    by_cases hq : Lib.hasPrefix s [124] = true
    · rw [if_pos hq, if_pos hq]
      cases hr : piecesE f d (s.drop 1) [] with
      | error n => exact .err n
      | ok z =>
        obtain ⟨e, r⟩ := z
        exact alts_sim hAB h f d r (l ++ [e])
    · rw [if_neg hq, if_neg hq]
      exact .inr ⟨_, _, s, rfl, rfl, h.joined hAB (by decide) l⟩
/-- What is read behind a first atom. -/
def tailE (f d : Nat) (r : Bytes) (e : ETree) : Except Nat (ETree × Bytes) := match repsE (r.length + 1) r e with
  | .error n => .error n
  | .ok (e', r') => match piecesE f d r' [e'] with
    | .error n => .error n
    | .ok (e2, r2) => altsE (f + 1) d r2 [e2]
theorem tail_sim (hAB : sizeE A = sizeE B) (h : Sim A B x y) (f d : Nat) (r : Bytes) : SimR A B (tailE f d r x) (tailE f d r y) := by
  unfold tailE
  rcases reps_sim hAB (r.length + 1) r x y h with ⟨n, e1, e2⟩ | ⟨x1, y1, r1, e1, e2, h1⟩
  · rw [e1, e2]; exact .err n
  rw [e1, e2]
  dsimp only
  rcases pieces_sim hAB h1 f d r1 [] with ⟨n, e1, e2⟩ | ⟨x2, y2, r2, e1, e2, h2⟩
  · rw [e1, e2]; exact .err n
  rw [e1, e2]
  exact alts_sim hAB h2 (f + 1) d r2 []
theorem tail_fuel {f g d : Nat} {r : Bytes} {e : ETree} (hf : 3 * r.length + 1 ≤ f) (hg : 3 * r.length + 1 ≤ g) : tailE f d r e = tailE g d r e := by
  unfold tailE
  cases hr : repsE (r.length + 1) r e with
  | error n => rfl
  | ok z =>
    obtain ⟨e', r'⟩ := z
    have h1 := repsE_len _ _ _ _ _ hr
    dsimp only
    rw [(parse_fuel f).2.1 g d r' [e'] (by omega) (by omega)]
    cases hp : piecesE g d r' [e'] with
    | error n => rfl
    | ok w =>
      obtain ⟨e2, r2⟩ := w
      have h2 := (parse_len g).2.1 _ _ _ _ _ hp
      exact (parse_fuel (f + 1)).2.2.2 (g + 1) d r2 [e2] (by omega) (by omega)
theorem branches_set (f d : Nat) (w : Bytes) : branchesE (f + 3) d (91 :: w) = match setE w with
    | .error n => .error n
    | .ok (e, r) => tailE (f + 1) d r e := by
  have hr : repE (91 :: w) = .ok (none, 91 :: w) := by
    unfold repE
    simp [hp1]
  have ha : atomE (f + 1) d (91 :: w) = setE w := by
    rw [atomE]
    simp
  rw [branchesE, piecesE, if_neg (by simp), hr]
  dsimp only
  rw [ha]
  unfold tailE
  cases setE w with
  | error n => rfl
  | ok z =>
    obtain ⟨e, r⟩ := z
    dsimp only
    cases repsE (r.length + 1) r e with
    | error n => rfl
    | ok z => rfl
theorem parse_sets {s : Bytes} (hs : s.getD 0 0 ≠ 94) (hne : s ≠ []) :
    (∃ n, parseE (91 :: (s ++ [93])) = .error n ∧ parseE (91 :: 94 :: (s ++ [93])) = .error n) ∨
    ∃ b x y, parseE (91 :: (s ++ [93])) = .ok x ∧ parseE (91 :: 94 :: (s ++ [93])) = .ok y ∧ Sim (.mk eSet (textB b true) [] 0 0) (.mk eSet (textB b false) [] 0 0) x y := by
  obtain ⟨c, s', rfl⟩ : ∃ c s', s = c :: s' := by cases s with | nil => exact absurd rfl hne | cons c s' => exact ⟨c, s', rfl⟩
  have hs : c ≠ 94 := by simpa using hs
  generalize hw : c :: s' ++ [93] = w
  have hp : Lib.hasPrefix w [94] = false := by rw [← hw, List.cons_append, hp1, decide_eq_false hs]
  have e1 : setE w = match setL (w.length + 1) true w noB with
    | .error n => .error n
    | .ok (r, b) => .ok (.mk eSet (textB b true) [] 0 0, r) := by
    unfold setE
    simp only [hp, Bool.false_eq_true, if_false, Bool.not_false]
    cases setL (w.length + 1) true w noB <;> rfl
  have e2 : setE (94 :: w) = match setL (w.length + 1) true w noB with
    | .error n => .error n
    | .ok (r, b) => .ok (.mk eSet (textB b false) [] 0 0, r) := by
    unfold setE
    simp only [hp1, decide_true, if_true, Bool.not_true, List.drop_succ_cons, List.drop_zero, List.length_cons]
    rw [setL_fuel (w.length + 1 + 1) (w.length + 1) true w noB (by omega) (by omega)]
    cases setL (w.length + 1) true w noB <;> rfl
  unfold parseE
  have f1 : 3 * (91 :: w).length + 3 = (3 * w.length + 3) + 3 := by simp; omega
  have f2 : 3 * (91 :: 94 :: w).length + 3 = (3 * w.length + 6) + 3 := by simp; omega
  rw [f1, f2, branches_set, branches_set, e1, e2]
  cases hL : setL (w.length + 1) true w noB with
  | error n => exact .inl ⟨n, rfl, rfl⟩
  | ok z =>
    obtain ⟨r, b⟩ := z
    have hl := setL_len _ _ _ _ _ _ hL
    dsimp only
    have hAB : sizeE (.mk eSet (textB b true) [] 0 0) = sizeE (.mk eSet (textB b false) [] 0 0) := by rw [sizeE, sizeE]
    rw [tail_fuel (f := 3 * w.length + 6 + 1) (g := 3 * w.length + 3 + 1) (by omega) (by omega)]
    rcases tail_sim hAB (.inl ⟨rfl, rfl⟩) (3 * w.length + 3 + 1) 0 r with ⟨n, g1, g2⟩ | ⟨x, y, r2, g1, g2, h2⟩
    · rw [g1, g2]; exact .inl ⟨n, rfl, rfl⟩
    rw [g1, g2]
    dsimp only
    rw [h2.size hAB]
    by_cases hr : r2 ≠ []
    · rw [if_pos hr, if_pos hr]; exact .inl ⟨1, rfl, rfl⟩
    rw [if_neg hr, if_neg hr]
    by_cases h5 : 2000 < sizeE y
    · rw [if_pos h5, if_pos h5]; exact .inl ⟨5, rfl, rfl⟩
    rw [if_neg h5, if_neg h5]
    exact .inr ⟨b, x, y, rfl, rfl, h2⟩
end
/-! ### a text in a group -/
section
variable {u : Bytes}
theorem hpv {c : UInt8} (hc : (41 : UInt8) ≠ c) (w : Bytes) : Lib.hasPrefix (w ++ 41 :: u) [c] = Lib.hasPrefix w [c] := by
  cases w with
  | nil => rw [List.nil_append, hp1, decide_eq_false hc]; rfl
  | cons a w => rw [List.cons_append, hp1, hp1]
theorem isPre_app : ∀ (p s v : Bytes), p.isPrefixOf s = true → p.isPrefixOf (s ++ v) = true
  | [], _, _, _ => by simp
  | a :: p, [], _, h => by simp at h
  | a :: p, b :: s, v, h => by
    simp only [List.cons_append, List.isPrefixOf_cons_cons, Bool.and_eq_true] at h ⊢
    exact ⟨h.1, isPre_app p s v h.2⟩
theorem pre_colon {s v : Bytes} (h : Lib.hasPrefix s [91, 58] = false) (hne : s ≠ []) : Lib.hasPrefix (s ++ 41 :: v) [91, 58] = false := by
  match s, hne with
  | [a], _ =>
    show ((91 == a) && ((58 == (41 : UInt8)) && _)) = false
    rw [show ((58 : UInt8) == 41) = false by decide, Bool.false_and, Bool.and_false]
  | a :: b :: s, _ => exact h
theorem index_app2 : ∀ (s : Bytes) (v : Bytes), 0 ≤ Lib.index s [58, 93] → Lib.index (s ++ v) [58, 93] = Lib.index s [58, 93]
  | [], v, h => absurd h (by decide)
  | c :: s, v, h => by
    rw [List.cons_append, Lib.index, Lib.index]
    rw [Lib.index] at h
    by_cases h1 : List.isPrefixOf [58, 93] (c :: s) = true
    · rw [if_pos h1, if_pos (show List.isPrefixOf [58, 93] (c :: (s ++ v)) = true from isPre_app _ (c :: s) v h1)]
    rw [if_neg h1] at h ⊢
    by_cases h2 : (Lib.index s [58, 93] == -1) = true
    · rw [if_pos h2] at h; omega
    rw [if_neg h2] at h ⊢
    have h3 := Lib.index_ge s [58, 93]
    have h2' : Lib.index s [58, 93] ≠ -1 := by simpa using h2
    have h0 : 0 ≤ Lib.index s [58, 93] := by omega
    have ih := index_app2 s v h0
    have h4 : ¬ List.isPrefixOf [58, 93] (c :: (s ++ v)) = true := by
      cases s with
      | nil => exact absurd h0 (by decide)
      | cons b s => exact h1
    rw [if_neg h4, ih, if_neg h2]
theorem index_le2 : ∀ (s : Bytes), 0 ≤ Lib.index s [58, 93] → (Lib.index s [58, 93]).toNat + 2 ≤ s.length
  | [], h => absurd h (by decide)
  | c :: s, h => by
    rw [Lib.index] at h ⊢
    by_cases h1 : List.isPrefixOf [58, 93] (c :: s) = true
    · rw [if_pos h1]
      cases s with
      | nil => simp at h1
      | cons b s => simp
    rw [if_neg h1] at h ⊢
    by_cases h2 : (Lib.index s [58, 93] == -1) = true
    · rw [if_pos h2] at h; omega
    rw [if_neg h2] at h ⊢
    have h3 := Lib.index_ge s [58, 93]
    have h2' : Lib.index s [58, 93] ≠ -1 := by simpa using h2
    have ih := index_le2 s (by omega)
    rw [List.length_cons]
    omega
theorem cut_app {s : Bytes} (v : Bytes) (h : (Lib.cut s [58, 93]).2.2 = true) : Lib.cut (s ++ v) [58, 93] = ((Lib.cut s [58, 93]).1, (Lib.cut s [58, 93]).2.1 ++ v, true) := by
  unfold Lib.cut at h ⊢
  by_cases h1 : 0 ≤ Lib.index s [58, 93]
  · have h2 := index_le2 s h1
    rw [index_app2 s v h1, if_pos h1, if_pos h1]
    simp only [Prod.mk.injEq, and_true]
    exact ⟨List.take_append_of_le_length (by omega), List.drop_append_of_le_length (by simp only [List.length_cons, List.length_nil]; omega)⟩
  · rw [if_neg h1] at h; cases h
theorem esc_app {s : Bytes} {c : UInt8} {r : Bytes} (h : escE s = .ok (c, r)) : escE (s ++ 41 :: u) = .ok (c, r ++ 41 :: u) := by
  unfold escE at h ⊢
  by_cases hne : s = []
  · rw [if_pos hne] at h; cases h
  rw [if_neg hne] at h
  rw [if_neg (by simp)]
  have hp0 := List.length_pos_iff.2 hne
  have hd : digN 55 3 (s ++ 41 :: u) = digN 55 3 s := by
    unfold digN; rw [span_app (by decide)]
  have hl : digN 55 3 s ≤ s.length := Nat.le_trans (Nat.min_le_left _ _) (span_le _ _)
  rw [hd]
  by_cases h1 : 0 < digN 55 3 s
  · rw [if_pos h1] at h ⊢
    simp only [Except.ok.injEq, Prod.mk.injEq] at h
    rw [take_app hl, drop_app hl, h.1, h.2]
  · rw [if_neg h1] at h ⊢
    simp only [Except.ok.injEq, Prod.mk.injEq] at h
    rw [getD_app hp0, drop_app hp0, h.2]
    rw [← h.1]
theorem item_app {s : Bytes} {b b' : BSet} {o : Option UInt8} {r : Bytes} (hne : s ≠ []) (h : itemE s b = .ok (o, r, b')) : itemE (s ++ 41 :: u) b = .ok (o, r ++ 41 :: u, b') := by
  have hp0 := List.length_pos_iff.2 hne
  unfold itemE at h ⊢
  by_cases h1 : Lib.hasPrefix s [91, 58] = true
  · have h1' : Lib.hasPrefix (s ++ 41 :: u) [91, 58] = true := isPre_app _ _ _ h1
    have hl := hasP_len h1
    simp only [List.length_cons, List.length_nil] at hl
    rw [if_pos h1] at h
    rw [if_pos h1', drop_app hl]
    by_cases h2 : (Lib.cut (s.drop 2) [58, 93]).2.2 = true ∧ endsE (Lib.cut (s.drop 2) [58, 93]).1 ≠ []
    · rw [if_pos h2] at h
      simp only [Except.ok.injEq, Prod.mk.injEq] at h
      rw [cut_app _ h2.1]
      simp only [true_and]
      rw [if_pos h2.2, h.1, h.2.1, h.2.2]
    · rw [if_neg h2] at h; cases h
  · have h1' : Lib.hasPrefix s [91, 58] = false := by simpa using h1
    rw [if_neg h1] at h
    rw [if_neg (by rw [pre_colon h1' hne]; decide), hpv (by decide)]
    by_cases h2 : Lib.hasPrefix s [92] = true
    · rw [if_pos h2] at h ⊢
      rw [drop_app hp0]
      cases he : escE (s.drop 1) with
      | error n => rw [he] at h; cases h
      | ok z =>
        obtain ⟨c, r'⟩ := z
        rw [he] at h
        simp only [Except.ok.injEq, Prod.mk.injEq] at h
        rw [esc_app he]
        simp only [h.1, h.2.1, h.2.2]
    · rw [if_neg h2] at h ⊢
      simp only [Except.ok.injEq, Prod.mk.injEq] at h
      rw [getD_app hp0, drop_app hp0, h.1, h.2.1, h.2.2]
theorem setL_dash (f : Nat) (b : BSet) (z : Bytes × BSet) : setL f false [45] b ≠ .ok z := by
  cases f with
  | zero => intro h; cases h
  | succ f =>
    have hi : itemE [45] b = .ok (some 45, [], b) := rfl
    have hp : Lib.hasPrefix [45] [93] = false := rfl
    rw [setL]
    simp only [hp, hi, Bool.false_eq_true, and_false, if_false]
    rw [if_neg (by simp), if_neg (by simp)]
    cases f with
    | zero => intro h; cases h
    | succ f =>
      have hp : Lib.hasPrefix [] [93] = false := rfl
      intro h
      rw [setL] at h
      simp only [hp, Bool.false_eq_true, and_false, if_false, if_true] at h
      cases h
theorem setL_app : ∀ (f g : Nat) (first : Bool) (s : Bytes) (b : BSet) (r : Bytes) (b' : BSet), f ≤ g → setL f first s b = .ok (r, b') → setL g first (s ++ 41 :: u) b = .ok (r ++ 41 :: u, b')
  | 0, _, _, _, _, _, _, _, h => by cases h
  | f + 1, g, first, s, b, r, b', hg, h => by
    obtain ⟨g, rfl⟩ : ∃ k, g = k + 1 := ⟨g - 1, by omega⟩
    rw [setL] at h ⊢
    rw [hpv (by decide)]
    by_cases c1 : first = false ∧ Lib.hasPrefix s [93] = true
    · have hl := hasP_len c1.2
      simp only [List.length_cons, List.length_nil] at hl
      rw [if_pos c1] at h ⊢
      simp only [Except.ok.injEq, Prod.mk.injEq] at h
      rw [drop_app hl, h.1, h.2]
    rw [if_neg c1] at h ⊢
    by_cases hne : s = []
    · rw [if_pos hne] at h; cases h
    rw [if_neg hne] at h
    rw [if_neg (by simp)]
    cases hi : itemE s b with
    | error n => rw [hi] at h; cases h
    | ok x =>
      obtain ⟨fr, s1, b1⟩ := x
      rw [hi] at h
      rw [item_app hne hi]
      dsimp only at h ⊢
      by_cases c2 : 1 < s1.length ∧ (s1.getD 0 0).toNat = 45 ∧ (s1.getD 1 0).toNat ≠ 93
      · have c2' : 1 < (s1 ++ 41 :: u).length ∧ ((s1 ++ 41 :: u).getD 0 0).toNat = 45 ∧ ((s1 ++ 41 :: u).getD 1 0).toNat ≠ 93 := by
          rw [getD_app (by omega), getD_app (by omega), List.length_append]
          exact ⟨by omega, c2.2⟩
        rw [if_pos c2] at h
        rw [if_pos c2']
        cases fr with
        | none => cases h
        | some c =>
          have hne2 : s1.drop 1 ≠ [] := by
            intro e; have := congrArg List.length e; rw [List.length_drop] at this; simp at this; omega
          dsimp only at h ⊢
          rw [drop_app (by omega)]
          cases hi2 : itemE (s1.drop 1) noB with
          | error n => rw [hi2] at h; cases h
          | ok y =>
            obtain ⟨o, s2, b2⟩ := y
            rw [hi2] at h
            rw [item_app hne2 hi2]
            cases o with
            | none => cases h
            | some t =>
              dsimp only at h ⊢
              by_cases c3 : t.toNat < c.toNat
              · rw [if_pos c3] at h; cases h
              rw [if_neg c3] at h ⊢
              exact setL_app f g false s2 _ r b' (by omega) h
      · rw [if_neg c2] at h
        have h45 : s1 ≠ [45] := by
          rintro rfl
          cases fr with
          | none => exact setL_dash f _ _ h
          | some c => exact setL_dash f _ _ h
        have c2' : ¬ (1 < (s1 ++ 41 :: u).length ∧ ((s1 ++ 41 :: u).getD 0 0).toNat = 45 ∧ ((s1 ++ 41 :: u).getD 1 0).toNat ≠ 93) := by
          rintro ⟨_, k2, k3⟩
          match s1, c2, h45 with
          | [], _, _ => exact absurd (show (41 : UInt8).toNat = 45 from k2) (by decide)
          | [a], _, h45 =>
            have : a = 45 := UInt8.toNat_inj.1 k2
            exact h45 (by rw [this])
          | a :: a' :: s1, c2, _ => exact c2 ⟨by simp, k2, k3⟩
        rw [if_neg c2']
        cases fr with
        | none => exact setL_app f g false s1 _ r b' (by omega) h
        | some c => exact setL_app f g false s1 _ r b' (by omega) h
theorem setE_app {s r : Bytes} {e : ETree} (h : setE s = .ok (e, r)) : setE (s ++ 41 :: u) = .ok (e, r ++ 41 :: u) := by
  unfold setE at h ⊢
  rw [hpv (by decide)]
  by_cases h1 : Lib.hasPrefix s [94] = true
  · have hl := hasP_len h1
    simp only [List.length_cons, List.length_nil] at hl
    rw [if_pos h1] at h ⊢
    rw [drop_app hl]
    cases hL : setL (s.length + 1) true (s.drop 1) noB with
    | error n => rw [hL] at h; cases h
    | ok z =>
      obtain ⟨r', b⟩ := z
      rw [hL] at h
      rw [setL_app _ _ _ _ _ _ _ (by rw [List.length_append]; omega) hL]
      simp only [Except.ok.injEq, Prod.mk.injEq] at h ⊢
      exact ⟨h.1, by rw [h.2]⟩
  · rw [if_neg h1] at h ⊢
    cases hL : setL (s.length + 1) true s noB with
    | error n => rw [hL] at h; cases h
    | ok z =>
      obtain ⟨r', b⟩ := z
      rw [hL] at h
      rw [setL_app _ _ _ _ _ _ _ (by rw [List.length_append]; omega) hL]
      simp only [Except.ok.injEq, Prod.mk.injEq] at h ⊢
      exact ⟨h.1, by rw [h.2]⟩
theorem ivEnd_app {lo to s r : Bytes} {x : Int × Int} (h : ivEnd lo to s = .ok (x, r)) : ivEnd lo to (s ++ 41 :: u) = .ok (x, r ++ 41 :: u) := by
  unfold ivEnd at h ⊢
  cases hc : countL lo 0 with
  | error n => rw [hc] at h; cases h
  | ok a =>
    rw [hc] at h
    dsimp only at h ⊢
    cases hv : ivHi to with
    | error n => rw [hv] at h; cases h
    | ok b =>
      rw [hv] at h
      dsimp only at h ⊢
      rw [hpv (by decide)]
      by_cases h1 : Lib.hasPrefix s [125] = true ∧ ¬ (0 ≤ b ∧ b < (a : Int))
      · have hl := hasP_len h1.1
        simp only [List.length_cons, List.length_nil] at hl
        rw [if_pos h1] at h ⊢
        simp only [Except.ok.injEq, Prod.mk.injEq] at h ⊢
        rw [drop_app hl, h.2]
        exact ⟨h.1, rfl⟩
      · rw [if_neg h1] at h; cases h
theorem digN_len (s : Bytes) : digN 57 s.length s = spanL (upB 57) s := Nat.min_eq_left (span_le _ _)
theorem interval_app {s r : Bytes} {x : Int × Int} (h : intervalE s = .ok (x, r)) : intervalE (s ++ 41 :: u) = .ok (x, r ++ 41 :: u) := by
  have hs : ∀ w : Bytes, spanL (upB 57) (w ++ 41 :: u) = spanL (upB 57) w := span_app (by decide)
  unfold intervalE at h ⊢
  simp only [digN_len, hs] at h ⊢
  have hl := span_le (upB 57) s
  rw [drop_app hl, take_app hl, hpv (by decide)]
  by_cases h1 : Lib.hasPrefix (s.drop (spanL (upB 57) s)) [44] = true
  · have hl1 := hasP_len h1
    simp only [List.length_cons, List.length_nil] at hl1
    rw [if_pos h1] at h ⊢
    rw [drop_app hl1]
    simp only [hs]
    have hl2 := span_le (upB 57) (List.drop 1 (List.drop (spanL (upB 57) s) s))
    rw [take_app hl2, drop_app hl2]
    exact ivEnd_app h
  · rw [if_neg h1] at h ⊢
    exact ivEnd_app h
theorem rep_app {s r : Bytes} {o : Option (Int × Int)} (h : repE s = .ok (o, r)) : repE (s ++ 41 :: u) = .ok (o, r ++ 41 :: u) := by
  unfold repE at h ⊢
  rw [hpv (by decide), hpv (by decide), hpv (by decide)]
  by_cases h1 : Lib.hasPrefix s [42] = true
  · have hl := hasP_len h1
    simp only [List.length_cons, List.length_nil] at hl
    rw [if_pos h1] at h ⊢
    simp only [Except.ok.injEq, Prod.mk.injEq] at h
    rw [drop_app hl, h.1, h.2]
  rw [if_neg h1] at h ⊢
  by_cases h2 : Lib.hasPrefix s [43] = true
  · have hl := hasP_len h2
    simp only [List.length_cons, List.length_nil] at hl
    rw [if_pos h2] at h ⊢
    simp only [Except.ok.injEq, Prod.mk.injEq] at h
    rw [drop_app hl, h.1, h.2]
  rw [if_neg h2] at h ⊢
  by_cases h3 : Lib.hasPrefix s [63] = true
  · have hl := hasP_len h3
    simp only [List.length_cons, List.length_nil] at hl
    rw [if_pos h3] at h ⊢
    simp only [Except.ok.injEq, Prod.mk.injEq] at h
    rw [drop_app hl, h.1, h.2]
  rw [if_neg h3] at h ⊢
  by_cases h4 : 1 < s.length ∧ (s.getD 0 0).toNat = 123 ∧ digitB (s.getD 1 0) = true
  · have h4' : 1 < (s ++ 41 :: u).length ∧ ((s ++ 41 :: u).getD 0 0).toNat = 123 ∧ digitB ((s ++ 41 :: u).getD 1 0) = true := by
      rw [getD_app (by omega), getD_app (by omega), List.length_append]
      exact ⟨by omega, h4.2⟩
    rw [if_pos h4] at h
    rw [if_pos h4', drop_app (by omega)]
    cases hi : intervalE (s.drop 1) with
    | error n => rw [hi] at h; cases h
    | ok z =>
      obtain ⟨x, r'⟩ := z
      rw [hi] at h
      simp only [Except.ok.injEq, Prod.mk.injEq] at h
      rw [interval_app hi]
      simp only [h.1, h.2]
  · rw [if_neg h4] at h
    have h4' : ¬ (1 < (s ++ 41 :: u).length ∧ ((s ++ 41 :: u).getD 0 0).toNat = 123 ∧ digitB ((s ++ 41 :: u).getD 1 0) = true) := by
      rintro ⟨_, k2, k3⟩
      match s, h4 with
      | [], _ => exact absurd (show (41 : UInt8).toNat = 123 from k2) (by decide)
      | [a], _ => exact absurd (show digitB 41 = true from k3) (by decide)
      | a :: a' :: s, h4 => exact h4 ⟨by simp, k2, k3⟩
    rw [if_neg h4']
    simp only [Except.ok.injEq, Prod.mk.injEq] at h
    rw [h.1, h.2]
theorem reps_app : ∀ (f g : Nat) (s : Bytes) (e e' : ETree) (r : Bytes), f ≤ g → repsE f s e = .ok (e', r) → repsE g (s ++ 41 :: u) e = .ok (e', r ++ 41 :: u)
  | 0, _, _, _, _, _, _, h => by cases h
  | f + 1, g, s, e, e', r, hg, h => by
    obtain ⟨g, rfl⟩ : ∃ k, g = k + 1 := ⟨g - 1, by omega⟩
    rw [repsE] at h ⊢
    cases hr : repE s with
    | error n => rw [hr] at h; cases h
    | ok z =>
      obtain ⟨o, r'⟩ := z
      rw [hr] at h
      rw [rep_app hr]
      cases o with
      | none =>
        simp only [Except.ok.injEq, Prod.mk.injEq] at h
        simp only [h.1, h.2]
      | some p => exact reps_app f g r' _ e' r (by omega) h
/-- Read so, or too deep. -/
def Or1 (p : Except Nat (ETree × Bytes)) (e : ETree) (r : Bytes) : Prop := p = .ok (e, r) ∨ p = .error 1
theorem parse_app : ∀ f : Nat,
    (∀ d d' g s e r, d ≤ d' → f ≤ g → s ≠ [] → atomE f d s = .ok (e, r) → Or1 (atomE g d' (s ++ 41 :: u)) e (r ++ 41 :: u)) ∧
    (∀ d d' g s l e r, d ≤ d' → f ≤ g → piecesE f d s l = .ok (e, r) → Or1 (piecesE g d' (s ++ 41 :: u) l) e (r ++ 41 :: u)) ∧
    (∀ d d' g s e r, d ≤ d' → f ≤ g → branchesE f d s = .ok (e, r) → Or1 (branchesE g d' (s ++ 41 :: u)) e (r ++ 41 :: u)) ∧
    (∀ d d' g s l e r, d ≤ d' → f ≤ g → altsE f d s l = .ok (e, r) → Or1 (altsE g d' (s ++ 41 :: u) l) e (r ++ 41 :: u))
  | 0 => ⟨(fun _ _ _ _ _ _ _ _ _ h => by rw [atomE] at h; cases h), (fun _ _ _ _ _ _ _ _ _ h => by rw [piecesE] at h; cases h), (fun _ _ _ _ _ _ _ _ h => by rw [branchesE] at h; cases h), (fun _ _ _ _ _ _ _ _ _ h => by rw [altsE] at h; cases h)⟩
  | f + 1 => by
    obtain ⟨ha, hp, hb, hal⟩ := parse_app f
    refine ⟨fun d d' g s e r hd hg hne h => ?_, fun d d' g s l e r hd hg h => ?_, fun d d' g s e r hd hg h => ?_, fun d d' g s l e r hd hg h => ?_⟩
    · have hp0 := List.length_pos_iff.2 hne
      obtain ⟨g, rfl⟩ : ∃ k, g = k + 1 := ⟨g - 1, by omega⟩
      rw [atomE] at h ⊢
      rw [getD_app hp0, drop_app hp0]
      generalize s.drop 1 = w at h ⊢
      generalize s.getD 0 0 = c at h ⊢
      by_cases c1 : c.toNat = 40
      · rw [if_pos c1] at h ⊢
        by_cases k1 : 100 < d' + 1
        · rw [if_pos k1]; exact .inr rfl
        rw [if_neg k1]
        by_cases k2 : 100 < d + 1
        · rw [if_pos k2] at h; cases h
        rw [if_neg k2] at h
        cases hbr : branchesE f (d + 1) w with
        | error n => rw [hbr] at h; cases h
        | ok z =>
          obtain ⟨e1, r1⟩ := z
          rw [hbr] at h
          rcases hb (d + 1) (d' + 1) g w e1 r1 (by omega) (by omega) hbr with h2 | h2
          · rw [h2]
            dsimp only at h ⊢
            by_cases k3 : Lib.hasPrefix r1 [41] = true
            · have hl := hasP_len k3
              simp only [List.length_cons, List.length_nil] at hl
              rw [if_pos k3] at h
              rw [if_pos (show Lib.hasPrefix (r1 ++ 41 :: u) [41] = true from isPre_app _ _ _ k3), drop_app hl]
              simp only [Except.ok.injEq, Prod.mk.injEq] at h
              rw [h.1, h.2]; exact .inl rfl
            · rw [if_neg k3] at h; cases h
          · rw [h2]; exact .inr rfl
      rw [if_neg c1] at h ⊢
      by_cases c2 : c.toNat = 91
      · rw [if_pos c2] at h ⊢
        exact .inl (setE_app h)
      rw [if_neg c2] at h ⊢
      by_cases c3 : c.toNat = 94
      · rw [if_pos c3] at h ⊢
        simp only [Except.ok.injEq, Prod.mk.injEq] at h
        rw [h.1, h.2]; exact .inl rfl
      rw [if_neg c3] at h ⊢
      by_cases c4 : c.toNat = 36
      · rw [if_pos c4] at h ⊢
        simp only [Except.ok.injEq, Prod.mk.injEq] at h
        rw [h.1, h.2]; exact .inl rfl
      rw [if_neg c4] at h ⊢
      by_cases c5 : c.toNat = 46
      · rw [if_pos c5] at h ⊢
        simp only [Except.ok.injEq, Prod.mk.injEq] at h
        rw [h.1, h.2]; exact .inl rfl
      rw [if_neg c5] at h ⊢
      by_cases c6 : c.toNat = 92
      · rw [if_pos c6] at h ⊢
        cases he : escE w with
        | error n => rw [he] at h; cases h
        | ok z =>
          obtain ⟨c', r'⟩ := z
          rw [he] at h
          rw [esc_app he]
          simp only [Except.ok.injEq, Prod.mk.injEq] at h
          dsimp only
          rw [h.1, h.2]; exact .inl rfl
      rw [if_neg c6] at h ⊢
      simp only [Except.ok.injEq, Prod.mk.injEq] at h
      rw [h.1, h.2]; exact .inl rfl
    · obtain ⟨g, rfl⟩ : ∃ k, g = k + 1 := ⟨g - 1, by omega⟩
      rw [piecesE] at h ⊢
      by_cases hq : s = [] ∨ (s.getD 0 0).toNat = 124 ∨ (s.getD 0 0).toNat = 41
      · rw [if_pos hq] at h
        have hq' : s ++ 41 :: u = [] ∨ ((s ++ 41 :: u).getD 0 0).toNat = 124 ∨ ((s ++ 41 :: u).getD 0 0).toNat = 41 := by
          cases s with
          | nil => exact .inr (.inr rfl)
          | cons a s => exact hq.elim (fun e => by cases e) (fun h => .inr h)
        rw [if_pos hq']
        simp only [Except.ok.injEq, Prod.mk.injEq] at h
        rw [h.1, h.2]; exact .inl rfl
      have hne : s ≠ [] := fun e => hq (.inl e)
      have hp0 := List.length_pos_iff.2 hne
      have hq' : ¬ (s ++ 41 :: u = [] ∨ ((s ++ 41 :: u).getD 0 0).toNat = 124 ∨ ((s ++ 41 :: u).getD 0 0).toNat = 41) := by
        rw [getD_app hp0]
        rintro (e | e)
        · simp at e
        · exact hq (.inr e)
      rw [if_neg hq] at h
      rw [if_neg hq']
      cases hr : repE s with
      | error n => rw [hr] at h; cases h
      | ok z =>
        obtain ⟨o, r0⟩ := z
        rw [hr] at h
        rw [rep_app hr]
        cases o with
        | some p => cases h
        | none =>
          dsimp only at h ⊢
          cases hat : atomE f d s with
          | error n => rw [hat] at h; cases h
          | ok w =>
            obtain ⟨e1, r1⟩ := w
            rw [hat] at h
            dsimp only at h
            rcases ha d d' g s e1 r1 hd (by omega) hne hat with h2 | h2
            · rw [h2]
              dsimp only
              cases hrs : repsE (r1.length + 1) r1 e1 with
              | error n => rw [hrs] at h; cases h
              | ok z =>
                obtain ⟨e', r'⟩ := z
                rw [hrs] at h
                rw [reps_app _ ((r1 ++ 41 :: u).length + 1) _ _ _ _ (by rw [List.length_append]; omega) hrs]
                exact hp d d' g r' _ e r hd (by omega) h
            · rw [h2]; exact .inr rfl
    · obtain ⟨g, rfl⟩ : ∃ k, g = k + 1 := ⟨g - 1, by omega⟩
      rw [branchesE] at h ⊢
      cases hpc : piecesE f d s [] with
      | error n => rw [hpc] at h; cases h
      | ok z =>
        obtain ⟨e1, r1⟩ := z
        rw [hpc] at h
        rcases hp d d' g s [] e1 r1 hd (by omega) hpc with h2 | h2
        · rw [h2]; exact hal d d' g r1 _ e r hd (by omega) h
        · rw [h2]; exact .inr rfl
    · obtain ⟨g, rfl⟩ : ∃ k, g = k + 1 := ⟨g - 1, by omega⟩
      rw [altsE] at h ⊢
      rw [hpv (by decide)]
      by_cases hq : Lib.hasPrefix s [124] = true
      · have hl := hasP_len hq
        simp only [List.length_cons, List.length_nil] at hl
        rw [if_pos hq] at h ⊢
        rw [drop_app hl]
        cases hpc : piecesE f d (s.drop 1) [] with
        | error n => rw [hpc] at h; cases h
        | ok z =>
          obtain ⟨e1, r1⟩ := z
          rw [hpc] at h
          rcases hp d d' g (s.drop 1) [] e1 r1 hd (by omega) hpc with h2 | h2
          · rw [h2]; exact hal d d' g r1 _ e r hd (by omega) h
          · rw [h2]; exact .inr rfl
      · rw [if_neg hq] at h ⊢
        simp only [Except.ok.injEq, Prod.mk.injEq] at h
        rw [h.1, h.2]; exact .inl rfl
end
theorem parse_inv {s : Bytes} {e : ETree} (h : parseE s = .ok e) : branchesE (3 * s.length + 3) 0 s = .ok (e, []) ∧ sizeE e ≤ 2000 := by
  unfold parseE at h
  cases hb : branchesE (3 * s.length + 3) 0 s with
  | error n => rw [hb] at h; cases h
  | ok z =>
    obtain ⟨e', r⟩ := z
    rw [hb] at h
    dsimp only at h
    by_cases h1 : r ≠ []
    · rw [if_pos h1] at h; cases h
    rw [if_neg h1] at h
    by_cases h2 : 2000 < sizeE e'
    · rw [if_pos h2] at h; cases h
    rw [if_neg h2] at h
    simp only [Except.ok.injEq] at h
    subst h
    have h1 : r = [] := by simpa using h1
    subst h1
    exact ⟨rfl, by omega⟩
/-- A group, as an atom. -/
theorem group_atom {s : Bytes} {e : ETree} (h : parseE s = .ok e) (u : Bytes) {g : Nat} (hg : 3 * s.length + 4 ≤ g) : Or1 (atomE g 0 (40 :: (s ++ 41 :: u))) e u := by
  obtain ⟨g, rfl⟩ : ∃ k, g = k + 1 := ⟨g - 1, by omega⟩
  have hb := (parse_inv h).1
  rw [atomE, if_pos (show ((40 :: (s ++ 41 :: u)).getD 0 0).toNat = 40 from rfl), if_neg (by decide)]
  rcases (parse_app (u := u) (3 * s.length + 3)).2.2.1 0 (0 + 1) g s e [] (by omega) (by omega) hb with h2 | h2
  · have e1 : List.drop 1 (40 :: (s ++ 41 :: u)) = s ++ 41 :: u := rfl
    rw [e1, h2]
    dsimp only
    rw [List.nil_append, hp1]
    exact .inl rfl
  · have e1 : List.drop 1 (40 :: (s ++ 41 :: u)) = s ++ 41 :: u := rfl
    rw [e1, h2]
    exact .inr rfl
theorem rep_open (w : Bytes) : repE (40 :: w) = .ok (none, 40 :: w) := by
  unfold repE
  simp [hp1]
theorem pieces_end (f d : Nat) (l : List ETree) : piecesE (f + 1) d [] l = .ok (joinedE eCat l, []) := by
  rw [piecesE, if_pos (.inl rfl)]
theorem group_pieces {s : Bytes} {e : ETree} (h : parseE s = .ok e) {g : Nat} (hg : 3 * s.length + 5 ≤ g) : Or1 (piecesE g 0 (40 :: (s ++ [41])) []) e [] := by
  obtain ⟨g, rfl⟩ : ∃ k, g = k + 2 := ⟨g - 2, by omega⟩
  rw [piecesE, if_neg (by simp), rep_open]
  dsimp only
  rcases group_atom h [] (g := g + 1) (by omega) with h2 | h2
  · rw [h2]
    have : repsE (([] : Bytes).length + 1) [] e = .ok (e, []) := rfl
    dsimp only
    rw [this]
    dsimp only
    rw [pieces_end]
    exact .inl rfl
  · rw [h2]; exact .inr rfl
theorem group_pieces_bar {s : Bytes} {e : ETree} (h : parseE s = .ok e) (w : Bytes) {g : Nat} (hg : 3 * s.length + 5 ≤ g) : Or1 (piecesE g 0 (40 :: (s ++ 41 :: 124 :: w)) []) e (124 :: w) := by
  obtain ⟨g, rfl⟩ : ∃ k, g = k + 2 := ⟨g - 2, by omega⟩
  rw [piecesE, if_neg (by simp), rep_open]
  dsimp only
  rcases group_atom h (124 :: w) (g := g + 1) (by omega) with h2 | h2
  · rw [h2]
    have hr : repE (124 :: w) = .ok (none, 124 :: w) := by
      unfold repE
      simp [hp1]
    have : repsE ((124 :: w).length + 1) (124 :: w) e = .ok (e, 124 :: w) := by rw [repsE, hr]
    dsimp only
    rw [this]
    dsimp only
    rw [piecesE, if_pos (.inr (.inl rfl))]
    exact .inl rfl
  · rw [h2]; exact .inr rfl
theorem parse_group {s : Bytes} {e : ETree} (h : parseE s = .ok e) : parseE (40 :: (s ++ [41])) = .ok e ∨ parseE (40 :: (s ++ [41])) = .error 1 := by
  have hsz := (parse_inv h).2
  unfold parseE
  have e0 : 3 * (40 :: (s ++ [41])).length + 3 = (3 * s.length + 7) + 2 := by simp; omega
  rw [e0, branchesE]
  rcases group_pieces h (g := 3 * s.length + 7 + 1) (by omega) with h2 | h2
  · rw [h2]
    dsimp only
    have ha : altsE (3 * s.length + 7 + 1) 0 [] [e] = .ok (e, []) := by rw [altsE]; rfl
    rw [ha]
    dsimp only
    rw [if_neg (by simp), if_neg (by omega)]
    exact .inl rfl
  · rw [h2]; exact .inr rfl
theorem parse_two {s t : Bytes} {e a : ETree} (h : parseE s = .ok e) (h' : parseE t = .ok a) {b : ETree} (hb : parseE (40 :: (s ++ 41 :: 124 :: 40 :: (t ++ [41]))) = .ok b) : b = .mk eAlt [] [e, a] 0 0 := by
  have hi := (parse_inv hb).1
  have e0 : 3 * (40 :: (s ++ 41 :: 124 :: 40 :: (t ++ [41]))).length + 3 = (3 * s.length + 3 * t.length + 15) + 3 := by simp; omega
  rw [e0, branchesE] at hi
  rcases group_pieces_bar h (40 :: (t ++ [41])) (g := 3 * s.length + 3 * t.length + 15 + 2) (by omega) with h2 | h2
  · rw [h2] at hi
    dsimp only at hi
    rw [altsE, if_pos (by rw [hp1]; rfl)] at hi
    have e1 : List.drop 1 (124 :: 40 :: (t ++ [41])) = 40 :: (t ++ [41]) := rfl
    rw [e1] at hi
    rcases group_pieces h' (g := 3 * s.length + 3 * t.length + 15 + 1) (by omega) with h3 | h3
    · rw [h3] at hi
      dsimp only at hi
      have ha : altsE (3 * s.length + 3 * t.length + 15 + 1) 0 [] ([e] ++ [a]) = .ok (.mk eAlt [] [e, a] 0 0, []) := by rw [altsE]; rfl
      rw [ha] at hi
      simp only [Except.ok.injEq, Prod.mk.injEq, and_true] at hi
      exact hi.symm
    · rw [h3] at hi; cases hi
  · rw [h2] at hi; cases hi
end Go.AD.Lx

/- ere: EreSets, EreGroups walked. -/
set_option linter.unusedVariables false
set_option linter.unusedSimpArgs false
set_option maxRecDepth 100000
namespace Go.AD.Lx
open Go.Proofs RowKit ETree
/-! ### how often each byte stands in a text -/
def cntB (l : Bytes) (k : Nat) : Nat := l.countP fun c => c.toNat == k
theorem countP_range (k : Nat) : ∀ n : Nat, (List.range n).countP (fun j => j == k) = if k < n then 1 else 0
  | 0 => by simp
  | n + 1 => by
    rw [List.range_succ, List.countP_append, countP_range k n, List.countP_cons, List.countP_nil]
    by_cases h : n = k
    · subst h; simp
    · have : (n == k) = false := by simpa using h
      rw [this]
      by_cases h2 : k < n
      · have h3 : k < n + 1 := by omega
        simp [h2, h3]
      · have h3 : ¬ k < n + 1 := by omega
        simp [h2, h3]
theorem cnt_text (b : BSet) (x : Bool) {k : Nat} (hk : k < 256) : cntB (textB b x) k = if b k = x then 1 else 0 := by
  unfold cntB textB
  rw [List.countP_map, List.countP_filter]
  have e : (List.range 256).countP (fun j => ((fun c : UInt8 => c.toNat == k) ∘ UInt8.ofNat) j && (b j == x)) = (List.range 256).countP (fun j => (j == k) && (b k == x)) := by
    refine List.countP_congr fun j hj => ?_
    have hj : j < 256 := List.mem_range.1 hj
    have hn : (UInt8.ofNat j).toNat = j := by
      rw [UInt8.toNat_ofNat']; omega
    simp only [Function.comp, hn, Bool.and_eq_true, beq_iff_eq]
    constructor
    · rintro ⟨rfl, h⟩; exact ⟨rfl, h⟩
    · rintro ⟨rfl, h⟩; exact ⟨rfl, h⟩
  rw [e]
  by_cases h : b k = x
  · have h' : (b k == x) = true := by simpa using h
    rw [if_pos h]
    simp only [h', Bool.and_true]
    rw [countP_range, if_pos hk]
  · have h' : (b k == x) = false := by simpa using h
    rw [if_neg h]
    simp only [h', Bool.and_false]
    simp
theorem cnt_both (b : BSet) {k : Nat} (hk : k < 256) : cntB (textB b true) k + cntB (textB b false) k = 1 := by
  rw [cnt_text b true hk, cnt_text b false hk]
  cases b k <;> rfl
theorem text_len (b : BSet) (x : Bool) : (textB b x).length ≤ 256 := by
  unfold textB
  rw [List.length_map]
  exact Nat.le_trans (List.length_filter_le _ _) (by rw [List.length_range]; exact Nat.le_refl _)
theorem cnt_le (l : Bytes) (k : Nat) : cntB l k ≤ l.length := List.countP_le_length
theorem cnt_snoc {l : Bytes} {i : Nat} (h : i < l.length) (k : Nat) : cntB (l.take (i + 1)) k = cntB (l.take i) k + if k = (l.getD i 0).toNat then 1 else 0 := by
  rw [take_snocD (d := 0) h]
  unfold cntB
  rw [List.countP_append, List.countP_cons, List.countP_nil]
  by_cases e : k = (l.getD i 0).toNat
  · rw [if_pos e]; subst e; simp
  · rw [if_neg e]
    have : ((l.getD i 0).toNat == k) = false := by simpa using fun h => e h.symm
    rw [this]; simp
/-! ### counters in memory -/
def cellsI (c : Nat → Nat) : List AV := (List.range 256).map fun k => .pv (.int .i64 (c k : Nat))
theorem cellsI_len (c : Nat → Nat) : (cellsI c).length = 256 := by simp [cellsI]
theorem cellsI_get {c : Nat → Nat} {i : Nat} (h : i < 256) : (cellsI c)[i]? = some (.pv (.int .i64 (c i : Nat))) := by simp [cellsI, h]
theorem cellsI_set {c c' : Nat → Nat} {i : Nat} (h : i < 256) (hc : ∀ k, k < 256 → c' k = if k = i then c i + 1 else c k) : (cellsI c).set i (.pv (.int .i64 ((c i + 1 : Nat) : Int))) = cellsI c' := by
  apply List.ext_getElem?
  intro k
  rw [List.getElem?_set]
  by_cases hk : k < 256
  · rw [cellsI_get hk, cellsI_get hk, hc k hk]
    by_cases e : i = k
    · subst e; rw [if_pos rfl, cellsI_len, if_pos h, if_pos rfl]
    · rw [if_neg e, if_neg (fun h => e h.symm)]
  · rw [if_neg (by omega), List.getElem?_eq_none (by rw [cellsI_len]; omega), List.getElem?_eq_none (by rw [cellsI_len]; omega)]
section
variable {env : Env} {args : List AV} {σ0 σ τ : AS} {K : AV → AS → Prop} {X : PV → AS → Prop}
theorem uInt256 : PS.underlying 38 = some (.array 256 3) := Try.underlying38
theorem zoInt256 : zeroOf PS 38 = some (cellsI fun _ => 0) := by kernel_rfl
theorem szInt256 : szOf PS 38 = 256 := by kernel_rfl
theorem hTInt256 : hasT PS 38 = true := by kernel_rfl
theorem agInt256 : aggB PS 38 = true := by kernel_rfl
theorem ixI {id k : Nat} (h : k < 256) {K : AV → Prop} : indexAddrD PS 38 (.addr id 0) (.pv (.int .u8 (k : Nat))) K = K (.addr id k) := by
  simp [indexAddrD, uInt256, T.iS3, T.sz3]
  exact fun _ => by omega
theorem ixA {c : Nat → Nat} {k : Nat} (h : k < 256) {K : AV → Prop} : indexD PS 38 (.agg (cellsI c)) (.pv (.int .i64 (k : Nat))) K = K (.pv (.int .i64 (c k : Nat))) := by
  simp [indexD, uInt256, T.iS3, T.sz3, partD, T.hT3, T.ag3, cellsI_get h]
  exact fun _ => by omega
theorem ldI {c : Nat → Nat} {t : Nat} {var : Option TypeId} (hg : σ t = some (.cells (cellsI c) var)) {K : AV → Prop} : loadD PS σ 38 (.addr t 0) K = K (.agg (cellsI c)) := by
  rw [load_addrA hTInt256 agInt256 hg, szInt256, cellsI_len, List.drop_zero, List.take_of_length_le (by rw [cellsI_len]; exact Nat.le_refl _)]
  simp
def T_EreSets : Tr := fun args σ K _ => ∃ s : Bytes, args = [.pv (.str s)] ∧ ∀ σ', K (.pv (.bool true)) σ'
theorem sets_tail {b : BSet} {t3 t5 t7 : Nat} {σ1 : AS} (hK : ∀ σ', K (.pv (.bool true)) σ')
    (hS : Sep σ0 σ1 ((t7, .cells (cellsI fun _ => 0) (some 38)) :: VarE t5 (ereAV (mk eSet (textB b false) [] 0 0)) :: [VarE t3 (ereAV (mk eSet (textB b true) [] 0 0))])) :
    ∃ I11 : Nat → List AV → AS → Prop, (∃ m, I11 m [.addr t3 0, .addr t5 0, .addr t7 0, (.pv (.int .i64 0))] σ1) ∧ ∀ (m11 : Nat) (e3_l11 g5_l11 there7_l11 i8_l11 : AV), ∀ σ9, I11 m11 [e3_l11, g5_l11, there7_l11, i8_l11] σ9 →
      L9_11 env I11 m11 e3_l11 g5_l11 there7_l11 i8_l11 σ9 K X := by
  have hA := text_len b true
  have hB := text_len b false
  refine lp9_11 (fun (i : Nat) _ => (textB b true).length - i) (fun i τ => i ≤ (textB b true).length ∧ Sep σ0 τ ((t7, .cells (cellsI (cntB ((textB b true).take i))) (some 38)) :: VarE t5 (ereAV (mk eSet (textB b false) [] 0 0)) :: [VarE t3 (ereAV (mk eSet (textB b true) [] 0 0))]))
    (fun i => .pv (.int .i64 ((i : Nat) : Int))) 0 ⟨Nat.zero_le _, hS⟩ ?_
  rintro i τ ⟨hi, hS1⟩
  have hg3 := hS1.get (i := t3) (o := .cells [.pv (.str eSet), .pv (.str (textB b true)), .pv (.lst 0 []), .pv (.int .i64 0), .pv (.int .i64 0)] (some 34)) (List.mem_cons_of_mem _ (List.mem_cons_of_mem _ (List.mem_singleton.2 rfl)))
  have hg7 := hS1.get (i := t7) (o := .cells (cellsI (cntB ((textB b true).take i))) (some 38)) (by simp)
  unfold L9_11
  simp (disch := omega) only [lock_eq, go_sem, hg3, ldM_cells, Nat.zero_add, List.getElem?_cons_zero, List.getElem?_cons_succ, someEx]
  refine iteI (fun g1 => ?_) (fun g1 => ?_)
  · have ix : ∀ K : AV → Prop, indexD PS 9 (.pv (.str (textB b true))) (.pv (.int .i64 (i : Nat))) K = K (.pv (.int .u8 ((textB b true).getD i 0).toNat)) := fun K => T.is9 g1
    have hc := u8lt ((textB b true).getD i 0)
    have hle := cnt_le ((textB b true).take i) ((textB b true).getD i 0).toNat
    have hsn := cnt_snoc g1
    rw [List.length_take] at hle
    generalize ((textB b true).getD i 0).toNat = c at ix hc hle hsn
    simp (disch := omega) only [ix, ixI hc, go_sem, hg7, ldM_cells, stM_cells, cellsI_get hc, someEx, cellsI_len]
    refine ⟨hc, ?_⟩
    rw [cellsI_set (c' := cntB ((textB b true).take (i + 1))) hc (fun k _ => by
      rw [hsn k]
      by_cases e : k = c
      · rw [if_pos e, if_pos e, e]
      · rw [if_neg e, if_neg e]; rfl)]
    exact back (i + 1) rfl (by omega) ⟨g1, Sep.set1 hS1 _⟩
  · have e0 : i = (textB b true).length := by omega
    subst e0
    rw [List.take_length] at hS1
    refine lp9_15 (fun (i : Nat) _ => (textB b false).length - i) (fun i τ => i ≤ (textB b false).length ∧ Sep σ0 τ ((t7, .cells (cellsI fun k => cntB (textB b true) k + cntB ((textB b false).take i) k) (some 38)) :: VarE t5 (ereAV (mk eSet (textB b false) [] 0 0)) :: [VarE t3 (ereAV (mk eSet (textB b true) [] 0 0))]))
      (fun i => .pv (.int .i64 ((i : Nat) : Int))) 0 ⟨Nat.zero_le _, hS1⟩ ?_
    rintro i τ2 ⟨hi, hS2⟩
    have hg5 := hS2.get (i := t5) (o := .cells [.pv (.str eSet), .pv (.str (textB b false)), .pv (.lst 0 []), .pv (.int .i64 0), .pv (.int .i64 0)] (some 34)) (List.mem_cons_of_mem _ (List.mem_cons.2 (.inl rfl)))
    have hg7 := hS2.get (i := t7) (o := .cells (cellsI fun k => cntB (textB b true) k + cntB ((textB b false).take i) k) (some 38)) (by simp)
    unfold L9_15
    simp (disch := omega) only [lock_eq, go_sem, hg5, ldM_cells, Nat.zero_add, List.getElem?_cons_zero, List.getElem?_cons_succ, someEx]
    refine iteI (fun g1 => ?_) (fun g1 => ?_)
    · have ix : ∀ K : AV → Prop, indexD PS 9 (.pv (.str (textB b false))) (.pv (.int .i64 (i : Nat))) K = K (.pv (.int .u8 ((textB b false).getD i 0).toNat)) := fun K => T.is9 g1
      have hc := u8lt ((textB b false).getD i 0)
      have hle := cnt_le ((textB b false).take i) ((textB b false).getD i 0).toNat
      have hle2 := cnt_le (textB b true) ((textB b false).getD i 0).toNat
      have hsn := cnt_snoc g1
      rw [List.length_take] at hle
      generalize ((textB b false).getD i 0).toNat = c at ix hc hle hle2 hsn
      simp (disch := omega) only [ix, ixI hc, go_sem, hg7, ldM_cells, stM_cells, cellsI_get hc, someEx, cellsI_len]
      refine ⟨hc, ?_⟩
      rw [cellsI_set (c := fun k => cntB (textB b true) k + cntB ((textB b false).take i) k) (c' := fun k => cntB (textB b true) k + cntB ((textB b false).take (i + 1)) k) hc (fun k _ => by
        simp only [hsn k]
        by_cases e : k = c
        · rw [if_pos e, if_pos e, e, Nat.add_assoc]
        · rw [if_neg e, if_neg e]; rfl)]
      exact back (i + 1) rfl (by omega) ⟨g1, Sep.set1 hS2 _⟩
    · have e0 : i = (textB b false).length := by omega
      subst e0
      rw [List.take_length] at hg7
      rw [ldI hg7]
      refine lp9_19 (fun (i : Nat) _ => 256 - i) (fun i τ => True) (fun i => .pv (.int .i64 ((i : Nat) : Int))) 0 trivial ?_
      rintro i τ3 -
      unfold L9_19
      simp (disch := omega) only [lock_eq, go_sem]
      refine iteI (fun g1 => ?_) (fun g1 => ?_)
      · have hone := cnt_both b g1
        rw [ixA g1]
        simp (disch := omega) only [go_sem, hone, bne]
        exact back (i + 1) rfl (by omega) trivial
      · exact retV_self (hK τ3)
theorem bin_beq {p q : Bool} {K : AV → Prop} : binD PS .eql 4 (.pv (.bool p)) (.pv (.bool q)) K = K (.pv (.bool (p == q))) := bin_beql Try.underlying4
theorem sets_j8t {e g : AV} {n : Int} (hK : ∀ σ', K (.pv (.bool true)) σ') : J9_8 env e (.pv (.int .i64 n)) g (.pv (.int .i64 n)) (.pv (.bool true)) σ K X := by
  unfold J9_8
  simp only [lock_eq, cond_bool, if_true, bin_eql, bin_beq, beq_self_eq_true]
  exact retV_self (hK σ)
theorem T_EreSets_ok (h1 : env 15 = T_awake3) (h2 : env 16 = T_eParse) (h : T_EreSets args σ K X) : bodyD PS env an9 Try.f9 args σ K X := by
  obtain ⟨s, rfl, hK⟩ := h
  rw [← S9_eq env, S9]
  simp only [lock_eq]
  rw [h1]
  refine ⟨rfl, ?_⟩
  intro σ1 hs1
  simp (disch := omega) only [go_sem]
  refine iteI (fun g1 => ?_) (fun g1 => ?_)
  · exact absurd g1 (by decide)
  refine iteI (fun g4 => ?_) (fun g4 => ?_)
  · exact retV_self (hK σ1)
  refine iteI (fun g2 => ?_) (fun g2 => ?_)
  · exact retV_self (hK σ1)
  have g2 : s ≠ [] := fun e => g2 (by rw [e]; rfl)
  have hp : 0 < s.length := List.length_pos_iff.2 g2
  have i0 : ∀ K : AV → Prop, indexD PS 9 (.pv (.str s)) (.pv (.int .i64 0)) K = K (.pv (.int .u8 (s.getD 0 0).toNat)) := fun K => T.is9 (i := 0) hp
  simp only [i0, go_sem]
  refine iteI (fun g3 => ?_) (fun g3 => ?_)
  · exact retV_self (hK σ1)
  have hs94 : s.getD 0 0 ≠ 94 := fun e => g3 (by rw [e]; rfl)
  unfold J9_5
  simp (disch := omega) only [lock_eq, go_sem]
  refine ⟨by simp; omega, by simp; omega, ?_⟩
  have e1 : ([91] : Bytes) ++ s ++ [93] = 91 :: (s ++ [93]) := rfl
  have e2 : ([91, 94] : Bytes) ++ s ++ [93] = 91 :: 94 :: (s ++ [93]) := rfl
  rw [h2]
  refine ⟨_, rfl, by simp; omega, ?_⟩
  intro σ2 hs2
  rw [e1]
  obtain ⟨v, w, x, y, n, hv, hw, hxy, p1, p2⟩ : ∃ (v w : AV) (x y : ETree) (n : Nat), EV v x ∧ EV w y ∧ ((x = eZero ∧ y = eZero) ∨ (n = 0 ∧ v = ereAV x ∧ w = ereAV y ∧ ∃ b, Sim (mk eSet (textB b true) [] 0 0) (mk eSet (textB b false) [] 0 0) x y)) ∧
      parseV (parseE (91 :: (s ++ [93]))) = .tuple [v, .pv (.int .i64 (n : Nat))] ∧ parseV (parseE (91 :: 94 :: (s ++ [93]))) = .tuple [w, .pv (.int .i64 (n : Nat))] := by
    rcases parse_sets hs94 g2 with ⟨n, p1, p2⟩ | ⟨b, x, y, p1, p2, hsim⟩
    · exact ⟨_, _, eZero, eZero, n, EV.zero, EV.zero, .inl ⟨rfl, rfl⟩, by rw [p1]; rfl, by rw [p2]; rfl⟩
    · exact ⟨_, _, x, y, 0, EV.self x, EV.self y, .inr ⟨rfl, rfl, rfl, b, hsim⟩, by rw [p1]; rfl, by rw [p2]; rfl⟩
  rw [p1]
  simp only [extractD, List.getElem?_cons_zero, List.getElem?_cons_succ, someEx]
  refine alloc_E (Sep.start σ2) ?_
  intro t3 σ3 hS3
  refine store_E (A := []) EV.zero hv hS3 ?_
  intro σ4 hS4
  simp (disch := omega) only [go_sem]
  refine ⟨by simp; omega, by simp; omega, ?_⟩
  refine ⟨_, rfl, by simp; omega, ?_⟩
  intro σ5 hs5
  rw [e2, p2]
  have hS5 := sepUp hS4 hs5
  simp only [List.getElem?_cons_zero, List.getElem?_cons_succ, someEx]
  refine alloc_E hS5 ?_
  intro t5 σ6 hS6
  refine store_E (A := []) EV.zero hw hS6 ?_
  intro σ7 hS7
  obtain ⟨k, rfl, hk, hkc, hko⟩ := hv
  obtain ⟨j, rfl, hj, hjc, hjo⟩ := hw
  have hg3 := hS7.get (i := t3) (o := .cells [.pv (.str x.op), .pv (.str x.set), k, .pv (.int .i64 x.lo), .pv (.int .i64 x.hi)] (some 34)) (List.mem_cons_of_mem _ (List.mem_singleton.2 rfl))
  have hg5 := hS7.get (i := t5) (o := .cells [.pv (.str y.op), .pv (.str y.set), j, .pv (.int .i64 y.lo), .pv (.int .i64 y.hi)] (some 34)) (List.mem_cons.2 (.inl rfl))
  by_cases hn : n ≠ 0
  · have hn' : ((n : Int) != 0) = true := by simpa using hn
    simp (disch := omega) only [go_sem, hn', if_true]
    exact sets_j8t hK
  obtain rfl : n = 0 := by omega
  have hz : (((0 : Nat) : Int) != 0) = false := rfl
  simp (disch := omega) only [go_sem, hz, Bool.false_eq_true, if_false, hg3, hg5, ldM_cells, Nat.zero_add, List.getElem?_cons_zero, List.getElem?_cons_succ, someEx]
  have ne : ∀ {z : ETree}, z.op ≠ eSet → (!(z.op == [115, 101, 116])) = true := by
    intro z hz
    have : (z.op == [115, 101, 116]) = false := by simpa [eSet] using hz
    rw [this]; rfl
  rcases hxy with ⟨rfl, rfl⟩ | ⟨_, hv', hw', b, ⟨rfl, rfl⟩ | ⟨hx, hy, _⟩⟩
  · rw [ne (by decide)]
    simp only [if_true]
    exact sets_j8t hK
  · have e3 : (eSet == [115, 101, 116]) = true := by decide
    simp only [ETree.op, e3, Bool.not_true, Bool.false_eq_true, if_false]
    unfold J9_8
    simp only [lock_eq, cond_bool, Bool.false_eq_true, if_false]
    refine alloc_of zoInt256 (by unfold cellsI; simp [AV.cellOk]) ?_
    intro t7 ht7
    have hS8 := hS7.alloc ht7 (.cells (cellsI fun _ => 0) (some 38))
    rw [hv', hw'] at hS8
    exact sets_tail hK hS8
  · rw [ne hx]
    simp only [if_true]
    exact sets_j8t hK
theorem F_EreSets (hm : HME) : SoundF PS 9 T_EreSets :=
  body_sound hm (EnvOk.add (EnvOk.add (env0_ok PS) (F_awake3 hm)) (F_eParse hm)) an9 Try.func9 Try.call9 S9_ok (fun args σ K X h => T_EreSets_ok rfl rfl h)
end
end Go.AD.Lx
