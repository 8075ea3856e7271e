import Derived.Test.YtjgjmpophpifgaaDoorLsR
import Derived.Test.YtjgjmpophpifgaaDoorLj
import Derived.Test.YtjgjmpophpifgaaDoorG12
import Derived.Test.YtjgjmpophpifgaaDoorRows
/- syntax, plain: what stands behind changes nothing; more calls change nothing. No program in sight. -/
set_option linter.unusedVariables false
set_option linter.unusedSimpArgs false
set_option maxRecDepth 100000
namespace Go.AD.Lx
/-- What may stand behind. -/
structure Good (u : List Tok) : Prop where
  fst : u = [] ∨ endB (atS 0 u) = true
  els : atS 0 (endsS u) ≠ wordT oElse
def S2 {α : Type} (u : List Tok) (m m' : R α) : Prop := ∀ a r, m = .ok a r → m' = .ok a (r ++ u)
section
variable {α β : Type} {u ts : List Tok}
theorem S2.out {m' : R α} : S2 u .out m' := fun _ _ h => nomatch h
theorem S2.wrong {m' : R α} : S2 u .wrong m' := fun _ _ h => nomatch h
theorem S2.ok {a : α} {r : List Tok} : S2 u (.ok a r) (.ok a (r ++ u)) := fun _ _ h => by cases h; rfl
theorem S2.bnd {m m' : R α} {k k' : α → List Tok → R β} (h : S2 u m m') (hk : ∀ a r, m = .ok a r → S2 u (k a r) (k' a (r ++ u))) : S2 u (bnd m k) (bnd m' k') := by
  cases m with
  | out => exact S2.out
  | wrong => exact S2.wrong
  | ok a r => rw [h a r rfl]; exact hk a r rfl
theorem S2.ite {c c' : Prop} [Decidable c] [Decidable c'] {x y x' y' : R α} (hc : c' = c) (h1 : c → S2 u x x') (h2 : ¬ c → S2 u y y') : S2 u (if c then x else y) (if c' then x' else y') := by
  by_cases h : c
  · rw [if_pos h, if_pos (hc ▸ h)]; exact h1 h
  · rw [if_neg h, if_neg (hc ▸ h)]; exact h2 h
theorem atLt {k : Nat} (h : k < ts.length) : atS k (ts ++ u) = atS k ts := by
  unfold atS
  rw [List.getD_eq_getElem?_getD, List.getD_eq_getElem?_getD, List.getElem?_append_left h]
theorem atEq {k : Nat} (h : k = ts.length) : atS k ts = ([], []) ∧ atS k (ts ++ u) = atS 0 u := by
  subst h
  unfold atS
  constructor
  · rw [List.getD_eq_getElem?_getD, List.getElem?_eq_none (Nat.le_refl _)]; rfl
  · rw [List.getD_eq_getElem?_getD, List.getD_eq_getElem?_getD, List.getElem?_append_right (Nat.le_refl _), Nat.sub_self]
theorem endB_cases {t : Tok} (h : endB t = true) : t = (kNl, t.2) ∨ t = opT [59] := by
  unfold endB at h
  simp only [Bool.or_eq_true, decide_eq_true_eq] at h
  rcases h with h | h
  · exact .inl (by rw [← h])
  · exact .inr h
theorem atq {γ : Type} (q : Tok → γ) (G : Good u) {k : Nat} (hk : k ≤ ts.length) (h1 : ∀ x, q (kNl, x) = q ([], [])) (h2 : q (opT [59]) = q ([], [])) : q (atS k (ts ++ u)) = q (atS k ts) := by
  rcases Nat.lt_or_eq_of_le hk with h | h
  · rw [atLt h]
  · obtain ⟨e1, e2⟩ := atEq (u := u) h
    rw [e1, e2]
    rcases G.fst with rfl | hu
    · rfl
    · rcases endB_cases hu with h | h
      · rw [h]; exact h1 _
      · rw [h]; exact h2
theorem atOp (G : Good u) {k : Nat} (hk : k ≤ ts.length) (s : Bytes) (hs : s ≠ [59]) : (atS k (ts ++ u) = opT s) = (atS k ts = opT s) :=
  atq (fun t => t = opT s) G hk (fun x => by simp [opT, kNl, kOp]) (by simp [opT, kOp, Ne.symm hs])
theorem atWord (G : Good u) {k : Nat} (hk : k ≤ ts.length) (s : Bytes) : (atS k (ts ++ u) = wordT s) = (atS k ts = wordT s) :=
  atq (fun t => t = wordT s) G hk (fun x => by simp [wordT, kNl, kWord]) (by simp [opT, wordT, kOp, kWord])
theorem atKind (G : Good u) {k : Nat} (hk : k ≤ ts.length) (ks : List Bytes) (h1 : kNl ∉ ks) (h2 : [] ∉ ks) (h3 : kOp ∉ ks) : ((atS k (ts ++ u)).1 ∈ ks) = ((atS k ts).1 ∈ ks) :=
  atq (fun t => t.1 ∈ ks) G hk (fun x => by simp [h1, h2]) (by simp [opT, h2, h3])
theorem atKind1 (G : Good u) {k : Nat} (hk : k ≤ ts.length) (w : Bytes) (h1 : w ≠ kNl) (h2 : w ≠ []) (h3 : w ≠ kOp) : ((atS k (ts ++ u)).1 = w) = ((atS k ts).1 = w) :=
  atq (fun t => t.1 = w) G hk (fun x => by simp [Ne.symm h1, Ne.symm h2]) (by simp [opT, Ne.symm h2, Ne.symm h3])
theorem level_q (G : Good u) (pr : Bool) : levelS pr (atS 0 (ts ++ u)) = levelS pr (atS 0 ts) := atq (levelS pr) G (Nat.zero_le _) (fun x => by cases pr <;> rfl) (by cases pr <;> rfl)
theorem starts_q (G : Good u) {k : Nat} (hk : k ≤ ts.length) : startsB (atS k (ts ++ u)) = startsB (atS k ts) := atq startsB G hk (fun x => rfl) rfl
theorem tdrop_app {k : Nat} (h : k ≤ ts.length) : (ts ++ u).drop k = ts.drop k ++ u := List.drop_append_of_le_length h
theorem nls_app : nlsS (ts ++ u) = if nlsS ts = [] then nlsS u else nlsS ts ++ u := by
  induction ts with
  | nil => rfl
  | cons t ts ih =>
    rw [List.cons_append, nlsS, nlsS]
    split
    · exact ih
    · rw [if_neg (by simp)]; rfl
theorem ends_app : endsS (ts ++ u) = if endsS ts = [] then endsS u else endsS ts ++ u := by
  induction ts with
  | nil => rfl
  | cons t ts ih =>
    rw [List.cons_append, endsS, endsS]
    split
    · exact ih
    · rw [if_neg (by simp)]; rfl
theorem stepped_app (G : Good u) : steppedS (ts ++ u) = steppedS ts := by
  unfold steppedS
  simp only [atOp G (Nat.zero_le ts.length) [43, 43] (by decide), atOp G (Nat.zero_le ts.length) [45, 45] (by decide)]
theorem sign_app (G : Good u) : ∀ (l : List Bytes), [59] ∉ l → signS l (ts ++ u) = signS l ts
  | [], _ => rfl
  | a :: l, h => by
    rw [signS, signS, sign_app G l (fun h2 => h (List.mem_cons_of_mem _ h2))]
    simp only [atOp G (Nat.zero_le ts.length) a (fun e => h (by rw [e]; exact List.mem_cons_self ..))]
theorem S2.nls {f f' : Ps α} (h : ∀ ts, S2 u (f ts) (f' (ts ++ u))) (h0 : ∀ a r, f [] ≠ .ok a r) : S2 u (f (nlsS ts)) (f' (nlsS (ts ++ u))) := by
  rw [nls_app]
  split
  · rename_i e; rw [e]; exact fun a r hh => absurd hh (h0 a r)
  · exact h _
theorem need_app (G : Good u) {t : Tok} (h1 : endB t = false) (h2 : t ≠ ([], [])) : S2 u (needS t ts) (needS t (ts ++ u)) := by
  unfold needS
  have hc : (atS 0 (ts ++ u) = t) = (atS 0 ts = t) := by
    refine atq (fun x => x = t) G (Nat.zero_le _) (fun x => ?_) ?_
    · have : (kNl, x) ≠ t := by rintro rfl; simp [endB] at h1
      simp [this, Ne.symm h2]
    · have : opT [59] ≠ t := by rintro rfl; simp [endB] at h1
      simp [this, Ne.symm h2]
  refine S2.ite hc (fun h => ?_) (fun _ => S2.wrong)
  rw [tdrop_app (atPos h h2)]
  exact S2.ok
theorem kind_app (G : Good u) {ks : List Bytes} (h1 : kNl ∉ ks) (h2 : [] ∉ ks) (h3 : kOp ∉ ks) : S2 u (kindS ks ts) (kindS ks (ts ++ u)) := by
  unfold kindS
  refine S2.ite (atKind G (Nat.zero_le _) ks h1 h2 h3) (fun h => ?_) (fun _ => S2.wrong)
  have hp := kind_pos h h2
  rw [tdrop_app hp, atLt hp]
  exact S2.ok
end
/-- One set of readers, and one of more calls. -/
structure SR (u : List Tok) (r r' : Rec) : Prop where
  fuel : r.fuel ≤ r'.fuel
  expr : ∀ least pr ts, S2 u (r.expr least pr ts) (r'.expr least pr (ts ++ u))
  unary : ∀ ts, S2 u (r.unary ts) (r'.unary (ts ++ u))
  exponent : ∀ ts, S2 u (r.exponent ts) (r'.exponent (ts ++ u))
  operand : ∀ ts, S2 u (r.operand ts) (r'.operand (ts ++ u))
  statement : ∀ ts, S2 u (r.statement ts) (r'.statement (ts ++ u))
  e0 : ∀ least pr a t, r.expr least pr [] ≠ .ok a t
  s0 : ∀ a t, r.statement [] ≠ .ok a t
section
variable {u ts : List Tok} {r r' : Rec}
theorem P_ahead (G : Good u) (H : SR u r r') (ts : List Tok) : S2 u (aheadS r ts) (aheadS r' (ts ++ u)) := by
  unfold aheadS
  rw [stepped_app G]
  cases h : steppedS ts with
  | none => exact S2.ok
  | some s =>
    dsimp only
    rw [tdrop_app (stepped_pos h)]
    refine (H.operand _).bnd fun a r _ => ?_
    exact S2.ite rfl (fun _ => S2.ok) (fun _ => S2.wrong)
theorem P_step (G : Good u) (H : SR u r r') (ts : List Tok) : S2 u (stepS r ts) (stepS r' (ts ++ u)) := by
  unfold stepS
  refine (P_ahead G H ts).bnd fun o t _ => ?_
  cases o with
  | some e => exact S2.ok
  | none =>
    dsimp only
    refine (H.operand _).bnd fun a t _ => ?_
    refine S2.ite rfl (fun _ => ?_) (fun _ => S2.ok)
    rw [stepped_app G]
    cases h : steppedS t with
    | none => exact S2.ok
    | some s =>
      dsimp only
      rw [tdrop_app (stepped_pos h)]
      exact S2.ok
theorem P_power (G : Good u) (H : SR u r r') (ts : List Tok) : S2 u (powerS r ts) (powerS r' (ts ++ u)) := by
  unfold powerS
  refine (P_step G H ts).bnd fun a t _ => ?_
  refine S2.ite (atOp G (Nat.zero_le _) [94] (by decide)) (fun h => ?_) (fun _ => S2.ok)
  rw [tdrop_app (atPos h (by decide))]
  exact (H.exponent _).bnd fun x t _ => S2.ok
theorem P_listL (G : Good u) (H : SR u r r') (pr : Bool) : ∀ (f f' : Nat) (l : List NTree) (ts : List Tok), f ≤ f' → S2 u (listL r pr f l ts) (listL r' pr f' l (ts ++ u))
  | 0, _, _, _, _ => by rw [listL]; exact S2.out
  | f + 1, 0, _, _, h => by omega
  | f + 1, f' + 1, l, ts, hf => by
    rw [listL, listL]
    refine S2.ite (atOp G (Nat.zero_le _) [44] (by decide)) (fun h => ?_) (fun _ => S2.ok)
    rw [tdrop_app (atPos h (by decide))]
    refine (S2.nls (H.expr 1 pr) (H.e0 1 pr)).bnd fun x t _ => ?_
    exact P_listL G H pr f f' _ _ (by omega)
theorem P_list (G : Good u) (H : SR u r r') (pr : Bool) (ts : List Tok) : S2 u (listS r pr ts) (listS r' pr (ts ++ u)) := by
  unfold listS
  exact (H.expr 1 pr ts).bnd fun a t _ => P_listL G H pr _ _ _ _ H.fuel
theorem P_args (G : Good u) (H : SR u r r') (ts : List Tok) : S2 u (argsS r ts) (argsS r' (ts ++ u)) := by
  unfold argsS
  refine S2.ite (atOp G (Nat.zero_le _) [41] (by decide)) (fun h => ?_) (fun _ => ?_)
  · rw [tdrop_app (atPos h (by decide))]; exact S2.ok
  · refine (P_list G H false ts).bnd fun a t _ => ?_
    exact (need_app G (by decide) (by decide)).bnd fun _ t _ => S2.ok
theorem P_subs (G : Good u) (H : SR u r r') (ts : List Tok) : S2 u (subsS r ts) (subsS r' (ts ++ u)) := by
  unfold subsS
  refine (P_list G H false ts).bnd fun a t _ => ?_
  exact (need_app G (by decide) (by decide)).bnd fun _ t _ => S2.ok
theorem P_exprL (G : Good u) (H : SR u r r') (least : Nat) (pr : Bool) : ∀ (f f' : Nat) (left : NTree) (b : Nat) (ts : List Tok), f ≤ f' → S2 u (exprL r least pr f left b ts) (exprL r' least pr f' left b (ts ++ u))
  | 0, _, _, _, _, _ => by rw [exprL]; exact S2.out
  | f + 1, 0, _, _, _, h => by omega
  | f + 1, f' + 1, left, b, ts, hf => by
    rw [exprL, exprL, level_q G pr]
    refine S2.ite rfl (fun _ => S2.ok) (fun h0 => ?_)
    have hp : 0 < ts.length := by
      cases ts with
      | nil => exact absurd (show levelS pr (atS 0 []) = 0 by cases pr <;> decide) (fun e => h0 (.inr (.inr e)))
      | cons => simp
    rw [atLt hp, tdrop_app hp]
    refine S2.ite rfl (fun _ => ?_) (fun _ => ?_)
    · refine S2.ite rfl (fun _ => ?_) (fun _ => S2.wrong)
      exact (H.expr 1 pr _).bnd fun a t _ => S2.ok
    refine S2.ite rfl (fun _ => ?_) (fun _ => ?_)
    · refine (S2.nls (H.expr 1 pr) (H.e0 1 pr)).bnd fun x t _ => ?_
      refine (need_app G (by decide) (by decide)).bnd fun _ t _ => ?_
      exact (S2.nls (H.expr 1 pr) (H.e0 1 pr)).bnd fun x t _ => S2.ok
    refine S2.ite rfl (fun _ => ?_) (fun _ => ?_)
    · exact (kind_app G (by decide) (by decide) (by decide)).bnd fun x t _ => P_exprL G H least pr f f' _ _ _ (by omega)
    refine S2.ite rfl (fun _ => ?_) (fun _ => ?_)
    · exact (H.expr 9 pr _).bnd fun x t _ => P_exprL G H least pr f f' _ _ _ (by omega)
    · have hx : S2 u (r.expr (levelS pr (atS 0 ts) + 1) pr (if levelS pr (atS 0 ts) ≤ 4 then nlsS (ts.drop 1) else ts.drop 1)) (r'.expr (levelS pr (atS 0 ts) + 1) pr (if levelS pr (atS 0 ts) ≤ 4 then nlsS (ts.drop 1 ++ u) else ts.drop 1 ++ u)) := by
        by_cases h : levelS pr (atS 0 ts) ≤ 4
        · rw [if_pos h, if_pos h]; exact S2.nls (H.expr _ pr) (H.e0 _ pr)
        · rw [if_neg h, if_neg h]; exact H.expr _ pr _
      exact hx.bnd fun x t _ => P_exprL G H least pr f f' _ _ _ (by omega)
theorem P_expr (G : Good u) (H : SR u r r') (least : Nat) (pr : Bool) (ts : List Tok) : S2 u (exprS r least pr ts) (exprS r' least pr (ts ++ u)) := by
  unfold exprS
  exact (H.unary ts).bnd fun a t _ => P_exprL G H least pr _ _ _ _ _ H.fuel
theorem P_unary (G : Good u) (H : SR u r r') (ts : List Tok) : S2 u (unaryS r ts) (unaryS r' (ts ++ u)) := by
  unfold unaryS
  rw [sign_app G _ (by decide)]
  cases h : signS [[33], [43], [45]] ts with
  | none => exact P_power G H ts
  | some s =>
    dsimp only
    rw [tdrop_app (sign_pos h)]
    exact (H.unary _).bnd fun a t _ => S2.ok
theorem P_exponent (G : Good u) (H : SR u r r') (ts : List Tok) : S2 u (exponentS r ts) (exponentS r' (ts ++ u)) := by
  unfold exponentS
  rw [sign_app G _ (by decide)]
  cases h : signS [[43], [45]] ts with
  | none => exact P_power G H ts
  | some s =>
    dsimp only
    rw [tdrop_app (sign_pos h)]
    exact (H.exponent _).bnd fun a t _ => S2.ok
theorem args0 (G : Good u) (H : SR u r r') : ∀ a t, argsS r [] ≠ .ok a t := by
  intro a t h
  have e : argsS r [] = bnd (listS r false []) fun l ts => bnd (needS (opT [41]) ts) fun _ ts => .ok l ts := rfl
  rw [e] at h
  unfold listS at h
  cases hx : r.expr 1 false [] with
  | out => rw [hx] at h; cases h
  | wrong => rw [hx] at h; cases h
  | ok a t => exact H.e0 1 false a t hx
theorem P_operand (G : Good u) (H : SR u r r') (ts : List Tok) : S2 u (opndS r ts) (opndS r' (ts ++ u)) := by
  unfold opndS
  by_cases h0 : atS 0 ts = ([], [])
  · rw [if_pos h0]; exact S2.wrong
  rw [if_neg h0]
  have hp : 0 < ts.length := by
    cases ts with
    | nil => exact absurd rfl h0
    | cons => simp
  rw [atLt hp, if_neg h0, tdrop_app hp]
  refine S2.ite rfl (fun _ => S2.ok) (fun _ => ?_)
  refine S2.ite rfl (fun _ => ?_) (fun _ => ?_)
  · refine S2.ite (atOp G hp [91] (by decide)) (fun h => ?_) (fun _ => S2.ok)
    have h2 : 2 ≤ ts.length := at_pos h (by decide)
    rw [tdrop_app h2]
    exact (P_subs G H _).bnd fun l t _ => S2.ok
  refine S2.ite rfl (fun _ => ?_) (fun _ => ?_)
  · rcases Nat.lt_or_ge 1 ts.length with h2 | h2
    · rw [tdrop_app h2]
      exact (P_args G H _).bnd fun l t _ => S2.ok
    · have e : ts.drop 2 = [] := List.drop_eq_nil_of_le (by omega)
      rw [e]
      cases hx : argsS r [] with
      | out => exact S2.out
      | wrong => exact S2.wrong
      | ok a t => exact absurd hx (args0 G H a t)
  refine S2.ite rfl (fun _ => ?_) (fun _ => ?_)
  · refine S2.ite (atOp G hp [40] (by decide)) (fun h => ?_) (fun _ => S2.ite rfl (fun _ => S2.ok) (fun _ => S2.wrong))
    have h2 : 2 ≤ ts.length := at_pos h (by decide)
    rw [tdrop_app h2]
    exact (P_args G H _).bnd fun l t _ => S2.ok
  refine S2.ite rfl (fun _ => ?_) (fun _ => ?_)
  · refine (P_list G H false _).bnd fun l t _ => ?_
    refine (need_app G (by decide) (by decide)).bnd fun _ t _ => ?_
    refine S2.ite rfl (fun _ => S2.ok) (fun _ => ?_)
    refine S2.ite (atWord G (Nat.zero_le _) wIn) (fun h => ?_) (fun _ => S2.ok)
    rw [tdrop_app (atPos h (by decide))]
    exact (kind_app G (by decide) (by decide) (by decide)).bnd fun x t _ => S2.ok
  refine S2.ite rfl (fun _ => ?_) (fun _ => S2.wrong)
  refine (P_ahead G H _).bnd fun o t _ => ?_
  cases o with
  | some e => exact S2.ok
  | none => exact (H.operand _).bnd fun a t _ => S2.ok
theorem P_tail (G : Good u) (H : SR u r r') (w : Bytes) (l : List NTree) (ts : List Tok) : S2 u (printTail r w l ts) (printTail r' w l (ts ++ u)) := by
  unfold printTail
  rw [sign_app G _ (by decide)]
  cases h : signS [[62], [62, 62]] ts with
  | none => exact S2.ok
  | some s =>
    dsimp only
    rw [tdrop_app (sign_pos h)]
    exact (H.expr 8 true _).bnd fun a t _ => S2.ok
theorem P_printed (G : Good u) (H : SR u r r') (w : Bytes) (ts : List Tok) : S2 u (printedS r w ts) (printedS r' w (ts ++ u)) := by
  unfold printedS
  rw [starts_q G (Nat.zero_le _)]
  refine S2.ite rfl (fun _ => ?_) (fun _ => ?_)
  · exact (P_list G H true _).bnd fun a t _ => P_tail G H _ _ _
  · exact S2.ite rfl (fun _ => S2.wrong) (fun _ => P_tail G H _ _ _)
theorem P_simple (G : Good u) (H : SR u r r') (ts : List Tok) : S2 u (simpleS r ts) (simpleS r' (ts ++ u)) := by
  unfold simpleS
  refine S2.ite (by rw [Ne, Ne, atKind1 G (Nat.zero_le _) kWord (by decide) (by decide) (by decide)]) (fun _ => ?_) (fun h0 => ?_)
  · exact (H.expr 1 false _).bnd fun a t _ => S2.ok
  have hp : 0 < ts.length := by
    cases ts with
    | nil => exact absurd (show ¬ (atS 0 []).1 = kWord by decide) h0
    | cons => simp
  rw [atLt hp, tdrop_app hp, starts_q G hp]
  refine S2.ite rfl (fun _ => P_printed G H _ _) (fun _ => ?_)
  refine S2.ite rfl (fun _ => S2.ok) (fun _ => ?_)
  refine S2.ite rfl (fun _ => ?_) (fun _ => ?_)
  · refine S2.ite rfl (fun _ => ?_) (fun _ => S2.ok)
    exact (H.expr 1 false _).bnd fun a t _ => S2.ok
  refine S2.ite rfl (fun _ => ?_) (fun _ => S2.wrong)
  refine (kind_app G (by decide) (by decide) (by decide)).bnd fun x t _ => ?_
  refine (need_app G (by decide) (by decide)).bnd fun _ t _ => ?_
  exact (P_subs G H _).bnd fun l t _ => S2.ok
theorem P_paren (G : Good u) (H : SR u r r') (ts : List Tok) : S2 u (parenS r ts) (parenS r' (ts ++ u)) := by
  unfold parenS
  refine (need_app G (by decide) (by decide)).bnd fun _ t _ => ?_
  refine (H.expr 1 false _).bnd fun a t _ => ?_
  exact (need_app G (by decide) (by decide)).bnd fun _ t _ => S2.ok
theorem P_body (G : Good u) (H : SR u r r') (ts : List Tok) : S2 u (bodyS r ts) (bodyS r' (ts ++ u)) := S2.nls H.statement H.s0
theorem body0 (H : SR u r r') : ∀ a t, bodyS r [] ≠ .ok a t := H.s0
theorem P_choice (G : Good u) (H : SR u r r') (ts : List Tok) : S2 u (choiceS r ts) (choiceS r' (ts ++ u)) := by
  unfold choiceS
  refine (P_paren G H ts).bnd fun c t _ => ?_
  refine (P_body G H t).bnd fun a t _ => ?_
  refine S2.ite ?_ (fun h => ?_) (fun _ => S2.ok)
  · have he : (atS 0 (endsS (t ++ u)) = wordT oElse) = (atS 0 (endsS t) = wordT oElse) := by
      rw [ends_app]
      split
      · rename_i e
        rw [e]
        exact propext ⟨fun h => absurd h G.els, fun h => absurd h (by decide)⟩
      · exact atWord G (Nat.zero_le _) oElse
    rw [he]
    refine propext ⟨fun h => ⟨?_, h.2⟩, fun h => ⟨?_, h.2⟩⟩
    · have hp : t ≠ [] := by rintro rfl; exact absurd h.2 (by decide)
      have := h.1
      rwa [atLt (List.length_pos_iff.2 hp)] at this
    · have hp : t ≠ [] := by rintro rfl; exact absurd h.2 (by decide)
      rw [atLt (List.length_pos_iff.2 hp)]
      exact h.1
  · have hp := atPos h.2 (by decide)
    have e : endsS (t ++ u) = endsS t ++ u := by rw [ends_app, if_neg (List.length_pos_iff.1 hp)]
    rw [e, tdrop_app hp]
    exact (P_body G H _).bnd fun b t _ => S2.ok
theorem bnd_ne {α β : Type} {m : R α} {k : α → List Tok → R β} (h : ∀ a t, m ≠ .ok a t) : ∀ b t, bnd m k ≠ .ok b t := by
  intro b t hb
  cases m with
  | out => cases hb
  | wrong => cases hb
  | ok a r => exact h a r rfl
theorem S2.ne {α : Type} {m m' : R α} (h : ∀ a t, m ≠ .ok a t) : S2 u m m' := fun a r hh => absurd hh (h a r)
theorem S2.bnd2 {α β : Type} {m m' : R α} {k k' : α → List Tok → R β} (h : ∀ a r, m = .ok a r → (∀ b t, k a r ≠ .ok b t) ∨ (m' = .ok a (r ++ u) ∧ S2 u (k a r) (k' a (r ++ u)))) : S2 u (Lx.bnd m k) (Lx.bnd m' k') := by
  cases m with
  | out => exact S2.out
  | wrong => exact S2.wrong
  | ok a r =>
    rcases h a r rfl with h | ⟨h1, h2⟩
    · exact S2.ne h
    · rw [h1]; exact h2
theorem S2.imp {α : Type} {c c' : Prop} [Decidable c] [Decidable c'] {x x' y' : R α} (h : (∀ a t, x ≠ .ok a t) ∨ ((c → c') ∧ S2 u x x')) : S2 u (if c then x else .wrong) (if c' then x' else y') := by
  by_cases hc : c
  · rw [if_pos hc]
    rcases h with h | ⟨h1, h2⟩
    · exact S2.ne h
    · rw [if_pos (h1 hc)]; exact h2
  · rw [if_neg hc]; exact S2.wrong
theorem need0 {t : Tok} (ht : t ≠ ([], [])) : ∀ a r, needS t [] ≠ .ok a r := by
  intro a r h
  unfold needS at h
  rw [if_neg (show ¬ atS 0 [] = t from Ne.symm ht)] at h
  cases h
theorem need_app2 {t : Tok} (ht : t ≠ ([], [])) : S2 u (needS t ts) (needS t (ts ++ u)) := by
  cases ts with
  | nil => exact S2.ne (need0 ht)
  | cons a ts =>
    unfold needS
    exact S2.ite rfl (fun _ => S2.ok) (fun _ => S2.wrong)
theorem simple0 (H : SR u r r') : ∀ a t, simpleS r [] ≠ .ok a t := by
  unfold simpleS
  rw [if_pos (show (atS 0 []).1 ≠ kWord by decide)]
  exact bnd_ne (H.e0 1 false)
theorem part0 {p : Ps NTree} {w : Bytes} (h0 : ∀ a t, p [] ≠ .ok a t) : ∀ a t, partS w p [] ≠ .ok a t := by
  unfold partS
  refine bnd_ne ?_
  rw [if_neg (by simp [atS, opT, kOp])]
  exact h0
theorem P_part {p p' : Ps NTree} {w : Bytes} (hp : ∀ ts, S2 u (p ts) (p' (ts ++ u))) (h0 : ∀ a t, p [] ≠ .ok a t) (ts : List Tok) :
    ∀ a t, partS w p ts = .ok a t → t = [] ∨ partS w p' (ts ++ u) = .ok a (t ++ u) := by
  intro a t h
  cases ts with
  | nil => exact absurd h (part0 h0 a t)
  | cons x ts =>
    unfold partS at h ⊢
    have h1 : S2 u (if atS 0 (x :: ts) = opT w then R.ok noneN (x :: ts) else p (x :: ts)) (if atS 0 (x :: ts ++ u) = opT w then R.ok noneN (x :: ts ++ u) else p' (x :: ts ++ u)) := S2.ite rfl (fun _ => S2.ok) (fun _ => hp (x :: ts))
    cases hm : (if atS 0 (x :: ts) = opT w then R.ok noneN (x :: ts) else p (x :: ts)) with
    | out => rw [hm] at h; cases h
    | wrong => rw [hm] at h; cases h
    | ok b t1 =>
      rw [hm] at h
      rw [h1 b t1 hm]
      have h2 : S2 u (needS (opT w) t1) (needS (opT w) (t1 ++ u)) := need_app2 (by simp [opT, kOp])
      have h : bnd (needS (opT w) t1) (fun _ ts => R.ok b (nlsS ts)) = .ok a t := h
      show t = [] ∨ bnd (needS (opT w) (t1 ++ u)) (fun _ ts => R.ok b (nlsS ts)) = _
      cases hn : needS (opT w) t1 with
      | out => rw [hn] at h; cases h
      | wrong => rw [hn] at h; cases h
      | ok c t2 =>
        rw [hn] at h
        rw [h2 c t2 hn]
        have h : R.ok b (nlsS t2) = .ok a t := h
        cases h
        show _ ∨ R.ok a (nlsS (t2 ++ u)) = _
        rw [nls_app]
        by_cases e : nlsS t2 = []
        · exact .inl e
        · rw [if_neg e]; exact .inr rfl
theorem P_loop (G : Good u) (H : SR u r r') (ts : List Tok) : S2 u (loopS r ts) (loopS r' (ts ++ u)) := by
  unfold loopS
  refine (need_app G (by decide) (by decide)).bnd fun _ t _ => ?_
  refine S2.ite ?_ (fun h => ?_) (fun _ => ?_)
  · rcases Nat.lt_or_ge 2 t.length with h | h
    · rw [atKind1 G (k := 0) (by omega) kName (by decide) (by decide) (by decide), atWord G (k := 1) (by omega), atKind1 G (k := 2) (by omega) kName (by decide) (by decide) (by decide), atOp G (k := 3) (by omega) [41] (by decide)]
    · refine propext ⟨fun hh => ?_, fun hh => ?_⟩
      · exfalso
        have h1 := hh.1
        have h2 := hh.2.1
        have h3 := hh.2.2.1
        rw [atKind1 G (k := 0) (by omega) kName (by decide) (by decide) (by decide)] at h1
        have l1 : 1 ≤ t.length := kind_pos (ks := [kName]) (by rw [h1]; exact List.mem_singleton.2 rfl) (by decide)
        rw [atWord G (k := 1) l1] at h2
        have l2 : 2 ≤ t.length := at_pos h2 (by decide)
        rw [atKind1 G (k := 2) l2 kName (by decide) (by decide) (by decide)] at h3
        have e : t.length = 2 := by omega
        rw [(atEq (u := u) e.symm).1] at h3
        exact absurd h3 (by decide)
      · exfalso
        have : 4 ≤ t.length := at_pos hh.2.2.2 (by decide)
        omega
  · have h4 : 4 ≤ t.length := at_pos h.2.2.2 (by decide)
    rw [atLt (show 0 < t.length by omega), atLt (show 2 < t.length by omega), tdrop_app h4]
    exact (P_body G H _).bnd fun b t _ => S2.ok
  · refine S2.bnd2 fun a t1 h1 => ?_
    rcases P_part (P_simple G H) (simple0 H) t a t1 h1 with e | e
    · rw [e]; exact .inl (bnd_ne (part0 (H.e0 1 false)))
    refine .inr ⟨e, ?_⟩
    refine S2.bnd2 fun b t2 h2 => ?_
    rcases P_part (H.expr 1 false) (H.e0 1 false) t1 b t2 h2 with e | e
    · rw [e]; exact .inl (bnd_ne (part0 (simple0 H)))
    refine .inr ⟨e, ?_⟩
    refine S2.bnd2 fun c t3 h3 => ?_
    rcases P_part (P_simple G H) (simple0 H) t2 c t3 h3 with e | e
    · rw [e]; exact .inl (bnd_ne H.s0)
    refine .inr ⟨e, ?_⟩
    exact (H.statement t3).bnd fun s t _ => S2.ok
theorem ends_nil {t : List Tok} (h : endsS t ≠ []) : t ≠ [] := by rintro rfl; exact h rfl
theorem blockL0 (H : SR u r r') : ∀ f l a t, blockL r f l [] ≠ .ok a t
  | 0, l, a, t, h => by rw [blockL] at h; cases h
  | f + 1, l, a, t, h => by
    rw [blockL, if_neg (show ¬ atS 0 [] = opT [125] by decide)] at h
    exact bnd_ne H.s0 a t h
theorem P_blockL (G : Good u) (H : SR u r r') : ∀ (f f' : Nat) (l : List NTree) (ts : List Tok), f ≤ f' → S2 u (blockL r f l ts) (blockL r' f' l (ts ++ u))
  | 0, _, _, _, _ => by rw [blockL]; exact S2.out
  | f + 1, 0, _, _, h => by omega
  | f + 1, f' + 1, l, ts, hf => by
    rw [blockL, blockL]
    refine S2.ite (atOp G (Nat.zero_le _) [125] (by decide)) (fun h => ?_) (fun _ => ?_)
    · rw [tdrop_app (atPos h (by decide))]; exact S2.ok
    · refine (H.statement ts).bnd fun s t _ => ?_
      by_cases e : endsS t = []
      · rw [e]; exact S2.imp (.inl (blockL0 H _ _))
      · have hne := ends_nil e
        have e2 : endsS (t ++ u) = endsS t ++ u := by rw [ends_app, if_neg e]
        refine S2.imp (.inr ⟨?_, ?_⟩)
        · rw [atLt (List.length_pos_iff.2 hne), e2, atLt (List.length_pos_iff.2 e)]; exact id
        · rw [e2]; exact P_blockL G H f f' _ _ (by omega)
theorem P_block (G : Good u) (H : SR u r r') (ts : List Tok) : S2 u (blockS r ts) (blockS r' (ts ++ u)) := by
  unfold blockS
  refine (need_app G (by decide) (by decide)).bnd fun _ t _ => ?_
  by_cases e : endsS t = []
  · rw [e]; exact S2.ne (blockL0 H _ _)
  · rw [ends_app, if_neg e]; exact P_blockL G H _ _ _ _ H.fuel
theorem block0 : ∀ a t, blockS r [] ≠ .ok a t := bnd_ne (need0 (by decide))
theorem stat0 (H : SR u r r') : ∀ a t, statementS r [] ≠ .ok a t := by
  intro a t h
  have e : statementS r [] = bnd (simpleS r []) fun e ts => .ok (e, true) ts := rfl
  rw [e] at h
  exact bnd_ne (simple0 H) a t h
theorem P_statement (G : Good u) (H : SR u r r') (ts : List Tok) : S2 u (statementS r ts) (statementS r' (ts ++ u)) := by
  cases ts with
  | nil => exact S2.ne (stat0 H)
  | cons x ts =>
    have hp : 0 < (x :: ts).length := by simp
    generalize hy : x :: ts = ys at hp
    unfold statementS
    rw [atLt hp, tdrop_app hp]
    refine S2.ite rfl (fun _ => ?_) (fun _ => ?_)
    · exact (P_block G H _).bnd fun b t _ => S2.ok
    refine S2.ite rfl (fun _ => S2.ok) (fun _ => ?_)
    refine S2.ite rfl (fun _ => P_choice G H _) (fun _ => ?_)
    refine S2.ite rfl (fun _ => ?_) (fun _ => ?_)
    · refine (P_paren G H _).bnd fun c t _ => ?_
      exact (P_body G H _).bnd fun c t _ => S2.ok
    refine S2.ite rfl (fun _ => ?_) (fun _ => ?_)
    · refine (P_body G H _).bnd fun s t _ => ?_
      by_cases e : endsS t = []
      · rw [e]; exact S2.imp (.inl (bnd_ne (need0 (by decide))))
      · have hne := ends_nil e
        refine S2.imp (.inr ⟨?_, ?_⟩)
        · rw [atLt (List.length_pos_iff.2 hne)]; exact id
        · rw [ends_app, if_neg e]
          refine (need_app2 (by decide)).bnd fun _ t _ => ?_
          exact (P_paren G H _).bnd fun c t _ => S2.ok
    refine S2.ite rfl (fun _ => P_loop G H _) (fun _ => ?_)
    exact (P_simple G H _).bnd fun e t _ => S2.ok
end
theorem e0_of {n : Nat} {r : Rec} (F : FR n r) : (∀ least pr a t, r.expr least pr [] ≠ .ok a t) ∧ ∀ a t, r.statement [] ≠ .ok a t := by
  constructor
  · intro least pr a t h
    have := F.expr least pr [] (by simp)
    rw [h] at this
    exact absurd this.2 (by simp)
  · intro a t h
    have := F.statement [] (by simp)
    rw [h] at this
    exact absurd this.2 (by simp)
theorem SR_all {u : List Tok} (G : Good u) : ∀ n m : Nat, n ≤ m → SR u (recN n) (recN m)
  | 0, m, h => ⟨Nat.zero_le _, fun _ _ _ => S2.out, fun _ => S2.out, fun _ => S2.out, fun _ => S2.out, fun _ => S2.out, fun _ _ _ _ h => (nomatch h), fun _ _ h => (nomatch h)⟩
  | n + 1, 0, h => by omega
  | n + 1, m + 1, h => by
    have H := SR_all G n m (by omega)
    have e := e0_of (FR_all (n + 1))
    exact ⟨by rw [(FR_all (n + 1)).fuel, (FR_all (m + 1)).fuel]; omega, P_expr G H, P_unary G H, P_exponent G H, P_operand G H, P_statement G H, e.1, e.2⟩
section
variable {u ts : List Tok} {r r' : Rec}
theorem kind0 {ks : List Bytes} (hk : [] ∉ ks) : ∀ a t, kindS ks [] ≠ .ok a t := by
  intro a t h
  unfold kindS at h
  rw [if_neg (show ¬ (atS 0 []).1 ∈ ks from hk)] at h
  cases h
theorem P_paramsL (G : Good u) : ∀ (f f' : Nat) (l : List NTree) (ts : List Tok), f ≤ f' → S2 u (paramsL f l ts) (paramsL f' l (ts ++ u))
  | 0, _, _, _, _ => by rw [paramsL]; exact S2.out
  | f + 1, 0, _, _, h => by omega
  | f + 1, f' + 1, l, ts, hf => by
    rw [paramsL, paramsL]
    have h1 : S2 u (kindS [kName] (if l = [] then ts else nlsS ts)) (kindS [kName] (if l = [] then ts ++ u else nlsS (ts ++ u))) := by
      by_cases h : l = []
      · rw [if_pos h, if_pos h]; exact kind_app G (by decide) (by decide) (by decide)
      · rw [if_neg h, if_neg h]; exact S2.nls (fun ts => kind_app G (by decide) (by decide) (by decide)) (kind0 (by decide))
    refine h1.bnd fun x t _ => ?_
    refine S2.ite (atOp G (Nat.zero_le _) [44] (by decide)) (fun h => ?_) (fun _ => ?_)
    · rw [tdrop_app (atPos h (by decide))]; exact P_paramsL G f f' _ _ (by omega)
    · exact (need_app G (by decide) (by decide)).bnd fun _ t _ => S2.ok
theorem P_function (G : Good u) (H : SR u r r') (ts : List Tok) : S2 u (functionS r ts) (functionS r' (ts ++ u)) := by
  unfold functionS
  refine (kind_app G (by decide) (by decide) (by decide)).bnd fun x t _ => ?_
  refine (need_app G (by decide) (by decide)).bnd fun _ t _ => ?_
  have h1 : S2 u (if atS 0 t = opT [41] then R.ok [] (t.drop 1) else paramsL r.fuel [] t) (if atS 0 (t ++ u) = opT [41] then R.ok [] ((t ++ u).drop 1) else paramsL r'.fuel [] (t ++ u)) := by
    refine S2.ite (atOp G (Nat.zero_le _) [41] (by decide)) (fun h => ?_) (fun _ => P_paramsL G _ _ _ _ H.fuel)
    rw [tdrop_app (atPos h (by decide))]; exact S2.ok
  refine h1.bnd fun l t _ => ?_
  exact (S2.nls (P_block G H) block0).bnd fun b t _ => S2.ok
theorem P_blk (G : Good u) (H : SR u r r') (ts : List Tok) : S2 u (blkS r ts) (blkS r' (ts ++ u)) := by
  unfold blkS
  refine S2.ite (atOp G (Nat.zero_le _) [123] (by decide)) (fun h => ?_) (fun _ => S2.ok)
  exact (P_block G H _).bnd fun b t _ => S2.ok
theorem P_item (G : Good u) (H : SR u r r') (ts : List Tok) : S2 u (itemS r ts) (itemS r' (ts ++ u)) := by
  unfold itemS
  refine S2.ite (atWord G (Nat.zero_le _) oBegin) (fun h => ?_) (fun _ => ?_)
  · rw [tdrop_app (atPos h (by decide))]
    exact (P_block G H _).bnd fun b t _ => S2.ok
  refine S2.ite (atWord G (Nat.zero_le _) oEnd) (fun h => ?_) (fun _ => ?_)
  · rw [tdrop_app (atPos h (by decide))]
    exact (P_block G H _).bnd fun b t _ => S2.ok
  refine S2.ite (atWord G (Nat.zero_le _) oFunction) (fun h => ?_) (fun _ => ?_)
  · rw [tdrop_app (atPos h (by decide))]
    exact (P_function G H _).bnd fun b t _ => S2.ok
  refine S2.ite (atOp G (Nat.zero_le _) [123] (by decide)) (fun h => ?_) (fun _ => ?_)
  · exact (P_block G H _).bnd fun b t _ => S2.ok
  refine (H.expr 1 false _).bnd fun a t _ => ?_
  refine S2.ite (atOp G (Nat.zero_le _) [44] (by decide)) (fun h => ?_) (fun _ => ?_)
  · rw [tdrop_app (atPos h (by decide))]
    refine (S2.nls (H.expr 1 false) (H.e0 1 false)).bnd fun b t _ => ?_
    exact (P_blk G H _).bnd fun c t _ => S2.ok
  · exact (P_blk G H _).bnd fun c t _ => S2.ok
/-- Items, with what stands behind them, and others ahead. -/
theorem P_itemsL (G : Good u) {n m : Nat} (hnm : n ≤ m) (pre : List NTree) : ∀ (f : Nat) (l : List NTree) (us : List Tok) (A : List NTree) (t : List Tok), us.length ≤ 70000 → itemsL (recN n) f l (endsS us) = .ok A t → ∀ f', us.length + u.length < f' →
    ∃ g, u.length < g ∧ itemsL (recN m) f' (pre ++ l) (endsS (us ++ u)) = itemsL (recN m) g (pre ++ A) (endsS u)
  | 0, l, us, A, t, _, h, f', _ => by rw [itemsL] at h; cases h
  | f + 1, l, us, A, t, hl, h, f', hf => by
    rw [itemsL] at h
    by_cases he : endsS us = []
    · rw [if_pos he] at h
      cases h
      rw [ends_app, if_pos he]
      exact ⟨f', by omega, rfl⟩
    · rw [if_neg he] at h
      rw [ends_app, if_neg he]
      have hel := ends_len us
      have hQ := Q_item (FR_all n) (endsS us) (by omega)
      cases hi : itemS (recN n) (endsS us) with
      | out => rw [hi] at h; cases h
      | wrong => rw [hi] at h; cases h
      | ok x us' =>
        rw [hi] at h hQ
        obtain ⟨_, hlt⟩ : okN x.1 ∧ us'.length < (endsS us).length := hQ
        have h : (if fineS x.1 1 (whereOf x.1) = true then (if endB (atS 0 us') = true ∨ x.2 = false ∨ endsS us' = [] then itemsL (recN n) f (l ++ [x.1]) (endsS us') else .wrong) else .wrong) = .ok A t := h
        by_cases hfi : fineS x.1 1 (whereOf x.1) = true
        · rw [if_pos hfi] at h
          by_cases hc : endB (atS 0 us') = true ∨ x.2 = false ∨ endsS us' = []
          · rw [if_pos hc] at h
            cases f' with
            | zero => omega
            | succ f' =>
              obtain ⟨g, hg, e⟩ := P_itemsL G hnm pre f (l ++ [x.1]) us' A t (by omega) h f' (by omega)
              refine ⟨g, hg, ?_⟩
              rw [itemsL, if_neg (by simp [he]), P_item G (SR_all G n m hnm) _ _ _ hi]
              show (if fineS x.1 1 (whereOf x.1) = true then (if endB (atS 0 (us' ++ u)) = true ∨ x.2 = false ∨ endsS (us' ++ u) = [] then itemsL (recN m) f' (pre ++ l ++ [x.1]) (endsS (us' ++ u)) else .wrong) else .wrong) = _
              rw [if_pos hfi, if_pos ?_, List.append_assoc, e]
              by_cases h2 : us' = []
              · subst h2
                rcases G.fst with hu | hu
                · subst hu; exact .inr (.inr rfl)
                · exact .inl hu
              · rcases hc with hc | hc | hc
                · rw [atLt (List.length_pos_iff.2 h2)]; exact .inl hc
                · exact .inr (.inl hc)
                · left
                  rw [atLt (List.length_pos_iff.2 h2)]
                  cases us' with
                  | nil => exact absurd rfl h2
                  | cons y ys =>
                    rw [endsS] at hc
                    by_cases hy : endB y = true
                    · exact hy
                    · rw [if_neg hy] at hc; cases hc
          · rw [if_neg hc] at h; cases h
        · rw [if_neg hfi] at h; cases h
end
end Go.AD.Lx

/- syntax, plain: the laws of what the parser computes. -/
set_option linter.unusedVariables false
set_option linter.unusedSimpArgs false
set_option maxRecDepth 100000
namespace Go.AD.Lx
theorem okL_some {α : Type} {m : R α} {a : α} (h : okL m = some a) : ∃ t, m = .ok a t := by
  cases m with
  | out => cases h
  | wrong => cases h
  | ok b t => cases h; exact ⟨t, rfl⟩
theorem parse_some {s : Bytes} {A : List NTree} (h : parseS s = some A) : ∃ ts t, lexS s = some ts ∧ ts.length ≤ 20000 ∧ tokensS (10 * ts.length + 20) ts = .ok A t := by
  unfold parseS at h
  split at h
  · cases h
  · rename_i ts hl
    obtain ⟨t, ht⟩ := okL_some h
    exact ⟨ts, t, hl, lexLen hl, ht⟩
theorem good_nil : Good [] := ⟨.inl rfl, by decide⟩
def bBegin : Bytes := [66, 69, 71, 73, 78, 32, 123, 125]
theorem parse_join {s t : Bytes} {A B : List NTree} (hn : NoTail s) (hs : s.length ≤ 1500) (ht : t.length ≤ 1500) (h1 : parseS s = some A) (h2 : parseS (bBegin ++ 10 :: t) = some B) : parseS (s ++ 10 :: (bBegin ++ 10 :: t)) = some (A ++ B) := by
  obtain ⟨ts1, t1, l1, n1, p1⟩ := parse_some h1
  obtain ⟨ts2, t2, l2, n2, p2⟩ := parse_some h2
  have hl : lexS (s ++ 10 :: (bBegin ++ 10 :: t)) = some (ts1 ++ (kNl, []) :: ts2) := by
    rw [lex_join hn (by omega) (by simp [bBegin]; omega), l1, l2]
    simp
  have hb : ∃ r, ts2 = wordT oBegin :: r := by
    have e := lex_join (s := bBegin) (t := t) (by simp [NoTail, bBegin]) (by simp [bBegin]) (by omega)
    have e0 : lexS bBegin = some [wordT oBegin, opT [123], opT [125]] := by decide +kernel
    rw [e0, l2] at e
    simp only at e
    cases hx : lexS t with
    | none => rw [hx] at e; cases e
    | some b => rw [hx] at e; simp only [Option.map_some, Option.some.injEq] at e; exact ⟨_, e⟩
  obtain ⟨rr, rfl⟩ := hb
  have eu : endsS ((kNl, []) :: wordT oBegin :: rr) = endsS (wordT oBegin :: rr) := by rw [endsS]; rfl
  have eb : endsS (wordT oBegin :: rr) = wordT oBegin :: rr := by rw [endsS]; rfl
  have G : Good ((kNl, []) :: wordT oBegin :: rr) := ⟨.inr rfl, by rw [eu, eb]; show wordT oBegin ≠ wordT oElse; decide⟩
  unfold parseS
  simp only [hl]
  unfold tokensS at p1 p2 ⊢
  have hlen : (ts1 ++ (kNl, []) :: wordT oBegin :: rr).length = ts1.length + 1 + (wordT oBegin :: rr).length := by simp; omega
  generalize hN : 10 * (ts1 ++ (kNl, []) :: wordT oBegin :: rr).length + 20 = N
  obtain ⟨g, hg, e1⟩ := P_itemsL G (n := 10 * ts1.length + 20) (m := N) (by omega) [] _ [] ts1 A t1 (by omega) p1 N (by simp only [List.length_cons] at hlen ⊢; omega)
  rw [List.append_nil, List.nil_append] at e1
  rw [e1, eu]
  obtain ⟨g', hg', e2⟩ := P_itemsL good_nil (n := 10 * (wordT oBegin :: rr).length + 20) (m := N) (by omega) A _ [] (wordT oBegin :: rr) B t2 (by omega) p2 g (by simp only [List.length_cons, List.length_nil] at hg ⊢; omega)
  rw [List.append_nil, List.append_nil] at e2
  rw [e2]
  cases g' with
  | zero => exact absurd hg' (Nat.not_lt_zero _)
  | succ g' => rfl
/-! ### what items are -/
theorem bnd_ok {α β : Type} {m : R α} {k : α → List Tok → R β} {b : β} {t : List Tok} (h : bnd m k = .ok b t) : ∃ a r, m = .ok a r ∧ k a r = .ok b t := by
  cases m with
  | out => cases h
  | wrong => cases h
  | ok a r => exact ⟨a, r, rfl, h⟩
theorem item_rule {r : Rec} {ts t : List Tok} {x : NTree × Bool} (h : itemS r ts = .ok x t) : x.1.op = oRule → x.1.kids.length = 2 := by
  unfold itemS at h
  split at h
  · obtain ⟨a, r1, _, h⟩ := bnd_ok h; cases h; exact fun e => absurd e (by show ¬ oBegin = oRule; decide)
  split at h
  · obtain ⟨a, r1, _, h⟩ := bnd_ok h; cases h; exact fun e => absurd e (by show ¬ oEnd = oRule; decide)
  split at h
  · obtain ⟨a, r1, h1, h⟩ := bnd_ok h
    cases h
    unfold functionS at h1
    obtain ⟨_, _, _, h1⟩ := bnd_ok h1
    obtain ⟨_, _, _, h1⟩ := bnd_ok h1
    obtain ⟨_, _, _, h1⟩ := bnd_ok h1
    obtain ⟨_, _, _, h1⟩ := bnd_ok h1
    cases h1
    exact fun e => absurd e (by show ¬ kFunc = oRule; decide)
  split at h
  · obtain ⟨a, r1, _, h⟩ := bnd_ok h; cases h; exact fun _ => rfl
  obtain ⟨a, r1, _, h⟩ := bnd_ok h
  split at h
  · obtain ⟨_, _, _, h⟩ := bnd_ok h
    obtain ⟨_, _, _, h⟩ := bnd_ok h
    cases h
    exact fun e => absurd e (by show ¬ oRange = oRule; decide)
  · obtain ⟨_, _, _, h⟩ := bnd_ok h
    cases h
    exact fun _ => rfl
def ItemOk (x : NTree) : Prop := okN x ∧ fineS x 1 (whereOf x) = true ∧ (x.op = oRule → x.kids.length = 2)
theorem items_step {n f : Nat} {l : List NTree} {ts : List Tok} {A : List NTree} {t : List Tok} (hne : ts ≠ []) (h : itemsL (recN n) (f + 1) l ts = .ok A t) : ∃ x us, itemS (recN n) ts = .ok x us ∧ fineS x.1 1 (whereOf x.1) = true ∧ itemsL (recN n) f (l ++ [x.1]) (endsS us) = .ok A t := by
  rw [itemsL, if_neg hne] at h
  obtain ⟨x, us, hi, h⟩ := bnd_ok h
  split at h
  · rename_i hf
    split at h
    · exact ⟨x, us, hi, hf, h⟩
    · cases h
  · cases h
theorem items_all {n : Nat} : ∀ (f : Nat) (l : List NTree) (ts : List Tok) (A : List NTree) (t : List Tok), ts.length ≤ 70000 → itemsL (recN n) f l ts = .ok A t → (∀ x ∈ l, ItemOk x) → (∀ x ∈ A, ItemOk x) ∧ l.length ≤ A.length ∧ (ts ≠ [] → l.length < A.length) ∧ (ts = [] → A = l)
  | 0, l, ts, A, t, _, h, _ => by rw [itemsL] at h; cases h
  | f + 1, l, ts, A, t, hl, h, hx => by
    by_cases hne : ts = []
    · rw [itemsL, if_pos hne] at h
      cases h
      exact ⟨hx, Nat.le_refl _, fun h => absurd hne h, fun _ => rfl⟩
    · obtain ⟨x, us, hi, hf, h⟩ := items_step hne h
      have hQ := Q_item (FR_all n) ts hl
      rw [hi] at hQ
      obtain ⟨hok, hlt⟩ : okN x.1 ∧ us.length < ts.length := hQ
      have hel := ends_len us
      obtain ⟨h1, h2, _, _⟩ := items_all f _ (endsS us) A t (by omega) h (by
        intro y hy
        rcases List.mem_append.1 hy with hy | hy
        · exact hx y hy
        · rw [List.mem_singleton.1 hy]; exact ⟨hok, hf, item_rule hi⟩)
      rw [List.length_append, List.length_singleton] at h2
      exact ⟨h1, by omega, fun _ => by omega, fun e => absurd e hne⟩
theorem parse_items {s : Bytes} {A : List NTree} (h : parseS s = some A) : (∀ x ∈ A, ItemOk x) ∧ A.length ≤ 70000 := by
  obtain ⟨ts, t, _, hn, hp⟩ := parse_some h
  have hel := ends_len ts
  refine ⟨(items_all _ _ _ _ _ (by omega) hp (by simp)).1, ?_⟩
  have := Q_itemsL (FR_all (10 * ts.length + 20)) (10 * ts.length + 20) [] (endsS ts) (by simp; omega)
  unfold tokensS at hp
  rw [hp] at this
  exact this
/-! ### depth -/
mutual
def depthN : NTree → Nat
  | .mk _ _ kids => depthNs kids + 1
def depthNs : List NTree → Nat
  | [] => 0
  | n :: l => max (depthN n) (depthNs l)
end
mutual
theorem fine_depth : ∀ (n : NTree) (d : Nat) (w : WhereS), fineS n d w = true → d + depthN n ≤ 201
  | .mk op text kids, d, w, h => by
    rw [fineS] at h
    split at h
    · cases h
    · rename_i hc
      rw [depthN]
      have hd : d ≤ 200 := by rcases Nat.lt_or_ge 200 d with h | h
                              · exact absurd (.inl h) hc
                              · exact h
      have := fines_depth kids _ _ d w hd h
      omega
theorem fines_depth : ∀ (l : List NTree) (i : Nat) (lp : Int) (d : Nat) (w : WhereS), d ≤ 200 → finesS l i lp d w = true → d + 1 + depthNs l ≤ 201
  | [], i, lp, d, w, hd, h => by rw [depthNs]; omega
  | n :: l, i, lp, d, w, hd, h => by
    rw [finesS] at h
    split at h
    · rename_i h1
      have := fine_depth n _ _ h1
      have := fines_depth l _ _ d w hd h
      rw [depthNs]; omega
    · cases h
end
mutual
theorem fine_deeper : ∀ (n : NTree) (d : Nat) (w : WhereS), fineS n d w = true → d + depthN n ≤ 200 → fineS n (d + 1) w = true
  | .mk op text kids, d, w, h, hd => by
    rw [fineS] at h ⊢
    rw [depthN] at hd
    split at h
    · cases h
    · rename_i hc
      rw [if_neg (fun hh => hh.elim (fun hh => by omega) (fun hh => hc (.inr hh)))]
      exact fines_deeper kids _ _ d w h (by omega)
theorem fines_deeper : ∀ (l : List NTree) (i : Nat) (lp : Int) (d : Nat) (w : WhereS), finesS l i lp d w = true → d + 1 + depthNs l ≤ 200 → finesS l i lp (d + 1) w = true
  | [], i, lp, d, w, h, hd => by rw [finesS]
  | n :: l, i, lp, d, w, h, hd => by
    rw [finesS] at h ⊢
    rw [depthNs] at hd
    split at h
    · rename_i h1
      rw [if_pos (fine_deeper n _ _ h1 (by omega))]
      exact fines_deeper l _ _ d w h (by omega)
    · cases h
end
/-! ### braces -/
theorem num_brace (r : Bytes) : numberL (123 :: r) = 0 := by
  have h0 : spanL digitB (123 :: r) = 0 := by rw [spanL, if_neg (by decide)]
  have h1 : isAt (123 :: r) 0 46 = false := by
    unfold isAt
    rw [show ((123 :: r : Bytes).getD 0 0).toNat = 123 from rfl]
    simp
  unfold numberL
  rw [h0]
  unfold fracL
  rw [h1]
  rfl
theorem two_brace : ∀ y : UInt8, listedS lTwos [123, y] = false := allU8 (by decide +kernel)
theorem tok_brace (r : Bytes) (ts : List Tok) : tokenS (123 :: r) ts = some (r, ts ++ [opT [123]]) := by
  unfold tokenS
  have e0 : (123 :: r : Bytes).getD 0 0 = 123 := rfl
  have hp : Lib.hasPrefix (123 :: r : Bytes) [92, 10] = false := by
    have : ([92, 10] : Bytes).isPrefixOf (123 :: r) = false := by rw [List.isPrefixOf]; rfl
    simpa [Lib.hasPrefix] using this
  rw [e0, num_brace, hp]
  rw [if_neg (by decide), if_neg (by decide), if_neg (by decide), if_neg (by decide), if_neg (by decide), if_neg (by decide), if_neg (fun h => absurd h.1 (by decide)), if_neg (by decide)]
  unfold opTok
  have h2 : (decide (1 < (123 :: r : Bytes).length) && listedS lTwos ((123 :: r).take 2)) = false := by
    cases r with
    | nil => rfl
    | cons y r => show (_ && listedS lTwos [123, y]) = false; rw [two_brace, Bool.and_false]
  rw [h2, e0, if_neg (by decide), if_pos (by decide +kernel)]
  rfl
theorem lex_brace {r : Bytes} (h : r.length ≤ 3000) : lexS (123 :: r) = (lexS r).map ([opT [123]] ++ ·) := by
  rw [lexS_U (f := r.length + 2) (by simp; omega) (by simp), lexS_U (s := r) (f := r.length + 1) (by omega) (by omega), lexU, if_neg (by simp), tok_brace]
  exact lexU_ahead _ r [opT [123]] [] rfl
theorem fine_none (w : WhereS) : fineS noneN 2 w = true := by
  rw [noneN, fineS, if_neg ?_, finesS]
  rintro (h | h)
  · exact absurd h (by decide)
  · obtain ⟨a, b, c⟩ := w
    revert h
    cases a <;> cases b <;> cases c <;> decide
theorem fine_rule {b : NTree} {w : WhereS} : fineS (.mk oRule [] [noneN, b]) 1 w = true ↔ fineS b 2 w = true := by
  have hh : ¬ (200 < 1 ∨ headBad (.mk oRule [] [noneN, b]) w = true) := by
    rintro (h | h)
    · exact absurd h (by decide)
    · have : headBad (.mk oRule [] [noneN, b]) w = false := by
        unfold headBad
        simp [NTree.op, oRule, oList, oNext, oReturn, oBreak, oContinue, kBuilt]
      rw [this] at h; cases h
  have hl : loopedS (.mk oRule [] [noneN, b]) = -1 := rfl
  rw [fineS, if_neg hh, hl, finesS, if_pos (fine_none _), finesS]
  have e : ({ w with loop := w.loop || decide (((0 + 1 : Nat) : Int) = -1) } : WhereS) = w := by
    obtain ⟨a, b, c⟩ := w
    cases c <;> rfl
  rw [e, finesS]
  by_cases h : fineS b 2 w = true
  · rw [if_pos h]; exact ⟨fun _ => h, fun _ => rfl⟩
  · rw [if_neg h]; exact ⟨fun h => (nomatch h), fun h2 => absurd h2 h⟩
theorem fine_block {b : NTree} {w : WhereS} (h : fineS b 3 w = true) : fineS (.mk oBlock [] [b]) 2 w = true := by
  have hh : ¬ (200 < 2 ∨ headBad (.mk oBlock [] [b]) w = true) := by
    rintro (h | h)
    · exact absurd h (by decide)
    · have : headBad (.mk oBlock [] [b]) w = false := by
        unfold headBad
        simp [NTree.op, oBlock, oList, oNext, oReturn, oBreak, oContinue, kBuilt]
      rw [this] at h; cases h
  have hl : loopedS (.mk oBlock [] [b]) = -1 := rfl
  rw [fineS, if_neg hh, hl, finesS]
  have e : ({ w with loop := w.loop || decide (((0 : Nat) : Int) = -1) } : WhereS) = w := by
    obtain ⟨a, b, c⟩ := w
    cases c <;> rfl
  rw [e, if_pos h, finesS]
theorem item_brace {r : Rec} {X : List Tok} : itemS r (opT [123] :: X) = bnd (blockS r (opT [123] :: X)) fun b ts => .ok (.mk oRule [] [noneN, b], false) ts := rfl
theorem parse_braces {s : Bytes} {a : NTree} (hn : NoTail s) (hs : s.length ≤ 1500) (h : parseS ((123 :: s) ++ 10 :: [125]) = some [a]) :
    ∃ b, a = .mk oRule [] [noneN, b] ∧ (depthN a < 200 → parseS ((123 :: 123 :: s) ++ 10 :: [125, 59, 10, 125]) = some [.mk oRule [] [noneN, .mk oBlock [] [b]]]) := by
  obtain ⟨T1, t, hl, hT, hp⟩ := parse_some h
  have hn1 : NoTail (123 :: s) := by
    unfold NoTail at hn ⊢
    cases s with
    | nil => decide
    | cons x s => rwa [List.getLast?_cons_cons]
  have hn2 : NoTail (123 :: 123 :: s) := by
    unfold NoTail at hn1 ⊢
    rwa [List.getLast?_cons_cons]
  rw [lex_join hn1 (by simp; omega) (by simp), lex_brace (by omega)] at hl
  have e1 : lexS [125] = some [opT [125]] := by decide +kernel
  have e2 : lexS [125, 59, 10, 125] = some [opT [125], opT [59], (kNl, []), opT [125]] := by decide +kernel
  have hl2 := lex_join hn2 (t := [125, 59, 10, 125]) (by simp; omega) (by simp)
  rw [lex_brace (r := 123 :: s) (by simp; omega), lex_brace (r := s) (by omega), e2] at hl2
  cases hX : lexS s with
  | none => rw [hX] at hl; cases hl
  | some X =>
  rw [hX] at hl hl2
  rw [e1] at hl
  simp only [Option.map_some, Option.some.injEq, List.cons_append, List.nil_append, List.append_assoc] at hl hl2
  generalize hU : X ++ (kNl, []) :: [opT [125]] = U at hl
  have hU2 : X ++ (kNl, []) :: [opT [125], opT [59], (kNl, []), opT [125]] = U ++ [opT [59], (kNl, []), opT [125]] := by rw [← hU]; simp
  rw [hU2] at hl2
  subst hl
  have G : Good [opT [59], (kNl, []), opT [125]] := ⟨.inr rfl, by decide⟩
  have eT : endsS (opT [123] :: U) = opT [123] :: U := by rw [endsS]; rfl
  unfold tokensS at hp
  rw [eT] at hp
  obtain ⟨x, us, hi, hf, hp⟩ := items_step (f := 10 * (opT [123] :: U).length + 19) (by simp) hp
  have hQ := Q_item (FR_all (10 * (opT [123] :: U).length + 20)) _ (show (opT [123] :: U).length ≤ 70000 by omega)
  rw [hi] at hQ
  obtain ⟨hok, hlt⟩ : okN x.1 ∧ us.length < (opT [123] :: U).length := hQ
  have hel := ends_len us
  rw [item_brace] at hi
  obtain ⟨b, us', hb, hi⟩ := bnd_ok hi
  cases hi
  obtain ⟨_, _, k3, k4⟩ := items_all _ _ _ _ _ (by omega) hp (by
    intro y hy
    rw [List.nil_append, List.mem_singleton] at hy
    rw [hy]; exact ⟨hok, hf, fun _ => rfl⟩)
  have hus : endsS us = [] := by
    by_cases e : endsS us = []
    · exact e
    · exact absurd (k3 e) (by simp)
  have ha := k4 hus
  simp only [List.nil_append, List.cons.injEq, and_true] at ha
  refine ⟨b, ha, fun hd => ?_⟩
  unfold parseS
  simp only [List.cons_append] at hl2 ⊢
  simp only [hl2]
  have hlen : (opT [123] :: opT [123] :: (U ++ [opT [59], (kNl, []), opT [125]])).length = (opT [123] :: U).length + 4 := by simp
  rw [hlen]
  generalize hM : (opT [123] :: U).length = M at hb hf hlt hT
  unfold tokensS
  have eT2 : endsS (opT [123] :: opT [123] :: (U ++ [opT [59], (kNl, []), opT [125]])) = opT [123] :: opT [123] :: (U ++ [opT [59], (kNl, []), opT [125]]) := by rw [endsS]; rfl
  rw [eT2]
  have hN : 10 * (M + 4) + 20 = (10 * M + 57) + 3 := by omega
  rw [hN]
  have hfu : (recN (10 * M + 57 + 3)).fuel = 10 * M + 57 + 3 := (FR_all _).fuel
  have hblk : blockS (recN (10 * M + 57 + 2)) ((opT [123] :: U) ++ [opT [59], (kNl, []), opT [125]]) = .ok b (us ++ [opT [59], (kNl, []), opT [125]]) := P_block G (SR_all G (10 * M + 20) (10 * M + 57 + 2) (by omega)) _ _ _ hb
  have hst : (recN (10 * M + 57 + 3)).statement (opT [123] :: (U ++ [opT [59], (kNl, []), opT [125]])) = .ok (b, false) (us ++ [opT [59], (kNl, []), opT [125]]) := by
    show statementS (recN (10 * M + 57 + 2)) (opT [123] :: (U ++ [opT [59], (kNl, []), opT [125]])) = _
    have e : statementS (recN (10 * M + 57 + 2)) (opT [123] :: (U ++ [opT [59], (kNl, []), opT [125]])) = bnd (blockS (recN (10 * M + 57 + 2)) ((opT [123] :: U) ++ [opT [59], (kNl, []), opT [125]])) fun b ts => .ok (b, false) ts := rfl
    rw [e, hblk]; rfl
  have hB : blockS (recN (10 * M + 57 + 3)) (opT [123] :: opT [123] :: (U ++ [opT [59], (kNl, []), opT [125]])) = .ok (.mk oBlock [] [b]) [] := by
    have e : blockS (recN (10 * M + 57 + 3)) (opT [123] :: opT [123] :: (U ++ [opT [59], (kNl, []), opT [125]])) = blockL (recN (10 * M + 57 + 3)) (recN (10 * M + 57 + 3)).fuel [] (endsS (opT [123] :: (U ++ [opT [59], (kNl, []), opT [125]]))) := rfl
    have e3 : endsS (opT [123] :: (U ++ [opT [59], (kNl, []), opT [125]])) = opT [123] :: (U ++ [opT [59], (kNl, []), opT [125]]) := by rw [endsS]; rfl
    rw [e, hfu, e3, blockL, if_neg (show ¬ atS 0 (opT [123] :: (U ++ [opT [59], (kNl, []), opT [125]])) = opT [125] by show ¬ opT [123] = opT [125]; decide), hst]
    show (if endB (atS 0 (us ++ [opT [59], (kNl, []), opT [125]])) = true ∨ false = false ∨ atS 0 (endsS (us ++ [opT [59], (kNl, []), opT [125]])) = opT [125] then blockL (recN (10 * M + 57 + 3)) (10 * M + 57 + 2) ([] ++ [b]) (endsS (us ++ [opT [59], (kNl, []), opT [125]])) else .wrong) = _
    rw [if_pos (.inr (.inl rfl)), ends_app, if_pos hus]
    have e4 : endsS [opT [59], (kNl, []), opT [125]] = [opT [125]] := rfl
    rw [e4, blockL, if_pos (show atS 0 [opT [125]] = opT [125] from rfl)]
    rfl
  have hfin : fineS (.mk oRule [] [noneN, .mk oBlock [] [b]]) 1 (whereOf (.mk oRule [] [noneN, .mk oBlock [] [b]])) = true := by
    have hf : fineS (.mk oRule [] [noneN, b]) 1 (whereOf (.mk oRule [] [noneN, b])) = true := hf
    have ew : whereOf (.mk oRule [] [noneN, .mk oBlock [] [b]]) = whereOf (.mk oRule [] [noneN, b]) := rfl
    rw [ew]
    generalize whereOf (.mk oRule [] [noneN, b]) = w at hf ⊢
    rw [fine_rule] at hf ⊢
    refine fine_block (fine_deeper b 2 w hf ?_)
    rw [ha, depthN, depthNs, depthNs, depthNs] at hd
    omega
  rw [itemsL, if_neg (by simp), item_brace, hB]
  show okL (if fineS (.mk oRule [] [noneN, .mk oBlock [] [b]]) 1 (whereOf (.mk oRule [] [noneN, .mk oBlock [] [b]])) = true then (if endB (atS 0 []) = true ∨ false = false ∨ endsS [] = [] then itemsL (recN (10 * M + 57 + 3)) (10 * M + 57 + 2) ([] ++ [.mk oRule [] [noneN, .mk oBlock [] [b]]]) (endsS []) else .wrong) else .wrong) = _
  rw [if_pos hfin, if_pos (.inr (.inl rfl))]
  rfl
end Go.AD.Lx

/- syntax: what the laws call: awake. -/
set_option linter.unusedVariables false
set_option linter.unusedSimpArgs false
set_option maxRecDepth 100000
namespace Go.AD.Lx
open Go.Proofs RowKit
def awText : Bytes := [36, 49, 32, 62, 32, 50, 32, 123, 32, 112, 114, 105, 110, 116, 32, 45, 50, 94, 50, 32, 125]
def awTree : NTree := .mk oRule [] [.mk oBin [62] [.mk oField [] [.mk kNum [49] []], .mk kNum [50] []], .mk oBlock [] [.mk oPrint [] [.mk oUnary [45] [.mk oBin [94] [.mk kNum [50] [], .mk kNum [50] []]]]]]
theorem aw_lex : lexS awText = some [opT [36], (kNum, [49]), opT [62], (kNum, [50]), opT [123], wordT oPrint, opT [45], (kNum, [50]), opT [94], (kNum, [50]), opT [125]] := by decide +kernel
theorem aw_lex2 : lexS [123, 32, 110, 101, 120, 116, 59, 32, 125, 32, 125] = some [opT [123], wordT oNext, opT [59], opT [125], opT [125]] := by decide +kernel
theorem aw_parse : parseS awText = some [awTree] := by
  unfold parseS
  rw [aw_lex]
  kernel_rfl
theorem aw_parse2 : parseS [123, 32, 110, 101, 120, 116, 59, 32, 125, 32, 125] = none := by
  unfold parseS
  rw [aw_lex2]
  kernel_rfl
section
variable {env : Env} {args : List AV} {σ0 σ τ : AS} {K : AV → AS → Prop} {X : PV → AS → Prop} {l : Nat} {ts : List Tok} {L Y M : Objs}
theorem nc (a : List NTree) {i : Nat} (h : i < a.length) (k : Nat) (hk : k < 3) : (flatN a)[i * 3 + k]? = (nodeCells a[i])[k]? := by
  have e := flatN_get a i h
  rw [← e, List.getElem?_take, if_pos hk, List.getElem?_drop]
theorem nc0 {a : List NTree} {i : Nat} (h : i < a.length) : (flatN a)[i * 3]? = some (.str a[i].op) := by
  have := nc a h 0 (by decide)
  rw [nodeCells_eq] at this
  exact this
theorem nc1 {a : List NTree} {i : Nat} (h : i < a.length) : (flatN a)[i * 3 + 1]? = some (.str a[i].text) := by
  have := nc a h 1 (by decide)
  rw [nodeCells_eq] at this
  exact this
theorem nc2 {a : List NTree} {i : Nat} (h : i < a.length) : (flatN a)[i * 3 + 2]? = some (.lst a[i].kids.length (flatN a[i].kids)) := by
  have := nc a h 2 (by decide)
  rw [nodeCells_eq] at this
  exact this
theorem parse_call (h : env 18 = T_yParse) {s : Bytes} (hK : ∀ σ', σ.sub σ' → K (parseNV (parseS s)) σ') : env 18 [.pv (.str s)] σ K X := by
  rw [h]; exact ⟨s, rfl, hK⟩
def T_awake6 : Tr := fun args σ K _ => args = [] ∧ ∀ σ', σ.sub σ' → K (.pv (.bool true)) σ'
theorem T_awake6_ok (h1 : env 18 = T_yParse) (h : T_awake6 args σ K X) : bodyD PS env an17 Tryd.f17 args σ K X := by
  obtain ⟨rfl, hK⟩ := h
  rw [← S17_eq env, S17]
  simp only [lock_eq]
  refine parse_call h1 fun σ1 hs1 => ?_
  have e1 : parseS [36, 49, 32, 62, 32, 50, 32, 123, 32, 112, 114, 105, 110, 116, 32, 45, 50, 94, 50, 32, 125] = some [awTree] := aw_parse
  rw [e1]
  simp only [parseNV, ext_tuple, List.getElem?_cons_zero, List.getElem?_cons_succ, someEx]
  refine parse_call h1 fun σ2 hs2 => ?_
  rw [aw_parse2]
  simp only [parseNV, ext_tuple, List.getElem?_cons_zero, List.getElem?_cons_succ, someEx, guard_true, un_not, Bool.not_false, if_true, T.lnl35, bin_eql]
  have x0 : ∀ K : AV → Prop, indexAddrD PS 35 (.pv (.lst [awTree].length (flatN [awTree]))) (.pv (.int .i64 0)) K = K (.elemP (flatN [awTree]) 0) := fun K => node_ix (a := [awTree]) (i := 0) (by decide)
  have y0 : ∀ K : AV → Prop, indexAddrD PS 35 (.pv (.lst awTree.kids.length (flatN awTree.kids))) (.pv (.int .i64 0)) K = K (.elemP (flatN awTree.kids) 0) := fun K => node_ix (a := awTree.kids) (i := 0) (by decide)
  have c0 : (flatN [awTree])[0]? = some (.str oRule) := nc0 (a := [awTree]) (i := 0) (by decide)
  have c2 : (flatN [awTree])[0 + 2]? = some (.lst awTree.kids.length (flatN awTree.kids)) := nc2 (a := [awTree]) (i := 0) (by decide)
  have d1 : (flatN awTree.kids)[0 + 1]? = some (.str [62]) := nc1 (a := awTree.kids) (i := 0) (by decide)
  have hl : awTree.kids.length = 2 := rfl
  simp only [x0, y0, T.fe39_0, T.fe39_1, T.fe39_2, T.le9, T.le35, Nat.add_zero, c0, c2, d1, someEx, T.lnl35, bin_eql, bin_seql, guard_true]
  rw [if_pos (by decide), if_pos (by decide), if_pos (by rw [hl]; decide)]
  exact retV_self (hK _ (AS.sub_trans hs1 hs2))
/-! ### equal rows -/
def T_zSame (m : Nat) : Tr := fun args σ K _ => ∃ a : List NTree, args = [.pv (.lst a.length (flatN a)), .pv (.lst a.length (flatN a))] ∧ depthNs a < m ∧ a.length ≤ 1000000 ∧ okNs a ∧ ∀ σ', σ.sub σ' → K (.pv (.bool true)) σ'
theorem depthNs_mem : ∀ {l : List NTree} {i : Nat} (h : i < l.length), depthN l[i] ≤ depthNs l
  | n :: l, 0, _ => by rw [depthNs]; exact Nat.le_max_left ..
  | n :: l, i + 1, h => by rw [depthNs]; exact Nat.le_trans (depthNs_mem (l := l) (i := i) (by simpa using h)) (Nat.le_max_right ..)
theorem depthN_kids (n : NTree) : depthN n = depthNs n.kids + 1 := by cases n; rw [depthN]; rfl
theorem T_zSame_ok {m : Nat} (h1 : env 21 = T_zSame m) (h : T_zSame (m + 1) args σ K X) : bodyD PS env an21 Tryd.f21 args σ K X := by
  obtain ⟨a, rfl, hd, hl, hok, hK⟩ := h
  rw [← S21_eq env, S21]
  simp (disch := omega) only [lock_eq, T.lnl35, bin_neq, bne_self_eq_false, cond_bool, Bool.false_eq_true, if_false]
  refine lp21_4 (fun (i : Nat) _ => a.length - i) (fun i τ => σ.sub τ ∧ i ≤ a.length) (fun i => .pv (.int .i64 (i : Nat))) 0 ⟨sub_refl _, Nat.zero_le _⟩ ?_
  rintro i τ ⟨hs, hi⟩
  unfold L21_4
  simp (disch := omega) only [lock_eq, T.lnl35, go_sem]
  refine iteI (fun g => ?_) (fun g => ?_)
  · have hkk := okN_kids (okNs_mem hok i g)
    have hdd : depthNs a[i].kids < m := by
      have := depthNs_mem g
      rw [depthN_kids] at this
      omega
    simp only [node_ix g, T.fe39_0, T.fe39_1, T.fe39_2, T.le9, T.le35, Nat.add_zero, nc0 g, nc1 g, nc2 g, someEx, bin_sneq, bne_self_eq_false, beq_self_eq_true, Bool.not_true, guard_false, Bool.false_eq_true, if_false]
    rw [h1]
    refine ⟨a[i].kids, rfl, hdd, hkk.1, hkk.2, fun σ2 hs2 => ?_⟩
    simp (disch := omega) only [un_not, Bool.not_true, cond_bool, Bool.false_eq_true, if_false, bin_add, nAdd1, wrap64]
    exact back (i + 1) rfl (by omega) ⟨AS.sub_trans hs hs2, g⟩
  · exact retV_self (hK _ hs)
theorem F_zSame (hm : HM) : ∀ m : Nat, SoundF PS 21 (T_zSame m)
  | 0 => by
    rintro w0 hS ρ σ w args us K X H hr ⟨a, _, h, _⟩
    exact absurd h (Nat.not_lt_zero _)
  | m + 1 => body_sound hm (EnvOk.add (env0_ok PS) (F_zSame hm m)) an21 Tryd.func21 Tryd.call21 S21_ok (fun args σ K X h => T_zSame_ok rfl h)
def T_zSameA : Tr := fun args σ K X => ∃ m, T_zSame m args σ K X
theorem F_zSameA (hm : HM) : SoundF PS 21 T_zSameA := fun w0 hS ρ σ w args us K X H hr ⟨m, h⟩ => F_zSame hm m w0 hS ρ σ w args us K X H hr h
/-! ### depth -/
def T_depth6 (m : Nat) : Tr := fun args σ K _ => ∃ n : NTree, args = [nodeAV n] ∧ depthN n < m ∧ depthN n ≤ 1000 ∧ okN n ∧ ∀ σ', σ.sub σ' → K (.pv (.int .i64 (depthN n : Nat))) σ'
theorem T_depth6_ok {m : Nat} (h1 : env 19 = T_depth6 m) (h : T_depth6 (m + 1) args σ K X) : bodyD PS env an19 Tryd.f19 args σ K X := by
  obtain ⟨n, rfl, hd, hd2, hok, hK⟩ := h
  rw [← S19_eq env, S19]
  simp only [lock_eq]
  refine box_N ?_
  intro t σ1 hS
  have hg := hS.get (i := t) (List.mem_singleton.2 rfl)
  have hkk := okN_kids hok
  have hlen := hkk.1
  rw [depthN_kids] at hd hd2 hK
  simp (disch := omega) only [T.fa39_2, T.ld35, hg, ldM_cells, Nat.zero_add, List.getElem?_cons_zero, List.getElem?_cons_succ, someEx, T.lnl35]
  refine lp19_3 (fun (a : Nat × Nat) _ => n.kids.length - a.1) (fun a τ => σ.sub τ ∧ a.1 ≤ n.kids.length ∧ max a.2 (depthNs (n.kids.drop a.1)) = depthNs n.kids) (fun a => .pv (.int .i64 (a.2 : Nat))) (fun a => .pv (.int .i64 (a.1 : Nat))) (0, 0) ⟨hS.sub, Nat.zero_le _, by simp⟩ ?_
  rintro ⟨i, d⟩ τ ⟨hs, hi, hm⟩
  unfold L19_3
  simp (disch := omega) only [lock_eq, go_sem]
  simp only at hi hm
  refine iteI (fun g => ?_) (fun g => ?_)
  · have hld : ∀ σ K, loadD PS σ 39 (.elemP (flatN n.kids) (i * 3)) K = K (nodeAV n.kids[i]) := by
      intro σ K
      rw [load_elemA T.hT39 T.ag39, T.sz39, flatN_get n.kids i g]
      exact propext ⟨fun h => h.2, fun h => ⟨by rw [flatN_len]; omega, h⟩⟩
    have hdd := depthNs_mem g
    rw [List.drop_eq_getElem_cons g, depthNs] at hm
    simp only [node_ix g, hld]
    refine var_N (Sep.start τ) (fun t8 σ3 hS3 => ?_)
    have hg8 := hS3.get (i := t8) (List.mem_cons.2 (.inl rfl))
    rw [ldN' hg8, h1]
    refine ⟨n.kids[i], rfl, by omega, by omega, okNs_mem hkk.2 i g, fun σ4 hs4 => ?_⟩
    have ef : ∀ K : AV → Prop, (foldD max2D) (.pv (.int .i64 (d : Nat))) [.pv (.int .i64 (depthN n.kids[i] : Nat))] K = K (.pv (.int .i64 (max d (depthN n.kids[i]) : Nat))) := by
      intro K
      have : (if ((depthN n.kids[i] : Nat) : Int) > (d : Nat) then ((depthN n.kids[i] : Nat) : Int) else ((d : Nat) : Int)) = ((max d (depthN n.kids[i]) : Nat) : Int) := by split <;> omega
      simp only [foldD, max2D, this]
    simp (disch := omega) only [ef, bin_add, nAdd1, wrap64]
    exact back (i + 1, max d (depthN n.kids[i])) rfl (by simp only; omega) ⟨AS.sub_trans hs (AS.sub_trans hS3.sub hs4), g, by simp only; omega⟩
  · have e : i = n.kids.length := by omega
    subst e
    rw [List.drop_length, depthNs] at hm
    have hd3 : d = depthNs n.kids := by omega
    subst hd3
    exact retV_self (hK _ hs)
theorem F_depth6 (hm : HM) : ∀ m : Nat, SoundF PS 19 (T_depth6 m)
  | 0 => by
    rintro w0 hS ρ σ w args us K X H hr ⟨a, _, h, _⟩
    exact absurd h (Nat.not_lt_zero _)
  | m + 1 => body_sound hm (EnvOk.add (env0_ok PS) (F_depth6 hm m)) an19 Tryd.func19 Tryd.call19 S19_ok (fun args σ K X h => T_depth6_ok rfl h)
/-! ### the laws' -/
def envP : Env := env0.add 18 T_yParse
theorem envP_ok (hm : HM) : EnvOk PS envP := EnvOk.add (env0_ok PS) (F_yParse hm)
theorem F_awake6 (hm : HM) : SoundF PS 17 T_awake6 := body_sound hm (envP_ok hm) an17 Tryd.func17 Tryd.call17 S17_ok (fun args σ K X h => T_awake6_ok rfl h)
def envQ : Env := ((envP.add 17 T_awake6).add 21 (Tr.wk T_zSameA)).add 19 (T_depth6 300)
theorem envQ_ok (hm : HM) : EnvOk PS envQ := EnvOk.add (EnvOk.add (EnvOk.add (envP_ok hm) (F_awake6 hm)) (F_zSameA hm).wk) (F_depth6 hm 300)
theorem awake_call (h : env 17 = T_awake6) (hK : ∀ σ', σ.sub σ' → K (.pv (.bool true)) σ') : env 17 [] σ K X := by
  rw [h]; exact ⟨rfl, hK⟩
theorem same6_call (h : env 21 = Tr.wk T_zSameA) {v v' : AV} {a : List NTree} (hv : toPV v = some (.lst a.length (flatN a))) (hv' : toPV v' = some (.lst a.length (flatN a))) (hl : a.length ≤ 1000000) (hok : okNs a) (hK : ∀ σ', σ.sub σ' → K (.pv (.bool true)) σ') : env 21 [v, v'] σ K X := by
  rw [h]
  exact ⟨[.pv (.lst a.length (flatN a)), .pv (.lst a.length (flatN a))], ⟨.inr ⟨_, hv, rfl⟩, .inr ⟨_, hv', rfl⟩, trivial⟩, depthNs a + 1, a, rfl, Nat.lt_succ_self _, hl, hok, hK⟩
/-- A row that may grow, with others put behind it. -/
theorem appF {v x : AV} {a r : List NTree} (G : RowFN v M a) (h : Sep σ0 σ (Y ++ M)) (hx : x = .pv (.lst r.length (flatN r))) (hb : a.length + r.length ≤ 1000000)
    (hK : ∀ v' M' σ', RowFN v' M' (a ++ r) → Sep σ0 σ' (Y ++ M') → K v' σ') : appendD PS false σ 35 v x K := by
  subst hx
  obtain ⟨q1, q2, z, q3, q4⟩ := rowTN
  have hs : shown PS σ 39 (.pv (.lst r.length (flatN r))) = some (r.length, flatN r) := rfl
  have hlr : (flatN r).length = r.length * szOf PS 39 := by rw [flatN_len, T.sz39]
  rcases Nat.eq_zero_or_pos r.length with h0 | h0
  · have e : r = [] := List.eq_nil_of_length_eq_zero h0
    subst e
    rw [List.append_nil] at hK
    have hc : appendCore PS false σ 39 0 (flatN []) v K := by
      rcases G with G | ⟨rfl, rfl⟩
      · rcases G.2 with ⟨rfl, rfl, g3, g4⟩ | ⟨id, mk, rfl, rfl⟩
        · simp only [appendCore, if_true]; exact hK _ _ _ (.inl G) h
        · simp only [appendCore, if_true]; exact hK _ _ _ (.inl G) h
      · simp only [appendCore, if_true]; exact hK _ _ _ (.inr ⟨rfl, rfl⟩) h
    simp only [appendD, q1, q2, q3, q4, hs, true_and]
    exact ⟨hlr, hc⟩
  · have e1 : flatN (a ++ r) = flatN a ++ flatN r := flatN_app a r
    have hl : (a ++ r).length = a.length + r.length := List.length_append
    rcases G with G | ⟨rfl, rfl⟩
    · refine G.append h rowTN hs hlr h0 (by rw [T.by39]; omega) (by omega) ?_
      intro v' L' σ' g1 g2
      exact hK v' L' σ' (.inl (by rw [hl, e1]; exact g1)) g2
    · have hne : r.length ≠ 0 := by omega
      simp only [appendD, appendCore, q1, q2, q3, q4, hs, true_and, hne, if_false]
      refine ⟨hlr, by rw [flatN_len, T.sz39], by rw [T.by39]; omega, by omega, ?_⟩
      simp only [newRowD, Bool.false_eq_true, if_false, toPVs_pv]
      intro id hid
      have h5 := h.alloc hid (.front (a.length + r.length) (szOf PS 39) (some 39))
      refine hK _ [(id, .front (a.length + r.length) (szOf PS 39) (some 39))] _ (.inl ⟨?_, .inr ⟨id, some 39, ?_, ?_⟩⟩) ?_
      · rw [flatN_len, T.sz39]
      · rw [e1, hl]
      · rw [hl]
      · refine h5.perm ?_
        simpa using List.perm_append_comm (l₁ := [(id, AObj.front (a.length + r.length) (szOf PS 39) (some 39))]) (l₂ := Y)
theorem row0 {K : AV → AS → Prop} (hK : K (.full 0 (flatN [])) σ) : buildSliceD PS false σ 35 0 0 [] K := by
  have h : buildSliceD PS false σ 35 0 0 [] K = K (.full 0 (flatN [])) σ := by
    simp [buildSliceD, T.el35, T.sz39, T.zo39, T.hT39, elemsFill, toPVs, flatN]
  rw [h]; exact hK
end
end Go.AD.Lx

/- syntax: the laws walked. -/
set_option linter.unusedVariables false
set_option linter.unusedSimpArgs false
set_option maxRecDepth 100000
namespace Go.AD.Lx
open Go.Proofs RowKit
theorem noTailOf {s : Bytes} (h : s = [] ∨ ¬ (s.getD (s.length - 1) 0).toNat = 92) : NoTail s := by
  unfold NoTail
  rcases h with rfl | h
  · decide
  · intro e
    apply h
    have e2 : s.getLast? = s[s.length - 1]? := List.getLast?_eq_getElem?
    rw [e2] at e
    rw [List.getD_eq_getElem?_getD, e]
    rfl
section
variable {env : Env} {args : List AV} {σ0 σ τ : AS} {K : AV → AS → Prop} {X : PV → AS → Prop}
def T_lawY2 : Tr := fun args σ K _ => ∃ s t : Bytes, args = [.pv (.str s), .pv (.str t)] ∧ ∀ σ', K (.pv (.bool true)) σ'
def T_lawY1 : Tr := fun args σ K _ => ∃ s : Bytes, args = [.pv (.str s)] ∧ ∀ σ', K (.pv (.bool true)) σ'
theorem T_SyntaxJoins_ok (h1 : env 18 = T_yParse) (h2 : env 17 = T_awake6) (h3 : env 21 = Tr.wk T_zSameA) (h : T_lawY2 args σ K X) : bodyD PS env an7 Tryd.f7 args σ K X := by
  obtain ⟨s, t, rfl, hK⟩ := h
  rw [← S7_eq env, S7]
  simp only [lock_eq]
  refine awake_call h2 fun σ1 _ => ?_
  simp only [go_sem, Bool.not_true, Bool.false_eq_true, if_false]
  refine iteI (fun _ => retV_self (hK _)) (fun g1 => ?_)
  refine iteI (fun _ => retV_self (hK _)) (fun g2 => ?_)
  have j5 : NoTail s → J7_5 env (.pv (.str s)) (.pv (.str t)) σ1 K X := by
    intro hn
    unfold J7_5
    simp (disch := omega) only [lock_eq, go_sem]
    refine ⟨by simp; omega, ?_⟩
    refine parse_call h1 fun σ2 _ => ?_
    have eb : [66, 69, 71, 73, 78, 32, 123, 125, 10] ++ t = bBegin ++ 10 :: t := rfl
    rw [eb]
    cases ha : parseS s with
    | none =>
      simp only [parseNV, ext_tuple, List.getElem?_cons_zero, List.getElem?_cons_succ, someEx]
      refine parse_call h1 fun σ3 _ => ?_
      cases hb : parseS (bBegin ++ 10 :: t) with
      | none =>
        simp only [parseNV, ext_tuple, List.getElem?_cons_zero, List.getElem?_cons_succ, someEx, un_not, Bool.not_false, guard_false, if_true]
        exact retV_self (hK _)
      | some B =>
        simp only [parseNV, ext_tuple, List.getElem?_cons_zero, List.getElem?_cons_succ, someEx, un_not, Bool.not_false, guard_false, if_true]
        exact retV_self (hK _)
    | some A =>
      simp only [parseNV, ext_tuple, List.getElem?_cons_zero, List.getElem?_cons_succ, someEx]
      refine parse_call h1 fun σ3 _ => ?_
      cases hb : parseS (bBegin ++ 10 :: t) with
      | none =>
        simp only [parseNV, ext_tuple, List.getElem?_cons_zero, List.getElem?_cons_succ, someEx, un_not, Bool.not_false, Bool.not_true, guard_false, cond_bool, Bool.false_eq_true, if_true, if_false]
        exact retV_self (hK _)
      | some B =>
        simp only [parseNV, ext_tuple, List.getElem?_cons_zero, List.getElem?_cons_succ, someEx, un_not, Bool.not_true, guard_false, cond_bool, Bool.false_eq_true, if_false]
        have hj := parse_join hn (by omega) (by omega) ha hb
        obtain ⟨hA, lA⟩ := parse_items ha
        obtain ⟨hB, lB⟩ := parse_items hb
        unfold J7_10
        have ec : s ++ [10] ++ (bBegin ++ 10 :: t) = s ++ 10 :: (bBegin ++ 10 :: t) := by simp
        have hbl : bBegin.length = 8 := rfl
        simp (disch := omega) only [lock_eq, go_sem]
        refine ⟨by simp; omega, by simp; omega, ?_⟩
        refine parse_call h1 fun σ4 _ => ?_
        rw [ec, hj]
        simp only [parseNV, ext_tuple, List.getElem?_cons_zero, List.getElem?_cons_succ, someEx, guard_true, if_true]
        refine row0 ?_
        refine appF (M := []) (Y := []) (a := []) (r := A) (.inr ⟨rfl, rfl⟩) (Sep.start σ4) rfl (by simp; omega) (fun v1 M1 σ5 G1 S1 => ?_)
        refine appF (Y := []) (r := B) G1 S1 rfl (by simp; omega) (fun v2 M2 σ6 G2 S2 => ?_)
        rw [List.nil_append] at G2
        refine same6_call h3 rfl G2.toPV (by simp; omega) ?_ (fun σ7 _ => retV_self (hK _))
        rw [okNs_iff]
        intro x hx
        rcases List.mem_append.1 hx with hx | hx
        · exact (hA x hx).1
        · exact (hB x hx).1
  refine iteI (fun g3 => ?_) (fun g3 => ?_)
  · simp (disch := omega) only [go_sem, T.is9, beq_iff_eq]
    exact iteI (fun _ => retV_self (hK _)) (fun g4 => j5 (noTailOf (.inr g4)))
  · exact j5 (noTailOf (.inl (List.eq_nil_of_length_eq_zero (by omega))))
theorem F_SyntaxJoins (hm : HM) : SoundF PS 7 T_lawY2 := body_sound hm (envQ_ok hm) an7 Tryd.func7 Tryd.call7 S7_ok (fun args σ K X h => T_SyntaxJoins_ok rfl rfl rfl h)
theorem slN2 {a b : NTree} {K : AV → Prop} : sliceD PS 35 (.pv (.lst [a, b].length (flatN [a, b]))) (some (.pv (.int .i64 1))) none K = K (.pv (.lst [b].length (flatN [b]))) := by
  have e : (flatN [a, b]).take (2 * 3) = flatN [a, b] := List.take_of_length_le (by rw [flatN_len]; exact Nat.le_refl _)
  have e2 : (flatN [a, b]).drop 3 = flatN [b] := by
    rw [flatN, ← nodeCells_len a, List.drop_left]
  simp [sliceD, T.el35, cutAt, T.iS39, T.sz39, e, e2]
theorem T_SyntaxBraces_ok (h1 : env 18 = T_yParse) (h2 : env 17 = T_awake6) (h3 : env 21 = Tr.wk T_zSameA) (h4 : env 19 = T_depth6 300) (h : T_lawY1 args σ K X) : bodyD PS env an8 Tryd.f8 args σ K X := by
  obtain ⟨s, rfl, hK⟩ := h
  rw [← S8_eq env, S8]
  simp only [lock_eq]
  refine awake_call h2 fun σ1 _ => ?_
  simp only [go_sem, Bool.not_true, Bool.false_eq_true, if_false]
  refine iteI (fun _ => retV_self (hK _)) (fun g1 => ?_)
  have j5 : NoTail s → J8_5 env (.pv (.str s)) σ1 K X := by
    intro hn
    unfold J8_5
    have e1 : [123] ++ s ++ [10, 125] = (123 :: s) ++ 10 :: [125] := rfl
    have e2 : [123, 123] ++ s ++ [10, 125, 59, 10, 125] = (123 :: 123 :: s) ++ 10 :: [125, 59, 10, 125] := rfl
    simp (disch := omega) only [lock_eq, go_sem]
    refine ⟨by simp; omega, by simp; omega, ?_⟩
    refine parse_call h1 fun σ2 _ => ?_
    rw [e1]
    cases ha : parseS ((123 :: s) ++ 10 :: [125]) with
    | none =>
      simp only [parseNV, ext_tuple, List.getElem?_cons_zero, List.getElem?_cons_succ, someEx]
      refine ⟨by simp; omega, by simp; omega, ?_⟩
      refine parse_call h1 fun σ3 _ => ?_
      rw [e2]
      cases parseS ((123 :: 123 :: s) ++ 10 :: [125, 59, 10, 125]) with
      | none =>
        simp only [parseNV, ext_tuple, List.getElem?_cons_zero, List.getElem?_cons_succ, someEx, un_not, Bool.not_false, guard_false, if_true]
        exact retV_self (hK _)
      | some B =>
        simp only [parseNV, ext_tuple, List.getElem?_cons_zero, List.getElem?_cons_succ, someEx, un_not, Bool.not_false, guard_false, if_true]
        exact retV_self (hK _)
    | some A =>
      simp only [parseNV, ext_tuple, List.getElem?_cons_zero, List.getElem?_cons_succ, someEx]
      refine ⟨by simp; omega, by simp; omega, ?_⟩
      refine parse_call h1 fun σ3 _ => ?_
      rw [e2]
      obtain ⟨hA, lA⟩ := parse_items ha
      have hB : ∃ B ok, parseNV (parseS ((123 :: 123 :: s) ++ 10 :: [125, 59, 10, 125])) = .tuple [.pv (.lst B.length (flatN B)), .pv (.bool ok)] ∧ (ok = true → parseS ((123 :: 123 :: s) ++ 10 :: [125, 59, 10, 125]) = some B) ∧ (ok = false → parseS ((123 :: 123 :: s) ++ 10 :: [125, 59, 10, 125]) = none) := by
        cases hp : parseS ((123 :: 123 :: s) ++ 10 :: [125, 59, 10, 125]) with
        | none => exact ⟨[], false, by rw [flatN]; rfl, fun h => (nomatch h), fun _ => rfl⟩
        | some B => exact ⟨B, true, rfl, fun _ => rfl, fun h => (nomatch h)⟩
      obtain ⟨B, ok, eB, hok, hno⟩ := hB
      rw [eB]
      simp (disch := omega) only [ext_tuple, List.getElem?_cons_zero, List.getElem?_cons_succ, someEx, un_not, Bool.not_true, guard_false, Bool.false_eq_true, if_false, T.lnl35, bin_neq]
      refine iteI (fun _ => retV_self (hK _)) (fun g2 => ?_)
      have hl1 : A.length = 1 := by
        simp only [bne_iff_ne, ne_eq, Decidable.not_not] at g2
        omega
      have hA0 : ∃ a, A = [a] := by
        match A, hl1 with
        | [a], _ => exact ⟨a, rfl⟩
      obtain ⟨a, rfl⟩ := hA0
      obtain ⟨b, rfl, hbr⟩ := parse_braces hn (by omega) ha
      have hI := hA _ (List.mem_singleton.2 rfl)
      have hdep := fine_depth _ _ _ hI.2.1
      have hbk : okN b := okNs_mem (okN_kids hI.1).2 1 (Nat.lt_succ_self 1)
      generalize hav : NTree.mk oRule [] [noneN, b] = a at hI hdep hbr
      have hkids : a.kids = [noneN, b] := by rw [← hav]; rfl
      have x0 : ∀ K : AV → Prop, indexAddrD PS 35 (.pv (.lst [a].length (flatN [a]))) (.pv (.int .i64 0)) K = K (.elemP (flatN [a]) 0) := fun K => node_ix (a := [a]) (i := 0) (by simp)
      have y1 : ∀ K : AV → Prop, indexAddrD PS 35 (.pv (.lst [noneN, b].length (flatN [noneN, b]))) (.pv (.int .i64 1)) K = K (.elemP (flatN [noneN, b]) 3) := fun K => node_ix (a := [noneN, b]) (i := 1) (by simp)
      have c0 : (flatN [a])[0]? = some (.str oRule) := by rw [← hav]; exact nc0 (a := [NTree.mk oRule [] [noneN, b]]) (i := 0) (by simp)
      have c2 : (flatN [a])[0 + 2]? = some (.lst [noneN, b].length (flatN [noneN, b])) := by rw [← hav]; exact nc2 (a := [NTree.mk oRule [] [noneN, b]]) (i := 0) (by simp)
      have d0 : (flatN [noneN, b])[3]? = some (.str b.op) := nc0 (a := [noneN, b]) (i := 1) (by simp)
      simp only [x0, y1, T.fe39_0, T.fe39_1, T.fe39_2, T.le9, T.le35, Nat.add_zero, c0, c2, d0, someEx, bin_sneq, guard_false]
      rw [if_neg (by decide)]
      simp only [cond_bool]
      refine iteI (fun _ => retV_self (hK _)) (fun _ => ?_)
      unfold J8_9
      have hld : ∀ σ K, loadD PS σ 39 (.elemP (flatN [a]) 0) K = K (nodeAV a) := by
        intro σ K
        have e := flatN_get [a] 0 (by simp)
        rw [Nat.zero_mul, List.drop_zero] at e
        rw [load_elemA T.hT39 T.ag39, T.sz39, List.drop_zero, e]
        exact propext ⟨fun h => h.2, fun h => ⟨by rw [flatN_len]; simp, h⟩⟩
      simp only [lock_eq, x0, hld]
      rw [h4]
      refine ⟨a, rfl, by omega, by omega, hI.1, fun σ4 _ => ?_⟩
      simp (disch := omega) only [go_sem]
      refine iteI (fun _ => retV_self (hK _)) (fun g5 => ?_)
      have hp := hbr (by omega)
      cases ok with
      | false => rw [hno rfl] at hp; cases hp
      | true =>
        rw [hok rfl] at hp
        simp only [Option.some.injEq] at hp
        subst hp
        generalize hcv : NTree.mk oBlock [] [b] = c
        have hck : c.kids = [b] := by rw [← hcv]; rfl
        generalize hrv : NTree.mk oRule [] [noneN, c] = r
        have z0 : ∀ K : AV → Prop, indexAddrD PS 35 (.pv (.lst [r].length (flatN [r]))) (.pv (.int .i64 0)) K = K (.elemP (flatN [r]) 0) := fun K => node_ix (a := [r]) (i := 0) (by simp)
        have z1 : ∀ K : AV → Prop, indexAddrD PS 35 (.pv (.lst [noneN, c].length (flatN [noneN, c]))) (.pv (.int .i64 1)) K = K (.elemP (flatN [noneN, c]) 3) := fun K => node_ix (a := [noneN, c]) (i := 1) (by simp)
        have e2' : (flatN [r])[0 + 2]? = some (.lst [noneN, c].length (flatN [noneN, c])) := by rw [← hrv]; exact nc2 (a := [NTree.mk oRule [] [noneN, c]]) (i := 0) (by simp)
        have e3' : (flatN [noneN, c])[3 + 2]? = some (.lst [b].length (flatN [b])) := by rw [← hcv]; exact nc2 (a := [noneN, NTree.mk oBlock [] [b]]) (i := 1) (by simp)
        simp (disch := omega) only [go_sem, z0, z1, T.lnl35, T.fe39_2, T.le35, e2', e3', c2, someEx, guard_true, bin_eql, if_true]
        rw [if_pos (show ([r].length == 1) = true from rfl), if_pos (show ([noneN, c].length == 2) = true from rfl), if_pos (show ([b].length == 1) = true from rfl), slN2]
        exact same6_call h3 rfl rfl (by simp) (by rw [okNs_iff]; intro x hx; rw [List.mem_singleton.1 hx]; exact hbk) (fun σ7 _ => retV_self (hK _))
  refine iteI (fun g3 => ?_) (fun g3 => ?_)
  · simp (disch := omega) only [go_sem, T.is9, beq_iff_eq]
    exact iteI (fun _ => retV_self (hK _)) (fun g4 => j5 (noTailOf (.inr g4)))
  · exact j5 (noTailOf (.inl (List.eq_nil_of_length_eq_zero (by omega))))
theorem F_SyntaxBraces (hm : HM) : SoundF PS 8 T_lawY1 := body_sound hm (envQ_ok hm) an8 Tryd.func8 Tryd.call8 S8_ok (fun args σ K X h => T_SyntaxBraces_ok rfl rfl rfl rfl h)
end
end Go.AD.Lx

/- syntax: the variable that the rows list. -/
set_option linter.unusedVariables false
set_option linter.unusedSimpArgs false
set_option maxRecDepth 100000
namespace Go.AD.Lx
open Go.Proofs RowKit
theorem known_end {g : Nat} {cs : List PV} (h : Go.AD.known PS g = some cs) : g = 0 ∧ cs = [.str [], .str []] := by
  have hall : (List.range PS.globals.size).all (fun i => i == 0 || !((PS.globals[i]?.map (·.name)) == some "tedder/syntax.end")) = true := by kernel_rfl
  unfold Go.AD.known at h
  split at h
  case h_2 => cases h
  case h_1 x hx =>
    split at h
    · rename_i hn
      cases h
      refine ⟨?_, rfl⟩
      obtain ⟨hg, _⟩ := Array.getElem?_eq_some_iff.1 hx
      have := List.all_eq_true.1 hall g (List.mem_range.2 hg)
      rw [hx, Option.map_some, hn] at this
      simpa using this
    · cases h
theorem trod_str {W : World} {f t : Nat} {cs : List Value} {p : List MemPlace} (ht : PS.underlying t = some .string) (h : DataW.trod (fun _ => ()) PS W 0 (fun _ => true) false f t cs = some (.lit (.string []), p)) : cs = [.string ⟨#[]⟩] := by
  cases f with
  | zero => rw [DataW.trod] at h; cases h
  | succ f =>
    unfold DataW.trod at h
    rw [ht] at h
    dsimp only at h
    split at h <;> simp_all
    obtain ⟨_, h1, _⟩ := h
    rename_i b _ _
    obtain ⟨d⟩ := b
    exact congrArg ByteArray.mk h1
theorem two_of {α : Type} {l : List α} (h : l.length = 2) : ∃ a b, l = [a, b] := by
  match l, h with
  | [a, b], _ => exact ⟨a, b, rfl⟩
theorem ready_end {W : World} (hS : W.ShapedOpen PS) (hl : laidMet PS [("tedder/syntax.end", .agg [.lit (.string []), .lit (.string [])])] W) : Ready PS W := by
  obtain ⟨ps, ⟨g, t, cs, fuel, p, q, h1, h2, h3, h4, _⟩, _⟩ := hl
  have hg : PS.globalNamed "tedder/syntax.end" = some 0 := by kernel_rfl
  have ht : (PS.globals[0]?).map (·.type) = some 52 := by kernel_rfl
  have hg' : g = 0 := by rw [hg] at h1; exact (Option.some.inj h1).symm
  subst hg'
  rw [ht] at h2
  have ht' : t = 52 := (Option.some.inj h2).symm
  subst ht'
  have hheap : ∃ ty fz, W.heap[0]? = some (.cells cs ty fz) := by
    unfold World.var? at h3
    rw [hg, Option.bind_some] at h3
    split at h3
    · rename_i c ty fz hc
      cases h3
      exact ⟨ty, fz, hc⟩
    · cases h3
  obtain ⟨ty, fz, hheap⟩ := hheap
  have hcs : cs.toList = [.string ⟨#[]⟩, .string ⟨#[]⟩] := by
    cases fuel with
    | zero => rw [DataW.trod] at h4; cases h4
    | succ f =>
      have hu : ∃ fa fb, PS.underlying 52 = some (.struct #[fa, fb]) ∧ fa.type = 9 ∧ fb.type = 9 ∧ fa.offset = 0 ∧ fb.offset = 1 := ⟨_, _, Tryd.underlying52, rfl, rfl, by kernel_rfl, by kernel_rfl⟩
      obtain ⟨fa, fb, hu, t1, t2, o1, o2⟩ := hu
      have hc : PS.cellsOf 52 = 2 := by kernel_rfl
      have hc1 : PS.cellsOf 9 = 1 := by kernel_rfl
      unfold DataW.trod at h4
      rw [hu] at h4
      dsimp only at h4
      rw [hc] at h4
      by_cases hlen : cs.toList.length = 2
      · obtain ⟨a, b, hab⟩ := two_of hlen
        rw [if_pos hlen, hab] at h4
        simp only [List.mapM_cons, List.mapM_nil, t1, t2, o1, o2, hc1, List.drop_zero, List.drop_succ_cons, List.take_succ_cons, List.take_zero] at h4
        cases ha : DataW.trod (fun _ => ()) PS W 0 (fun _ => true) false f 9 [a] with
        | none => rw [ha] at h4; simp at h4
        | some x =>
          cases hb : DataW.trod (fun _ => ()) PS W 0 (fun _ => true) false f 9 [b] with
          | none => rw [ha, hb] at h4; simp at h4
          | some y =>
            rw [ha, hb] at h4
            simp at h4
            obtain ⟨x1, x2⟩ := x
            obtain ⟨y1, y2⟩ := y
            obtain ⟨⟨e1, e2⟩, _⟩ := h4
            simp only at e1 e2
            subst e1 e2
            have ka := trod_str Tryd.underlying9 ha
            have kb := trod_str Tryd.underlying9 hb
            simp only [List.cons.injEq, and_true] at ka kb
            rw [hab, ka, kb]
      · rw [if_neg hlen] at h4; cases h4
  refine ⟨hS, fun g' cs' hk => ?_⟩
  obtain ⟨rfl, rfl⟩ := known_end hk
  refine ⟨[.string ⟨#[]⟩, .string ⟨#[]⟩], rfl, fun i v hv => ?_, fun i hi => ?_⟩
  · unfold World.cell?
    simp only [hheap]
    rw [← hcs] at hv
    simpa using hv
  · match i, hi with
    | 0, _ => exact .str []
    | 1, _ => exact .str []
end Go.AD.Lx
