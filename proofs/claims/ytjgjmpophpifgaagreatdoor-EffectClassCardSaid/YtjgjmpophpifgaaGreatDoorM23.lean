import Derived.Test.YtjgjmpophpifgaaGreatDoorM18
import Derived.Test.YtjgjmpophpifgaaGreatDoorM19
import Derived.Test.YtjgjmpophpifgaaGreatDoorM21
import Derived.Test.YtjgjmpophpifgaaGreatDoorM22
set_option linter.unusedVariables false
set_option linter.unusedSimpArgs false
set_option maxRecDepth 100000
namespace Go.AD.Lx
structure Good (u:List Tok):Prop where
  fst:u=[] \/ endB (atS 0 u)=true
  els:atS 0 (endsS u) ≠ wordT oElse
def S2 {α:Type} (u:List Tok) (m m':R α):Prop:=∀ a r,m=.ok a r->m'=.ok a (r ++ u)
section
variable {α β:Type} {u ts:List Tok}
theorem S2.out {m':R α}:S2 u .out m':=fun _ _ h=>nomatch h
theorem S2.wrong {m':R α}:S2 u .wrong m':=fun _ _ h=>nomatch h
theorem S2.ok {a:α} {r:List Tok}:S2 u (.ok a r) (.ok a (r ++ u)):=fun _ _ h=>by cases h; rfl
theorem S2.bnd {m m':R α} {k k':α->List Tok->R β} (h:S2 u m m') (hk:∀ a r,m=.ok a r->S2 u (k a r) (k' a (r ++ u))):S2 u (bnd m k) (bnd m' k'):=by
  cases m with
  | out=>exact S2.out
  | wrong=>exact S2.wrong
  | ok a r=>rw [h a r rfl]; exact hk a r rfl
theorem S2.ite {c c':Prop} [Decidable c] [Decidable c'] {x y x' y':R α} (hc:c'=c) (h1:c->S2 u x x') (h2:¬ c->S2 u y y'):S2 u (if c then x else y) (if c' then x' else y'):=by
  by_cases h:c
  · rw [if_pos h,if_pos (hc ▸ h)]; exact h1 h
  · rw [if_neg h,if_neg (hc ▸ h)]; exact h2 h
theorem atLt {k:Nat} (h:k < ts.length):atS k (ts ++ u)=atS k ts:=by
  unfold atS
  rw [List.getD_eq_getElem?_getD,List.getD_eq_getElem?_getD,List.getElem?_append_left h]
theorem atEq {k:Nat} (h:k=ts.length):atS k ts=([],[])/\atS k (ts ++ u)=atS 0 u:=by
  subst h
  unfold atS
  constructor
  · rw [List.getD_eq_getElem?_getD,List.getElem?_eq_none (Nat.le_refl _)]; rfl
  · rw [List.getD_eq_getElem?_getD,List.getD_eq_getElem?_getD,List.getElem?_append_right (Nat.le_refl _),Nat.sub_self]
theorem endB_cases {t:Tok} (h:endB t=true):t=(kNl,t.2) \/ t=opT [59]:=by
  unfold endB at h
  simp only [Bool.or_eq_true,decide_eq_true_eq] at h
  rcases h with h | h
  · exact .inl (by rw [<- h])
  · exact .inr h
theorem atq {γ:Type} (q:Tok->γ) (G:Good u) {k:Nat} (hk:k <= ts.length) (h1:∀ x,q (kNl,x)=q ([],[])) (h2:q (opT [59])=q ([],[])):q (atS k (ts ++ u))=q (atS k ts):=by
  rcases Nat.lt_or_eq_of_le hk with h | h
  · rw [atLt h]
  · obtain ⟨e1,e2⟩:=atEq (u:=u) h
    rw [e1,e2]
    rcases G.fst with rfl | hu
    · rfl
    · rcases endB_cases hu with h | h
      · rw [h]; exact h1 _
      · rw [h]; exact h2
theorem atOp (G:Good u) {k:Nat} (hk:k <= ts.length) (s:Bytes) (hs:s ≠ [59]):(atS k (ts ++ u)=opT s)=(atS k ts=opT s) :=
  atq (fun t=>t=opT s) G hk (fun x=>by simp [opT,kNl,kOp]) (by simp [opT,kOp,Ne.symm hs])
theorem atWord (G:Good u) {k:Nat} (hk:k <= ts.length) (s:Bytes):(atS k (ts ++ u)=wordT s)=(atS k ts=wordT s) :=
  atq (fun t=>t=wordT s) G hk (fun x=>by simp [wordT,kNl,kWord]) (by simp [opT,wordT,kOp,kWord])
theorem atKind (G:Good u) {k:Nat} (hk:k <= ts.length) (ks:List Bytes) (h1:kNl ∉ ks) (h2:[] ∉ ks) (h3:kOp ∉ ks):((atS k (ts ++ u)).1 ∈ ks)=((atS k ts).1 ∈ ks) :=
  atq (fun t=>t.1 ∈ ks) G hk (fun x=>by simp [h1,h2]) (by simp [opT,h2,h3])
theorem atKind1 (G:Good u) {k:Nat} (hk:k <= ts.length) (w:Bytes) (h1:w ≠ kNl) (h2:w ≠ []) (h3:w ≠ kOp):((atS k (ts ++ u)).1=w)=((atS k ts).1=w) :=
  atq (fun t=>t.1=w) G hk (fun x=>by simp [Ne.symm h1,Ne.symm h2]) (by simp [opT,Ne.symm h2,Ne.symm h3])
theorem level_q (G:Good u) (pr:Bool):levelS pr (atS 0 (ts ++ u))=levelS pr (atS 0 ts):=atq (levelS pr) G (Nat.zero_le _) (fun x=>by cases pr <;> rfl) (by cases pr <;> rfl)
theorem starts_q (G:Good u) {k:Nat} (hk:k <= ts.length):startsB (atS k (ts ++ u))=startsB (atS k ts):=atq startsB G hk (fun x=>rfl) rfl
theorem tdrop_app {k:Nat} (h:k <= ts.length):(ts ++ u).drop k=ts.drop k ++ u:=List.drop_append_of_le_length h
theorem nls_app:nlsS (ts ++ u)=if nlsS ts=[] then nlsS u else nlsS ts ++ u:=by
  induction ts with
  | nil=>rfl
  | cons t ts ih =>
    rw [List.cons_append,nlsS,nlsS]
    split
    · exact ih
    · rw [if_neg (by simp)]; rfl
theorem ends_app:endsS (ts ++ u)=if endsS ts=[] then endsS u else endsS ts ++ u:=by
  induction ts with
  | nil=>rfl
  | cons t ts ih =>
    rw [List.cons_append,endsS,endsS]
    split
    · exact ih
    · rw [if_neg (by simp)]; rfl
theorem stepped_app (G:Good u):steppedS (ts ++ u)=steppedS ts:=by
  unfold steppedS
  simp only [atOp G (Nat.zero_le ts.length) [43,43] (by decide),atOp G (Nat.zero_le ts.length) [45,45] (by decide)]
theorem sign_app (G:Good u):∀ (l:List Bytes),[59] ∉ l->signS l (ts ++ u)=signS l ts
  | [],_=>rfl
  | a :: l,h=>by
    rw [signS,signS,sign_app G l (fun h2=>h (List.mem_cons_of_mem _ h2))]
    simp only [atOp G (Nat.zero_le ts.length) a (fun e=>h (by rw [e]; exact List.mem_cons_self ..))]
theorem S2.nls {f f':Ps α} (h:∀ ts,S2 u (f ts) (f' (ts ++ u))) (h0:∀ a r,f [] ≠ .ok a r):S2 u (f (nlsS ts)) (f' (nlsS (ts ++ u))):=by
  rw [nls_app]
  split
  · rename_i e; rw [e]; exact fun a r hh=>absurd hh (h0 a r)
  · exact h _
theorem need_app (G:Good u) {t:Tok} (h1:endB t=false) (h2:t ≠ ([],[])):S2 u (needS t ts) (needS t (ts ++ u)):=by
  unfold needS
  have hc:(atS 0 (ts ++ u)=t)=(atS 0 ts=t):=by
    refine atq (fun x=>x=t) G (Nat.zero_le _) (fun x=>?_) ?_
    · have:(kNl,x) ≠ t:=by rintro rfl; simp [endB] at h1
      simp [this,Ne.symm h2]
    · have:opT [59] ≠ t:=by rintro rfl; simp [endB] at h1
      simp [this,Ne.symm h2]
  refine S2.ite hc (fun h=>?_) (fun _=>S2.wrong)
  rw [tdrop_app (atPos h h2)]
  exact S2.ok
theorem kind_app (G:Good u) {ks:List Bytes} (h1:kNl ∉ ks) (h2:[] ∉ ks) (h3:kOp ∉ ks):S2 u (kindS ks ts) (kindS ks (ts ++ u)):=by
  unfold kindS
  refine S2.ite (atKind G (Nat.zero_le _) ks h1 h2 h3) (fun h=>?_) (fun _=>S2.wrong)
  have hp:=kind_pos h h2
  rw [tdrop_app hp,atLt hp]
  exact S2.ok
end
structure SR (u:List Tok) (r r':Rec):Prop where
  fuel:r.fuel <= r'.fuel
  expr:∀ least pr ts,S2 u (r.expr least pr ts) (r'.expr least pr (ts ++ u))
  unary:∀ ts,S2 u (r.unary ts) (r'.unary (ts ++ u))
  exponent:∀ ts,S2 u (r.exponent ts) (r'.exponent (ts ++ u))
  operand:∀ ts,S2 u (r.operand ts) (r'.operand (ts ++ u))
  statement:∀ ts,S2 u (r.statement ts) (r'.statement (ts ++ u))
  e0:∀ least pr a t,r.expr least pr [] ≠ .ok a t
  s0:∀ a t,r.statement [] ≠ .ok a t
section
variable {u ts:List Tok} {r r':Rec}
theorem P_ahead (G:Good u) (H:SR u r r') (ts:List Tok):S2 u (aheadS r ts) (aheadS r' (ts ++ u)):=by
  unfold aheadS
  rw [stepped_app G]
  cases h:steppedS ts with
  | none=>exact S2.ok
  | some s =>
    dsimp only
    rw [tdrop_app (stepped_pos h)]
    refine (H.operand _).bnd fun a r _=>?_
    exact S2.ite rfl (fun _=>S2.ok) (fun _=>S2.wrong)
theorem P_step (G:Good u) (H:SR u r r') (ts:List Tok):S2 u (stepS r ts) (stepS r' (ts ++ u)):=by
  unfold stepS
  refine (P_ahead G H ts).bnd fun o t _=>?_
  cases o with
  | some e=>exact S2.ok
  | none =>
    dsimp only
    refine (H.operand _).bnd fun a t _=>?_
    refine S2.ite rfl (fun _=>?_) (fun _=>S2.ok)
    rw [stepped_app G]
    cases h:steppedS t with
    | none=>exact S2.ok
    | some s =>
      dsimp only
      rw [tdrop_app (stepped_pos h)]
      exact S2.ok
theorem P_power (G:Good u) (H:SR u r r') (ts:List Tok):S2 u (powerS r ts) (powerS r' (ts ++ u)):=by
  unfold powerS
  refine (P_step G H ts).bnd fun a t _=>?_
  refine S2.ite (atOp G (Nat.zero_le _) [94] (by decide)) (fun h=>?_) (fun _=>S2.ok)
  rw [tdrop_app (atPos h (by decide))]
  exact (H.exponent _).bnd fun x t _=>S2.ok
theorem P_listL (G:Good u) (H:SR u r r') (pr:Bool):∀ (f f':Nat) (l:List NTree) (ts:List Tok),f <= f'->S2 u (listL r pr f l ts) (listL r' pr f' l (ts ++ u))
  | 0,_,_,_,_=>by rw [listL]; exact S2.out
  | f + 1,0,_,_,h=>by omega
  | f + 1,f' + 1,l,ts,hf=>by
    rw [listL,listL]
    refine S2.ite (atOp G (Nat.zero_le _) [44] (by decide)) (fun h=>?_) (fun _=>S2.ok)
    rw [tdrop_app (atPos h (by decide))]
    refine (S2.nls (H.expr 1 pr) (H.e0 1 pr)).bnd fun x t _=>?_
    exact P_listL G H pr f f' _ _ (by omega)
theorem P_list (G:Good u) (H:SR u r r') (pr:Bool) (ts:List Tok):S2 u (listS r pr ts) (listS r' pr (ts ++ u)):=by
  unfold listS
  exact (H.expr 1 pr ts).bnd fun a t _=>P_listL G H pr _ _ _ _ H.fuel
theorem P_args (G:Good u) (H:SR u r r') (ts:List Tok):S2 u (argsS r ts) (argsS r' (ts ++ u)):=by
  unfold argsS
  refine S2.ite (atOp G (Nat.zero_le _) [41] (by decide)) (fun h=>?_) (fun _=>?_)
  · rw [tdrop_app (atPos h (by decide))]; exact S2.ok
  · refine (P_list G H false ts).bnd fun a t _=>?_
    exact (need_app G (by decide) (by decide)).bnd fun _ t _=>S2.ok
theorem P_subs (G:Good u) (H:SR u r r') (ts:List Tok):S2 u (subsS r ts) (subsS r' (ts ++ u)):=by
  unfold subsS
  refine (P_list G H false ts).bnd fun a t _=>?_
  exact (need_app G (by decide) (by decide)).bnd fun _ t _=>S2.ok
theorem P_exprL (G:Good u) (H:SR u r r') (least:Nat) (pr:Bool):∀ (f f':Nat) (left:NTree) (b:Nat) (ts:List Tok),f <= f'->S2 u (exprL r least pr f left b ts) (exprL r' least pr f' left b (ts ++ u))
  | 0,_,_,_,_,_=>by rw [exprL]; exact S2.out
  | f + 1,0,_,_,_,h=>by omega
  | f + 1,f' + 1,left,b,ts,hf=>by
    rw [exprL,exprL,level_q G pr]
    refine S2.ite rfl (fun _=>S2.ok) (fun h0=>?_)
    have hp:0 < ts.length:=by
      cases ts with
      | nil=>exact absurd (show levelS pr (atS 0 [])=0 by cases pr <;> decide) (fun e=>h0 (.inr (.inr e)))
      | cons=>simp
    rw [atLt hp,tdrop_app hp]
    refine S2.ite rfl (fun _=>?_) (fun _=>?_)
    · refine S2.ite rfl (fun _=>?_) (fun _=>S2.wrong)
      exact (H.expr 1 pr _).bnd fun a t _=>S2.ok
    refine S2.ite rfl (fun _=>?_) (fun _=>?_)
    · refine (S2.nls (H.expr 1 pr) (H.e0 1 pr)).bnd fun x t _=>?_
      refine (need_app G (by decide) (by decide)).bnd fun _ t _=>?_
      exact (S2.nls (H.expr 1 pr) (H.e0 1 pr)).bnd fun x t _=>S2.ok
    refine S2.ite rfl (fun _=>?_) (fun _=>?_)
    · exact (kind_app G (by decide) (by decide) (by decide)).bnd fun x t _=>P_exprL G H least pr f f' _ _ _ (by omega)
    refine S2.ite rfl (fun _=>?_) (fun _=>?_)
    · exact (H.expr 9 pr _).bnd fun x t _=>P_exprL G H least pr f f' _ _ _ (by omega)
    · have hx:S2 u (r.expr (levelS pr (atS 0 ts) + 1) pr (if levelS pr (atS 0 ts) <= 4 then nlsS (ts.drop 1) else ts.drop 1)) (r'.expr (levelS pr (atS 0 ts) + 1) pr (if levelS pr (atS 0 ts) <= 4 then nlsS (ts.drop 1 ++ u) else ts.drop 1 ++ u)):=by
        by_cases h:levelS pr (atS 0 ts) <= 4
        · rw [if_pos h,if_pos h]; exact S2.nls (H.expr _ pr) (H.e0 _ pr)
        · rw [if_neg h,if_neg h]; exact H.expr _ pr _
      exact hx.bnd fun x t _=>P_exprL G H least pr f f' _ _ _ (by omega)
theorem P_expr (G:Good u) (H:SR u r r') (least:Nat) (pr:Bool) (ts:List Tok):S2 u (exprS r least pr ts) (exprS r' least pr (ts ++ u)):=by
  unfold exprS
  exact (H.unary ts).bnd fun a t _=>P_exprL G H least pr _ _ _ _ _ H.fuel
theorem P_unary (G:Good u) (H:SR u r r') (ts:List Tok):S2 u (unaryS r ts) (unaryS r' (ts ++ u)):=by
  unfold unaryS
  rw [sign_app G _ (by decide)]
  cases h:signS [[33],[43],[45]] ts with
  | none=>exact P_power G H ts
  | some s =>
    dsimp only
    rw [tdrop_app (sign_pos h)]
    exact (H.unary _).bnd fun a t _=>S2.ok
theorem P_exponent (G:Good u) (H:SR u r r') (ts:List Tok):S2 u (exponentS r ts) (exponentS r' (ts ++ u)):=by
  unfold exponentS
  rw [sign_app G _ (by decide)]
  cases h:signS [[43],[45]] ts with
  | none=>exact P_power G H ts
  | some s =>
    dsimp only
    rw [tdrop_app (sign_pos h)]
    exact (H.exponent _).bnd fun a t _=>S2.ok
theorem args0 (G:Good u) (H:SR u r r'):∀ a t,argsS r [] ≠ .ok a t:=by
  intro a t h
  have e:argsS r []=bnd (listS r false []) fun l ts=>bnd (needS (opT [41]) ts) fun _ ts=>.ok l ts:=rfl
  rw [e] at h
  unfold listS at h
  cases hx:r.expr 1 false [] with
  | out=>rw [hx] at h; cases h
  | wrong=>rw [hx] at h; cases h
  | ok a t=>exact H.e0 1 false a t hx
theorem P_operand (G:Good u) (H:SR u r r') (ts:List Tok):S2 u (opndS r ts) (opndS r' (ts ++ u)):=by
  unfold opndS
  by_cases h0:atS 0 ts=([],[])
  · rw [if_pos h0]; exact S2.wrong
  rw [if_neg h0]
  have hp:0 < ts.length:=by
    cases ts with
    | nil=>exact absurd rfl h0
    | cons=>simp
  rw [atLt hp,if_neg h0,tdrop_app hp]
  refine S2.ite rfl (fun _=>S2.ok) (fun _=>?_)
  refine S2.ite rfl (fun _=>?_) (fun _=>?_)
  · refine S2.ite (atOp G hp [91] (by decide)) (fun h=>?_) (fun _=>S2.ok)
    have h2:2 <= ts.length:=at_pos h (by decide)
    rw [tdrop_app h2]
    exact (P_subs G H _).bnd fun l t _=>S2.ok
  refine S2.ite rfl (fun _=>?_) (fun _=>?_)
  · rcases Nat.lt_or_ge 1 ts.length with h2 | h2
    · rw [tdrop_app h2]
      exact (P_args G H _).bnd fun l t _=>S2.ok
    · have e:ts.drop 2=[]:=List.drop_eq_nil_of_le (by omega)
      rw [e]
      cases hx:argsS r [] with
      | out=>exact S2.out
      | wrong=>exact S2.wrong
      | ok a t=>exact absurd hx (args0 G H a t)
  refine S2.ite rfl (fun _=>?_) (fun _=>?_)
  · refine S2.ite (atOp G hp [40] (by decide)) (fun h=>?_) (fun _=>S2.ite rfl (fun _=>S2.ok) (fun _=>S2.wrong))
    have h2:2 <= ts.length:=at_pos h (by decide)
    rw [tdrop_app h2]
    exact (P_args G H _).bnd fun l t _=>S2.ok
  refine S2.ite rfl (fun _=>?_) (fun _=>?_)
  · refine (P_list G H false _).bnd fun l t _=>?_
    refine (need_app G (by decide) (by decide)).bnd fun _ t _=>?_
    refine S2.ite rfl (fun _=>S2.ok) (fun _=>?_)
    refine S2.ite (atWord G (Nat.zero_le _) wIn) (fun h=>?_) (fun _=>S2.ok)
    rw [tdrop_app (atPos h (by decide))]
    exact (kind_app G (by decide) (by decide) (by decide)).bnd fun x t _=>S2.ok
  refine S2.ite rfl (fun _=>?_) (fun _=>S2.wrong)
  refine (P_ahead G H _).bnd fun o t _=>?_
  cases o with
  | some e=>exact S2.ok
  | none=>exact (H.operand _).bnd fun a t _=>S2.ok
theorem P_tail (G:Good u) (H:SR u r r') (w:Bytes) (l:List NTree) (ts:List Tok):S2 u (printTail r w l ts) (printTail r' w l (ts ++ u)):=by
  unfold printTail
  rw [sign_app G _ (by decide)]
  cases h:signS [[62],[62,62]] ts with
  | none=>exact S2.ok
  | some s =>
    dsimp only
    rw [tdrop_app (sign_pos h)]
    exact (H.expr 8 true _).bnd fun a t _=>S2.ok
theorem P_printed (G:Good u) (H:SR u r r') (w:Bytes) (ts:List Tok):S2 u (printedS r w ts) (printedS r' w (ts ++ u)):=by
  unfold printedS
  rw [starts_q G (Nat.zero_le _)]
  refine S2.ite rfl (fun _=>?_) (fun _=>?_)
  · exact (P_list G H true _).bnd fun a t _=>P_tail G H _ _ _
  · exact S2.ite rfl (fun _=>S2.wrong) (fun _=>P_tail G H _ _ _)
theorem P_simple (G:Good u) (H:SR u r r') (ts:List Tok):S2 u (simpleS r ts) (simpleS r' (ts ++ u)):=by
  unfold simpleS
  refine S2.ite (by rw [Ne,Ne,atKind1 G (Nat.zero_le _) kWord (by decide) (by decide) (by decide)]) (fun _=>?_) (fun h0=>?_)
  · exact (H.expr 1 false _).bnd fun a t _=>S2.ok
  have hp:0 < ts.length:=by
    cases ts with
    | nil=>exact absurd (show ¬ (atS 0 []).1=kWord by decide) h0
    | cons=>simp
  rw [atLt hp,tdrop_app hp,starts_q G hp]
  refine S2.ite rfl (fun _=>P_printed G H _ _) (fun _=>?_)
  refine S2.ite rfl (fun _=>S2.ok) (fun _=>?_)
  refine S2.ite rfl (fun _=>?_) (fun _=>?_)
  · refine S2.ite rfl (fun _=>?_) (fun _=>S2.ok)
    exact (H.expr 1 false _).bnd fun a t _=>S2.ok
  refine S2.ite rfl (fun _=>?_) (fun _=>S2.wrong)
  refine (kind_app G (by decide) (by decide) (by decide)).bnd fun x t _=>?_
  refine (need_app G (by decide) (by decide)).bnd fun _ t _=>?_
  exact (P_subs G H _).bnd fun l t _=>S2.ok
theorem P_paren (G:Good u) (H:SR u r r') (ts:List Tok):S2 u (parenS r ts) (parenS r' (ts ++ u)):=by
  unfold parenS
  refine (need_app G (by decide) (by decide)).bnd fun _ t _=>?_
  refine (H.expr 1 false _).bnd fun a t _=>?_
  exact (need_app G (by decide) (by decide)).bnd fun _ t _=>S2.ok
theorem P_body (G:Good u) (H:SR u r r') (ts:List Tok):S2 u (bodyS r ts) (bodyS r' (ts ++ u)):=S2.nls H.statement H.s0
theorem P_choice (G:Good u) (H:SR u r r') (ts:List Tok):S2 u (choiceS r ts) (choiceS r' (ts ++ u)):=by
  unfold choiceS
  refine (P_paren G H ts).bnd fun c t _=>?_
  refine (P_body G H t).bnd fun a t _=>?_
  refine S2.ite ?_ (fun h=>?_) (fun _=>S2.ok)
  · have he:(atS 0 (endsS (t ++ u))=wordT oElse)=(atS 0 (endsS t)=wordT oElse):=by
      rw [ends_app]
      split
      · rename_i e
        rw [e]
        exact propext ⟨fun h=>absurd h G.els,fun h=>absurd h (by decide)⟩
      · exact atWord G (Nat.zero_le _) oElse
    rw [he]
    refine propext ⟨fun h=>⟨?_,h.2⟩,fun h=>⟨?_,h.2⟩⟩
    · have hp:t ≠ []:=by rintro rfl; exact absurd h.2 (by decide)
      have:=h.1
      rwa [atLt (List.length_pos_iff.2 hp)] at this
    · have hp:t ≠ []:=by rintro rfl; exact absurd h.2 (by decide)
      rw [atLt (List.length_pos_iff.2 hp)]
      exact h.1
  · have hp:=atPos h.2 (by decide)
    have e:endsS (t ++ u)=endsS t ++ u:=by rw [ends_app,if_neg (List.length_pos_iff.1 hp)]
    rw [e,tdrop_app hp]
    exact (P_body G H _).bnd fun b t _=>S2.ok
theorem bnd_ne {α β:Type} {m:R α} {k:α->List Tok->R β} (h:∀ a t,m ≠ .ok a t):∀ b t,bnd m k ≠ .ok b t:=by
  intro b t hb
  cases m with
  | out=>cases hb
  | wrong=>cases hb
  | ok a r=>exact h a r rfl
theorem S2.ne {α:Type} {m m':R α} (h:∀ a t,m ≠ .ok a t):S2 u m m':=fun a r hh=>absurd hh (h a r)
theorem S2.bnd2 {α β:Type} {m m':R α} {k k':α->List Tok->R β} (h:∀ a r,m=.ok a r->(∀ b t,k a r ≠ .ok b t) \/ (m'=.ok a (r ++ u)/\S2 u (k a r) (k' a (r ++ u)))):S2 u (Lx.bnd m k) (Lx.bnd m' k'):=by
  cases m with
  | out=>exact S2.out
  | wrong=>exact S2.wrong
  | ok a r =>
    rcases h a r rfl with h | ⟨h1,h2⟩
    · exact S2.ne h
    · rw [h1]; exact h2
theorem S2.imp {α:Type} {c c':Prop} [Decidable c] [Decidable c'] {x x' y':R α} (h:(∀ a t,x ≠ .ok a t) \/ ((c->c')/\S2 u x x')):S2 u (if c then x else .wrong) (if c' then x' else y'):=by
  by_cases hc:c
  · rw [if_pos hc]
    rcases h with h | ⟨h1,h2⟩
    · exact S2.ne h
    · rw [if_pos (h1 hc)]; exact h2
  · rw [if_neg hc]; exact S2.wrong
theorem need0 {t:Tok} (ht:t ≠ ([],[])):∀ a r,needS t [] ≠ .ok a r:=by
  intro a r h
  unfold needS at h
  rw [if_neg (show ¬ atS 0 []=t from Ne.symm ht)] at h
  cases h
theorem need_app2 {t:Tok} (ht:t ≠ ([],[])):S2 u (needS t ts) (needS t (ts ++ u)):=by
  cases ts with
  | nil=>exact S2.ne (need0 ht)
  | cons a ts =>
    unfold needS
    exact S2.ite rfl (fun _=>S2.ok) (fun _=>S2.wrong)
theorem simple0 (H:SR u r r'):∀ a t,simpleS r [] ≠ .ok a t:=by
  unfold simpleS
  rw [if_pos (show (atS 0 []).1 ≠ kWord by decide)]
  exact bnd_ne (H.e0 1 false)
theorem part0 {p:Ps NTree} {w:Bytes} (h0:∀ a t,p [] ≠ .ok a t):∀ a t,partS w p [] ≠ .ok a t:=by
  unfold partS
  refine bnd_ne ?_
  rw [if_neg (by simp [atS,opT,kOp])]
  exact h0
theorem P_part {p p':Ps NTree} {w:Bytes} (hp:∀ ts,S2 u (p ts) (p' (ts ++ u))) (h0:∀ a t,p [] ≠ .ok a t) (ts:List Tok) :
    ∀ a t,partS w p ts=.ok a t->t=[] \/ partS w p' (ts ++ u)=.ok a (t ++ u):=by
  intro a t h
  cases ts with
  | nil=>exact absurd h (part0 h0 a t)
  | cons x ts =>
    unfold partS at h ⊢
    have h1:S2 u (if atS 0 (x :: ts)=opT w then R.ok noneN (x :: ts) else p (x :: ts)) (if atS 0 (x :: ts ++ u)=opT w then R.ok noneN (x :: ts ++ u) else p' (x :: ts ++ u)):=S2.ite rfl (fun _=>S2.ok) (fun _=>hp (x :: ts))
    cases hm:(if atS 0 (x :: ts)=opT w then R.ok noneN (x :: ts) else p (x :: ts)) with
    | out=>rw [hm] at h; cases h
    | wrong=>rw [hm] at h; cases h
    | ok b t1 =>
      rw [hm] at h
      rw [h1 b t1 hm]
      have h2:S2 u (needS (opT w) t1) (needS (opT w) (t1 ++ u)):=need_app2 (by simp [opT,kOp])
      have h:bnd (needS (opT w) t1) (fun _ ts=>R.ok b (nlsS ts))=.ok a t:=h
      show t=[] \/ bnd (needS (opT w) (t1 ++ u)) (fun _ ts=>R.ok b (nlsS ts))=_
      cases hn:needS (opT w) t1 with
      | out=>rw [hn] at h; cases h
      | wrong=>rw [hn] at h; cases h
      | ok c t2 =>
        rw [hn] at h
        rw [h2 c t2 hn]
        have h:R.ok b (nlsS t2)=.ok a t:=h
        cases h
        show _ \/ R.ok a (nlsS (t2 ++ u))=_
        rw [nls_app]
        by_cases e:nlsS t2=[]
        · exact .inl e
        · rw [if_neg e]; exact .inr rfl
theorem P_loop (G:Good u) (H:SR u r r') (ts:List Tok):S2 u (loopS r ts) (loopS r' (ts ++ u)):=by
  unfold loopS
  refine (need_app G (by decide) (by decide)).bnd fun _ t _=>?_
  refine S2.ite ?_ (fun h=>?_) (fun _=>?_)
  · rcases Nat.lt_or_ge 2 t.length with h | h
    · rw [atKind1 G (k:=0) (by omega) kName (by decide) (by decide) (by decide),atWord G (k:=1) (by omega),atKind1 G (k:=2) (by omega) kName (by decide) (by decide) (by decide),atOp G (k:=3) (by omega) [41] (by decide)]
    · refine propext ⟨fun hh=>?_,fun hh=>?_⟩
      · exfalso
        have h1:=hh.1
        have h2:=hh.2.1
        have h3:=hh.2.2.1
        rw [atKind1 G (k:=0) (by omega) kName (by decide) (by decide) (by decide)] at h1
        have l1:1 <= t.length:=kind_pos (ks:=[kName]) (by rw [h1]; exact List.mem_singleton.2 rfl) (by decide)
        rw [atWord G (k:=1) l1] at h2
        have l2:2 <= t.length:=at_pos h2 (by decide)
        rw [atKind1 G (k:=2) l2 kName (by decide) (by decide) (by decide)] at h3
        have e:t.length=2:=by omega
        rw [(atEq (u:=u) e.symm).1] at h3
        exact absurd h3 (by decide)
      · exfalso
        have:4 <= t.length:=at_pos hh.2.2.2 (by decide)
        omega
  · have h4:4 <= t.length:=at_pos h.2.2.2 (by decide)
    rw [atLt (show 0 < t.length by omega),atLt (show 2 < t.length by omega),tdrop_app h4]
    exact (P_body G H _).bnd fun b t _=>S2.ok
  · refine S2.bnd2 fun a t1 h1=>?_
    rcases P_part (P_simple G H) (simple0 H) t a t1 h1 with e | e
    · rw [e]; exact .inl (bnd_ne (part0 (H.e0 1 false)))
    refine .inr ⟨e,?_⟩
    refine S2.bnd2 fun b t2 h2=>?_
    rcases P_part (H.expr 1 false) (H.e0 1 false) t1 b t2 h2 with e | e
    · rw [e]; exact .inl (bnd_ne (part0 (simple0 H)))
    refine .inr ⟨e,?_⟩
    refine S2.bnd2 fun c t3 h3=>?_
    rcases P_part (P_simple G H) (simple0 H) t2 c t3 h3 with e | e
    · rw [e]; exact .inl (bnd_ne H.s0)
    refine .inr ⟨e,?_⟩
    exact (H.statement t3).bnd fun s t _=>S2.ok
theorem ends_nil {t:List Tok} (h:endsS t ≠ []):t ≠ []:=by rintro rfl; exact h rfl
theorem blockL0 (H:SR u r r'):∀ f l a t,blockL r f l [] ≠ .ok a t
  | 0,l,a,t,h=>by rw [blockL] at h; cases h
  | f + 1,l,a,t,h=>by
    rw [blockL,if_neg (show ¬ atS 0 []=opT [125] by decide)] at h
    exact bnd_ne H.s0 a t h
theorem P_blockL (G:Good u) (H:SR u r r'):∀ (f f':Nat) (l:List NTree) (ts:List Tok),f <= f'->S2 u (blockL r f l ts) (blockL r' f' l (ts ++ u))
  | 0,_,_,_,_=>by rw [blockL]; exact S2.out
  | f + 1,0,_,_,h=>by omega
  | f + 1,f' + 1,l,ts,hf=>by
    rw [blockL,blockL]
    refine S2.ite (atOp G (Nat.zero_le _) [125] (by decide)) (fun h=>?_) (fun _=>?_)
    · rw [tdrop_app (atPos h (by decide))]; exact S2.ok
    · refine (H.statement ts).bnd fun s t _=>?_
      by_cases e:endsS t=[]
      · rw [e]; exact S2.imp (.inl (blockL0 H _ _))
      · have hne:=ends_nil e
        have e2:endsS (t ++ u)=endsS t ++ u:=by rw [ends_app,if_neg e]
        refine S2.imp (.inr ⟨?_,?_⟩)
        · rw [atLt (List.length_pos_iff.2 hne),e2,atLt (List.length_pos_iff.2 e)]; exact id
        · rw [e2]; exact P_blockL G H f f' _ _ (by omega)
theorem P_block (G:Good u) (H:SR u r r') (ts:List Tok):S2 u (blockS r ts) (blockS r' (ts ++ u)):=by
  unfold blockS
  refine (need_app G (by decide) (by decide)).bnd fun _ t _=>?_
  by_cases e:endsS t=[]
  · rw [e]; exact S2.ne (blockL0 H _ _)
  · rw [ends_app,if_neg e]; exact P_blockL G H _ _ _ _ H.fuel
theorem block0:∀ a t,blockS r [] ≠ .ok a t:=bnd_ne (need0 (by decide))
theorem stat0 (H:SR u r r'):∀ a t,statementS r [] ≠ .ok a t:=by
  intro a t h
  have e:statementS r []=bnd (simpleS r []) fun e ts=>.ok (e,true) ts:=rfl
  rw [e] at h
  exact bnd_ne (simple0 H) a t h
theorem P_statement (G:Good u) (H:SR u r r') (ts:List Tok):S2 u (statementS r ts) (statementS r' (ts ++ u)):=by
  cases ts with
  | nil=>exact S2.ne (stat0 H)
  | cons x ts =>
    have hp:0 < (x :: ts).length:=by simp
    generalize hy:x :: ts=ys at hp
    unfold statementS
    rw [atLt hp,tdrop_app hp]
    refine S2.ite rfl (fun _=>?_) (fun _=>?_)
    · exact (P_block G H _).bnd fun b t _=>S2.ok
    refine S2.ite rfl (fun _=>S2.ok) (fun _=>?_)
    refine S2.ite rfl (fun _=>P_choice G H _) (fun _=>?_)
    refine S2.ite rfl (fun _=>?_) (fun _=>?_)
    · refine (P_paren G H _).bnd fun c t _=>?_
      exact (P_body G H _).bnd fun c t _=>S2.ok
    refine S2.ite rfl (fun _=>?_) (fun _=>?_)
    · refine (P_body G H _).bnd fun s t _=>?_
      by_cases e:endsS t=[]
      · rw [e]; exact S2.imp (.inl (bnd_ne (need0 (by decide))))
      · have hne:=ends_nil e
        refine S2.imp (.inr ⟨?_,?_⟩)
        · rw [atLt (List.length_pos_iff.2 hne)]; exact id
        · rw [ends_app,if_neg e]
          refine (need_app2 (by decide)).bnd fun _ t _=>?_
          exact (P_paren G H _).bnd fun c t _=>S2.ok
    refine S2.ite rfl (fun _=>P_loop G H _) (fun _=>?_)
    exact (P_simple G H _).bnd fun e t _=>S2.ok
end
theorem e0_of {n:Nat} {r:Rec} (F:FR n r):(∀ least pr a t,r.expr least pr [] ≠ .ok a t)/\∀ a t,r.statement [] ≠ .ok a t:=by
  constructor
  · intro least pr a t h
    have:=F.expr least pr [] (by simp)
    rw [h] at this
    exact absurd this.2 (by simp)
  · intro a t h
    have:=F.statement [] (by simp)
    rw [h] at this
    exact absurd this.2 (by simp)
theorem SR_all {u:List Tok} (G:Good u):∀ n m:Nat,n <= m->SR u (recN n) (recN m)
  | 0,m,h=>⟨Nat.zero_le _,fun _ _ _=>S2.out,fun _=>S2.out,fun _=>S2.out,fun _=>S2.out,fun _=>S2.out,fun _ _ _ _ h=>(nomatch h),fun _ _ h=>(nomatch h)⟩
  | n + 1,0,h=>by omega
  | n + 1,m + 1,h=>by
    have H:=SR_all G n m (by omega)
    have e:=e0_of (FR_all (n + 1))
    exact ⟨by rw [(FR_all (n + 1)).fuel,(FR_all (m + 1)).fuel]; omega,P_expr G H,P_unary G H,P_exponent G H,P_operand G H,P_statement G H,e.1,e.2⟩
section
variable {u ts:List Tok} {r r':Rec}
theorem kind0 {ks:List Bytes} (hk:[] ∉ ks):∀ a t,kindS ks [] ≠ .ok a t:=by
  intro a t h
  unfold kindS at h
  rw [if_neg (show ¬ (atS 0 []).1 ∈ ks from hk)] at h
  cases h
theorem P_paramsL (G:Good u):∀ (f f':Nat) (l:List NTree) (ts:List Tok),f <= f'->S2 u (paramsL f l ts) (paramsL f' l (ts ++ u))
  | 0,_,_,_,_=>by rw [paramsL]; exact S2.out
  | f + 1,0,_,_,h=>by omega
  | f + 1,f' + 1,l,ts,hf=>by
    rw [paramsL,paramsL]
    have h1:S2 u (kindS [kName] (if l=[] then ts else nlsS ts)) (kindS [kName] (if l=[] then ts ++ u else nlsS (ts ++ u))):=by
      by_cases h:l=[]
      · rw [if_pos h,if_pos h]; exact kind_app G (by decide) (by decide) (by decide)
      · rw [if_neg h,if_neg h]; exact S2.nls (fun ts=>kind_app G (by decide) (by decide) (by decide)) (kind0 (by decide))
    refine h1.bnd fun x t _=>?_
    refine S2.ite (atOp G (Nat.zero_le _) [44] (by decide)) (fun h=>?_) (fun _=>?_)
    · rw [tdrop_app (atPos h (by decide))]; exact P_paramsL G f f' _ _ (by omega)
    · exact (need_app G (by decide) (by decide)).bnd fun _ t _=>S2.ok
theorem P_function (G:Good u) (H:SR u r r') (ts:List Tok):S2 u (functionS r ts) (functionS r' (ts ++ u)):=by
  unfold functionS
  refine (kind_app G (by decide) (by decide) (by decide)).bnd fun x t _=>?_
  refine (need_app G (by decide) (by decide)).bnd fun _ t _=>?_
  have h1:S2 u (if atS 0 t=opT [41] then R.ok [] (t.drop 1) else paramsL r.fuel [] t) (if atS 0 (t ++ u)=opT [41] then R.ok [] ((t ++ u).drop 1) else paramsL r'.fuel [] (t ++ u)):=by
    refine S2.ite (atOp G (Nat.zero_le _) [41] (by decide)) (fun h=>?_) (fun _=>P_paramsL G _ _ _ _ H.fuel)
    rw [tdrop_app (atPos h (by decide))]; exact S2.ok
  refine h1.bnd fun l t _=>?_
  exact (S2.nls (P_block G H) block0).bnd fun b t _=>S2.ok
theorem P_blk (G:Good u) (H:SR u r r') (ts:List Tok):S2 u (blkS r ts) (blkS r' (ts ++ u)):=by
  unfold blkS
  refine S2.ite (atOp G (Nat.zero_le _) [123] (by decide)) (fun h=>?_) (fun _=>S2.ok)
  exact (P_block G H _).bnd fun b t _=>S2.ok
theorem P_item (G:Good u) (H:SR u r r') (ts:List Tok):S2 u (itemS r ts) (itemS r' (ts ++ u)):=by
  unfold itemS
  refine S2.ite (atWord G (Nat.zero_le _) oBegin) (fun h=>?_) (fun _=>?_)
  · rw [tdrop_app (atPos h (by decide))]
    exact (P_block G H _).bnd fun b t _=>S2.ok
  refine S2.ite (atWord G (Nat.zero_le _) oEnd) (fun h=>?_) (fun _=>?_)
  · rw [tdrop_app (atPos h (by decide))]
    exact (P_block G H _).bnd fun b t _=>S2.ok
  refine S2.ite (atWord G (Nat.zero_le _) oFunction) (fun h=>?_) (fun _=>?_)
  · rw [tdrop_app (atPos h (by decide))]
    exact (P_function G H _).bnd fun b t _=>S2.ok
  refine S2.ite (atOp G (Nat.zero_le _) [123] (by decide)) (fun h=>?_) (fun _=>?_)
  · exact (P_block G H _).bnd fun b t _=>S2.ok
  refine (H.expr 1 false _).bnd fun a t _=>?_
  refine S2.ite (atOp G (Nat.zero_le _) [44] (by decide)) (fun h=>?_) (fun _=>?_)
  · rw [tdrop_app (atPos h (by decide))]
    refine (S2.nls (H.expr 1 false) (H.e0 1 false)).bnd fun b t _=>?_
    exact (P_blk G H _).bnd fun c t _=>S2.ok
  · exact (P_blk G H _).bnd fun c t _=>S2.ok
theorem P_itemsL (G:Good u) {n m:Nat} (hnm:n <= m) (pre:List NTree):∀ (f:Nat) (l:List NTree) (us:List Tok) (A:List NTree) (t:List Tok),us.length <= 70000->itemsL (recN n) f l (endsS us)=.ok A t->∀ f',us.length + u.length < f' ->
    ∃ g,u.length < g/\itemsL (recN m) f' (pre ++ l) (endsS (us ++ u))=itemsL (recN m) g (pre ++ A) (endsS u)
  | 0,l,us,A,t,_,h,f',_=>by rw [itemsL] at h; cases h
  | f + 1,l,us,A,t,hl,h,f',hf=>by
    rw [itemsL] at h
    by_cases he:endsS us=[]
    · rw [if_pos he] at h
      cases h
      rw [ends_app,if_pos he]
      exact ⟨f',by omega,rfl⟩
    · rw [if_neg he] at h
      rw [ends_app,if_neg he]
      have hel:=ends_len us
      have hQ:=Q_item (FR_all n) (endsS us) (by omega)
      cases hi:itemS (recN n) (endsS us) with
      | out=>rw [hi] at h; cases h
      | wrong=>rw [hi] at h; cases h
      | ok x us' =>
        rw [hi] at h hQ
        obtain ⟨_,hlt⟩:okN x.1/\us'.length < (endsS us).length:=hQ
        have h:(if fineS x.1 1 (whereOf x.1)=true then (if endB (atS 0 us')=true \/ x.2=false \/ endsS us'=[] then itemsL (recN n) f (l ++ [x.1]) (endsS us') else .wrong) else .wrong)=.ok A t:=h
        by_cases hfi:fineS x.1 1 (whereOf x.1)=true
        · rw [if_pos hfi] at h
          by_cases hc:endB (atS 0 us')=true \/ x.2=false \/ endsS us'=[]
          · rw [if_pos hc] at h
            cases f' with
            | zero=>omega
            | succ f' =>
              obtain ⟨g,hg,e⟩:=P_itemsL G hnm pre f (l ++ [x.1]) us' A t (by omega) h f' (by omega)
              refine ⟨g,hg,?_⟩
              rw [itemsL,if_neg (by simp [he]),P_item G (SR_all G n m hnm) _ _ _ hi]
              show (if fineS x.1 1 (whereOf x.1)=true then (if endB (atS 0 (us' ++ u))=true \/ x.2=false \/ endsS (us' ++ u)=[] then itemsL (recN m) f' (pre ++ l ++ [x.1]) (endsS (us' ++ u)) else .wrong) else .wrong)=_
              rw [if_pos hfi,if_pos ?_,List.append_assoc,e]
              by_cases h2:us'=[]
              · subst h2
                rcases G.fst with hu | hu
                · subst hu; exact .inr (.inr rfl)
                · exact .inl hu
              · rcases hc with hc | hc | hc
                · rw [atLt (List.length_pos_iff.2 h2)]; exact .inl hc
                · exact .inr (.inl hc)
                · left
                  rw [atLt (List.length_pos_iff.2 h2)]
                  cases us' with
                  | nil=>exact absurd rfl h2
                  | cons y ys =>
                    rw [endsS] at hc
                    by_cases hy:endB y=true
                    · exact hy
                    · rw [if_neg hy] at hc; cases hc
          · rw [if_neg hc] at h; cases h
        · rw [if_neg hfi] at h; cases h
end
end Go.AD.Lx
set_option linter.unusedVariables false
set_option linter.unusedSimpArgs false
set_option maxRecDepth 100000
namespace Go.AD.Lx
end Go.AD.Lx

set_option linter.unusedVariables false
set_option linter.unusedSimpArgs false
set_option maxRecDepth 100000
namespace Go.AD.Lx
def eL:List Bytes:=[[36,49],[36,50,32,43,32,78,82],[78,70],[36,40,49,41,32,42,32,50],[108,101,110,103,116,104,40,36,48,41]]
def eS (i:Nat):Bytes:=eL.getD (i % 5) []
def letS (i:Nat):Bytes:=[UInt8.ofNat (97 + i % 20)]
def lineS (i:Nat) (z:Int):Bytes :=
  if z=1 then [123,32,115] ++ letS i ++ [32,43,61,32] ++ eS i ++ [32,125]
  else if z=2 then [36,49,32,33,61,32,78,82,32,123,32,116] ++ letS i ++ [91] ++ eS i ++ [93,43,43,32,125]
  else if z=3 then [123,32,105,102,32,40] ++ eS i ++ [32,62,32,109] ++ letS i ++ [41,32,109] ++ letS i ++ [32,61,32] ++ eS i ++ [32,125]
  else [78,82,32,62,32,48,32,123,32,112,114,105,110,116,32] ++ eS i ++ [44,32,78,82,32,125]
def progS:Nat->List Int->Bytes
  | _,[]=>[]
  | i,z :: zs=>lineS i z ++ 10 :: progS (i + 1) zs
def updN:List Int->Nat
  | []=>0
  | z :: zs=>(if 1 <= z/\z <= 3 then 1 else 0) + updN zs
structure GoodC (st:FdS):Prop where
  nd:(st.classes.map (·.1)).Nodup
  short:∀ p ∈ st.classes,p.1.length <= 1000000
  few:st.classes.length <= 1000000
structure FindsOk (s:Bytes) (items:List NTree) (l:List (Bytes × Bytes)):Prop where
  parse:parseS s=some items
  depth:depthNs items < 40
  few:items.length <= 1000000
  ok:okXs items
  good:∀ st,itemsF 40 items ⟨[],[],false⟩=some st->GoodC st
  find:findF 40 items=some l
def ClassLaw:Prop:=∀ zs:List Int,zs.length <= 20->∃ items l,FindsOk (progS 0 zs) items l/\l.length=updN zs
def awA:Bytes:=[123,32,115,32,43,61,32,36,49,59,32,110,91,36,50,93,43,43,32,125,32,47,120,47,32,123,32,108,97,115,116,32,61,32,36,48,32,125]
def awB:Bytes:=[123,32,112,114,105,110,116,32,115,59,32,115,43,43,32,125]
def awL:List (Bytes × Bytes):=[([108,97,115,116],cLast),([110],cSums),([115],cSum)]
structure FindsNo (s:Bytes) (items:List NTree):Prop where
  parse:parseS s=some items
  depth:depthNs items < 40
  few:items.length <= 1000000
  ok:okXs items
  good:∀ st,itemsF 40 items ⟨[],[],false⟩=some st->GoodC st
  find:findF 40 items=none
def AwakeLaw:Prop:=(∃ a,FindsOk awA a awL)/\∃ b,FindsNo awB b
end Go.AD.Lx

set_option linter.unusedVariables false
set_option linter.unusedSimpArgs false
set_option maxRecDepth 100000
namespace Go.AD.Lx
open Go.Proofs RowKit
section
variable {env:Env} {args:List AV} {σ0 σ τ:AS} {K:AV->AS->Prop} {X:PV->AS->Prop} {L Y M:Objs}
def FindA (K:AV->AS->Prop) (σ:AS):Option (List (Bytes × Bytes))->Prop
  | none=>∀ σ',σ.sub σ'->K (.tuple [.nilS,.pv (.bool false)]) σ'
  | some l=>∀ σ' v,σ.sub σ'->toPV v=some (.lst l.length (flatT l))->K (.tuple [v,.pv (.bool true)]) σ'
def T_fFind (m:Nat):Tr:=fun args σ K _=>∃ l:List NTree,args=[.pv (.lst l.length (flatN l))]/\depthNs l < m/\l.length <= 1000000/\okXs l/\(∀ st,itemsF m l ⟨[],[],false⟩=some st->GoodC st)/\FindA K σ (findF m l)
theorem bldFinder {c a:Nat} {K:AV->Prop}:buildD PS 96 [(0,.amap c),(1,.amap a)] K=K (.agg [.amap c,.amap a,.pv (.bool false)]):=by
  simp [buildD,buildFill,go_sem,AV.cells,AV.cellOk,setAll]
theorem bldUpdate {a b:Bytes} {K:AV->Prop}:buildD PS 91 [(0,.pv (.str a)),(1,.pv (.str b))] K=K (.agg [.pv (.str a),.pv (.str b)]):=by
  simp [buildD,buildFill,go_sem,AV.cells,AV.cellOk,setAll]
theorem rowU1 {a b:Bytes} {K:AV->AS->Prop}:buildSliceD PS false σ 38 1 1 [(0,.agg [.pv (.str a),.pv (.str b)])] K=K (.full 1 (flatT [(a,b)])) σ:=by
  simp [buildSliceD,T.el38,T.sz91,T.zo91,T.hT91,elemsFill,toPVs,toPVp,AV.cells,AV.cellOk,flatT,tokPV]
theorem rowTU:RowT PS 38 91:=⟨T.el38,by rw [T.sz91]; decide,_,T.zo91,by rw [T.sz91]; rfl⟩
theorem zBool:zeroV PS 4=some (.pv (.bool false)):=by kernel_rfl
theorem askedGet (l:List Bytes) (k:Bytes):aGet (l.map fun k=>(k,AV.pv (.bool true))) k=if k ∈ l then some (.pv (.bool true)) else none:=by
  unfold aGet
  induction l with
  | nil=>rfl
  | cons x l ih =>
    rw [List.map_cons,List.find?_cons]
    by_cases h:x=k
    · subst h
      simp
    · rw [show ((x,AV.pv (.bool true)).1 == k)=false from beq_eq_false_iff_ne.2 h]
      simp only
      rw [ih]
      have:(k ∈ x :: l)=(k ∈ l):=by
        apply propext
        constructor
        · intro hh
          rcases List.mem_cons.1 hh with hh | hh
          · exact absurd hh.symm h
          · exact hh
        · exact List.mem_cons_of_mem _
      simp only [this]
theorem askedLook {l:List Bytes} {k:Bytes} {id n:Nat} {K:AV->Prop} (hg:σ id=some (.mapO 1 (mapEs (l.map fun k=>(k,.pv (.bool true)))) n)):lookupD PS σ 33 (.amap id) (.pv (.str k)) false K=K (.pv (.bool (decide (k ∈ l)))):=by
  rw [mapLook mapTB keyT zBool hg,askedGet]
  by_cases h:k ∈ l
  · rw [if_pos h,decide_eq_true h]; rfl
  · rw [if_neg h,decide_eq_false h]; rfl
theorem classLook {l:List (Bytes × Bytes)} {k:Bytes} {id n:Nat} {K:AV->Prop} (hg:σ id=some (.mapO 1 (mapEs (l.map fun q=>(q.1,.pv (.str q.2)))) n)):lookupD PS σ 94 (.amap id) (.pv (.str k)) false K=K (.pv (.str ((assocG l k).getD []))):=by
  rw [mapLook mapTS keyT zStr hg,assocG_map]
  cases assocG l k <;> rfl
theorem mkMap {t kt et:TypeId} (ht:mapTy PS t=some (kt,et)) (hk:keyTy PS kt=some 1) {K:AV->AS->Prop} (hK:∀ id,σ id=none->K (.amap id) (σ.set id (.mapO 1 [] 0))):makeMapD PS σ t none K:=by
  unfold makeMapD
  rw [ht]
  simp only [hk]
  exact ⟨trivial,hK⟩
theorem nameAt {xs:List Bytes} {i:Nat} (hi:i < xs.length) {K:AV->Prop} (hK:K (.pv (.str xs[i]))):indexAddrD PS 26 (.pv (.lst xs.length (xs.map .str))) (.pv (.int .i64 (i:Nat))) fun a=>loadD PS σ 9 a K:=by
  rw [T.ixl26 hi (by simp),load_elem T.hT9 T.ag9]
  exact ⟨.str xs[i],by simp [hi],hK⟩
def outU (st:FdS) (l:List Bytes):List (Bytes × Bytes):=l.map fun k=>(k,(assocG st.classes k).getD [])
theorem FAt.classAt {p c a:Nat} {st:FdS} (h:FAt σ0 σ p c a st L):σ c=some (.mapO 1 (mapEs (st.classes.map fun q=>(q.1,.pv (.str q.2)))) (st.classes.map fun q=>((q.1,.pv (.str q.2)):Bytes × AV)).length):=h.sep.get (by simp [FObj,mapA])
theorem FAt.askedAt {p c a:Nat} {st:FdS} (h:FAt σ0 σ p c a st L):σ a=some (.mapO 1 (mapEs (st.asked.map fun k=>(k,.pv (.bool true)))) (st.asked.map fun k=>((k,.pv (.bool true)):Bytes × AV)).length):=h.sep.get (by simp [FObj,mapA])
theorem find_tail {p c a:Nat} {st:FdS} {xs:List Bytes} (hn:xs.length <= 1000000) (hF:FAt σ0 τ p c a st L)
    (hK:FindA K σ0 (if (st.bad || xs.any fun k=>decide (k ∈ st.asked))=true then none else some (outU st xs))) :
    ∃ I13:Nat->List AV->AS->Prop,(∃ m,I13 m [.addr p 0,.nilS,.pv (.lst xs.length (xs.map .str)),.pv (.int .i64 (xs.length:Nat)),.pv (.int .i64 0)] τ)/\∀ (m:Nat) (x0 x1 x2 x3 x4:AV),∀ σ,I13 m [x0,x1,x2,x3,x4] σ ->
      L15_13 env I13 m x0 x1 x2 x3 x4 σ K X:=by
  refine lp15_13 (fun (q:Nat × AV) _=>xs.length - q.1) (fun q τ=>∃ M,RowV PS 91 q.2 M q.1 (flatT (outU st (xs.take q.1)))/\FAt σ0 τ p c a { st with bad:=st.bad || (xs.take q.1).any fun k=>decide (k ∈ st.asked) } (L ++ M)/\q.1 <= xs.length) (fun q=>q.2) (fun q=>.pv (.int .i64 (q.1:Nat))) (0,.nilS) ⟨[],RowV.nil PS 91,by simpa using hF,Nat.zero_le _⟩ ?_
  clear hF
  rintro ⟨i,ov⟩ τ ⟨M,hR,hF,hi⟩
  simp only at hR hF hi
  unfold L15_13
  simp (disch:=omega) only [lock_eq,bin_lss,cond_bool]
  have e1:∀ gi:i < xs.length,(st.bad || (xs.take (i + 1)).any fun k=>decide (k ∈ st.asked))=((st.bad || (xs.take i).any fun k=>decide (k ∈ st.asked)) || decide (xs[i] ∈ st.asked)):=by
    intro gi
    rw [List.take_succ_eq_append_getElem gi,List.any_append]
    simp only [List.any_cons,List.any_nil,Bool.or_false,Bool.or_assoc]
  have e2:∀ gi:i < xs.length,outU st (xs.take (i + 1))=outU st (xs.take i) ++ [(xs[i],(assocG st.classes xs[i]).getD [])]:=by
    intro gi
    rw [List.take_succ_eq_append_getElem gi]
    unfold outU
    rw [List.map_append]
    rfl
  refine iteI (fun g=>?_) (fun g=>?_)
  · have gi:i < xs.length:=by simpa using g
    have e1:=e1 gi
    have e2:=e2 gi
    refine nameAt gi ?_
    have j16:∀ σ',FAt σ0 σ' p c a { st with bad:=st.bad || (xs.take (i + 1)).any fun k=>decide (k ∈ st.asked) } (L ++ M) ->
        J15_16 env (Inv (fun (q:Nat × AV)=>[.addr p 0,q.2,.pv (.lst xs.length (xs.map .str)),.pv (.int .i64 (xs.length:Nat)),.pv (.int .i64 (q.1:Nat))]) (fun (q:Nat × AV) _=>xs.length - q.1) (fun q τ=>∃ M,RowV PS 91 q.2 M q.1 (flatT (outU st (xs.take q.1)))/\FAt σ0 τ p c a { st with bad:=st.bad || (xs.take q.1).any fun k=>decide (k ∈ st.asked) } (L ++ M)/\q.1 <= xs.length)) (xs.length - i) (.addr p 0) ov (.pv (.str xs[i])) (.pv (.lst xs.length (xs.map .str))) (.pv (.int .i64 (xs.length:Nat))) (.pv (.int .i64 (i:Nat))) σ' K X:=by
      intro σ' hF'
      generalize hb:(st.bad || (xs.take (i + 1)).any fun k=>decide (k ∈ st.asked))=bb at hF'
      unfold J15_16
      simp (disch:=omega) only [lock_eq,nil_addr,T.fa96_0,T.ld94,hF'.get,ldM_cells,Nat.zero_add,List.getElem?_cons_zero,List.getElem?_cons_succ,someEx]
      rw [classLook hF'.classAt,bldUpdate,rowU1]
      have hsep:Sep σ0 σ' ((FObj p c a { st with bad:=bb } ++ L) ++ M):=by
        have:=hF'.sep
        rwa [<- List.append_assoc] at this
      refine hR.append hsep rowTU (m:=1) (ys:=flatT [(xs[i],(assocG st.classes xs[i]).getD [])]) rfl (by rw [T.sz91]; rfl) (by omega) (by rw [T.by91]; omega) (by omega) (fun v' M' σ2 hR2 hS2=>?_)
      rw [add1 (by omega)]
      refine back (i + 1,v') rfl (by simp only; omega) ⟨M',?_,⟨?_⟩,gi⟩
      · simp only
        rw [e2,flatT_app]
        exact hR2
      · simp only
        rw [hb,<- List.append_assoc]
        exact hS2
    simp (disch:=omega) only [nil_addr,fld2,T.fa96_1,T.ld4,T.ld33,hF.get,ldM_cells,Nat.zero_add,List.getElem?_cons_zero,List.getElem?_cons_succ,someEx,guard_false]
    refine iteI (fun g3=>?_) (fun g3=>?_)
    · refine hF.setBad (fun σ9 hF9=>j16 σ9 ?_)
      rw [e1,show (st.bad || (xs.take i).any fun k=>decide (k ∈ st.asked))=true from g3]
      exact hF9
    · rw [askedLook hF.askedAt]
      refine hF.setBad (fun σ9 hF9=>j16 σ9 ?_)
      rw [e1,show (st.bad || (xs.take i).any fun k=>decide (k ∈ st.asked))=false from by simpa using g3]
      exact hF9
  · have hil:i=xs.length:=by
      have:¬ i < xs.length:=by simpa using g
      omega
    subst hil
    rw [List.take_length] at hR hF
    simp (disch:=omega) only [nil_addr,fld2,T.ld4,hF.get,ldM_cells,Nat.zero_add,List.getElem?_cons_zero,List.getElem?_cons_succ,someEx]
    refine iteI (fun g3=>?_) (fun g3=>?_)
    · rw [if_pos g3] at hK
      exact retV_self (hK _ hF.sub)
    · rw [if_neg g3] at hK
      refine retV_self (hK _ _ hF.sub ?_)
      have:=hR.toPV
      rw [this]
      unfold outU
      rw [List.length_map]
end
end Go.AD.Lx

set_option linter.unusedVariables false
set_option linter.unusedSimpArgs false
set_option maxRecDepth 100000
namespace Go.AD.Lx
open Go.Proofs RowKit
section
variable {env:Env} {args:List AV} {σ0 σ τ:AS} {K:AV->AS->Prop} {X:PV->AS->Prop} {L Y M:Objs}
theorem find_round {I:Nat->List AV->AS->Prop} {m1 p c a i m:Nat} {l:List NTree} {s:FdS} (h3:env 39=Tr.wk (T_fAsk m)) (h4:env 40=Tr.wk (T_fStatement m m))
    (gi:i < l.length) (hl:l.length <= 1000000) (hd:depthNs l < m) (hok:okXs l) (hF:FAt σ0 τ p c a s [])
    (hnext:∀ s' τ',FAt σ0 τ' p c a s' []->itemsF m (l.drop (i + 1)) s'=itemsF m (l.drop i) s->∃ m',m' < m1/\I m' [.addr p 0,.pv (.lst l.length (flatN l)),.pv (.int .i64 (l.length:Nat)),.pv (.int .i64 ((i + 1:Nat)))] τ')
    (hend:itemsF m (l.drop i) s=none->∀ τ',σ0.sub τ'->K (.tuple [.nilS,.pv (.bool false)]) τ') :
    L15_3 env I m1 (.addr p 0) (.pv (.lst l.length (flatN l))) (.pv (.int .i64 (l.length:Nat))) (.pv (.int .i64 (i:Nat))) τ K X:=by
  unfold L15_3
  simp (disch:=omega) only [lock_eq,bin_lss,cond_bool]
  rw [if_pos (by simpa using gi)]
  simp only [node_ix gi,ldK gi,kidD gi]
  have hokn:=okXs_mem hok i gi
  have hdn:=depthNs_mem gi
  rw [List.drop_eq_getElem_cons gi,itemsF] at hnext hend
  generalize l[i]=n at hokn hdn hnext hend ⊢
  obtain ⟨htx,hkl,hkx⟩:=okX_kids hokn
  have hdk:=depthN_kids n
  refine alloc_of T.zo50 rfl (fun t6 ht6=>?_)
  have hF:=hF.alloc ht6 (.cells zeroN (some 50))
  refine storeBox (A:=FObj p c a s) (B:=[]) hF.sep (fun σ6 hS6=>?_)
  have hF6:FAt σ0 σ6 p c a s [boxV t6 (some 50) n]:=⟨hS6⟩
  clear hS6 hF
  have hgn:∀ {σ':AS} {s':FdS},FAt σ0 σ' p c a s' [boxV t6 (some 50) n]->σ' t6=some (.cells [.pv (.str n.op),.pv (.str n.text),.pv (.lst n.kids.length (flatN n.kids))] (some 50)):=fun h=>h.at (by simp [boxV])
  have drop:∀ {σ':AS} {s':FdS},FAt σ0 σ' p c a s' [boxV t6 (some 50) n]->FAt σ0 σ' p c a s' []:=fun h=>h.part (List.sublist_cons_self ..)
  simp (disch:=omega) only [T.fa50_0,T.fa50_2,T.ld9,T.ld23,hgn hF6,ldM_cells,Nat.zero_add,List.getElem?_cons_zero,List.getElem?_cons_succ,someEx,bin_seql,guard_true,cond_bool,T.lnl23,bin_eql]
  refine iteI (fun g1=>?_) (fun g1=>?_)
  · have g1:n.op=oRange:=beq_iff_eq.1 g1
    exact retV_self (hend (if_pos g1) _ hF6.sub)
  have g1:¬ n.op=oRange:=fun h=>g1 (beq_iff_eq.2 h)
  rw [if_neg g1] at hnext
  clear hend
  have j8:∀ b:Bool,(b=true ↔ n.op=oRule/\n.kids.length=2)->J15_8 env I m1 (.addr p 0) (.addr t6 0) (.pv (.lst l.length (flatN l))) (.pv (.int .i64 (l.length:Nat))) (.pv (.int .i64 (i:Nat))) (.pv (.bool b)) σ6 K X:=by
    intro b hb
    unfold J15_8
    simp (disch:=omega) only [lock_eq,cond_bool,T.fa50_2,T.ld23,hgn hF6,ldM_cells,Nat.zero_add,List.getElem?_cons_zero,List.getElem?_cons_succ,someEx]
    refine iteI (fun gg=>?_) (fun gg=>?_)
    · have gg:=hb.1 gg
      rw [if_pos gg] at hnext
      have i0:0 < n.kids.length:=by omega
      have i1:1 < n.kids.length:=by omega
      have ix0:∀ K:AV->Prop,indexAddrD PS 23 (.pv (.lst n.kids.length (flatN n.kids))) (.pv (.int .i64 0)) K=K (.elemP (flatN n.kids) (0 * 3)):=fun K=>node_ix (i:=0) i0
      have ix1:∀ K:AV->Prop,indexAddrD PS 23 (.pv (.lst n.kids.length (flatN n.kids))) (.pv (.int .i64 1)) K=K (.elemP (flatN n.kids) (1 * 3)):=fun K=>node_ix (i:=1) i1
      have d0:=kidDepth (n:=n) i0
      have d1:=kidDepth (n:=n) i1
      rw [ix0,ldK i0,rowN1]
      refine askW_call (l:=[n.kids.getD 0 noneN]) h3 rfl hF6 (by rw [depthNs1]; omega) (by simp) ⟨kidOk hokn i0,trivial⟩ (fun σ8 hF8=>?_)
      simp (disch:=omega) only [T.fa50_2,T.ld23,hgn hF8,ldM_cells,Nat.zero_add,List.getElem?_cons_zero,List.getElem?_cons_succ,someEx]
      rw [ix1,ldK i1,rowN1]
      refine stat_call (l:=[n.kids.getD 1 noneN]) h4 rfl hF8 (by rw [depthNs1]; omega) (by rw [depthNs1]; omega) (by simp) ⟨kidOk hokn i1,trivial⟩ (fun σ10 hF10=>?_)
      rw [add1 (by omega)]
      exact hnext _ _ (drop hF10) rfl
    · rw [if_neg (fun h=>gg (hb.2 h))] at hnext
      rw [add1 (by omega)]
      exact hnext _ _ (drop hF6) rfl
  refine iteI (fun g2=>j8 _ ?_) (fun g2=>j8 _ ?_)
  · have g2:n.op=oRule:=beq_iff_eq.1 g2
    constructor
    · intro h; exact ⟨g2,by have:=eq_of_beq h; omega⟩
    · intro h; rw [h.2]; rfl
  · exact ⟨nofun,fun h=>absurd (beq_iff_eq.2 h.1) g2⟩
theorem T_fFind_ok {m:Nat} (h3:env 39=Tr.wk (T_fAsk m)) (h4:env 40=Tr.wk (T_fStatement m m)) (h5:env 42=T_mKeys) (h6:env 41=T_mSorted) (h:T_fFind m args σ K X):bodyD PS env an15 Tryz.f15 args σ K X:=by
  obtain ⟨l,rfl,hd,hl,hok,hgood,hK⟩:=h
  rw [<- S15_eq env,S15]
  simp only [lock_eq,T.lnl23]
  refine mkMap mapTS keyT (fun c hc=>?_)
  have hS:=(Sep.start σ).alloc hc (.mapO 1 [] 0)
  refine mkMap mapTB keyT (fun a ha=>?_)
  have hS:=hS.alloc ha (.mapO 1 [] 0)
  rw [bldFinder]
  refine ⟨rfl,fun p hp=>?_⟩
  have hS:=hS.alloc hp (.cells [.amap c,.amap a,.pv (.bool false)] none)
  have hF:FAt σ _ p c a ⟨[],[],false⟩ []:=⟨hS.perm (List.Perm.cons _ (List.Perm.swap _ _ _))⟩
  clear hS
  refine lp15_3 (fun (q:Nat × FdS) _=>l.length - q.1) (fun q τ=>FAt σ τ p c a q.2 []/\q.1 <= l.length/\itemsF m (l.drop q.1) q.2=itemsF m l ⟨[],[],false⟩) (fun q=>.pv (.int .i64 (q.1:Nat))) (0,⟨[],[],false⟩) ⟨hF,Nat.zero_le _,by rw [List.drop_zero]⟩ ?_
  clear hF hp ha hc
  rintro ⟨i,s⟩ τ ⟨hF,hi,hq⟩
  simp only at hF hi hq
  by_cases gi:i < l.length
  · refine find_round h3 h4 gi hl hd hok hF (fun s' τ' hF' hq'=>?_) (fun hnone τ' hs=>?_)
    · exact back (i + 1,s') rfl (by simp only; omega) ⟨hF',gi,hq'.trans hq⟩
    · have:findF m l=none:=by unfold findF; rw [<- hq,hnone]
      rw [this] at hK
      exact hK _ hs
  · have hi:i=l.length:=by omega
    subst hi
    rw [List.drop_length,itemsF] at hq
    have hg:=hgood s hq.symm
    unfold L15_3
    simp (disch:=omega) only [lock_eq,bin_lss,cond_bool]
    rw [if_neg (by simp)]
    simp (disch:=omega) only [nil_addr,T.fa96_0,T.ld94,hF.get,ldM_cells,Nat.zero_add,List.getElem?_cons_zero,List.getElem?_cons_succ,someEx]
    rw [h5]
    refine ⟨c,rfl,fun t ht=>?_⟩
    have hF2:=hF.alloc ht (.cells [.amap c] (some 94))
    rw [h6]
    have em:(s.classes.map fun q=>((q.1,.pv (.str q.2)):Bytes × AV)).map (·.1)=s.classes.map (·.1):=by rw [List.map_map]; rfl
    refine ⟨t,c,_,s.classes.map fun q=>(q.1,.pv (.str q.2)),rfl,hF2.at (List.mem_cons_self ..),hF2.classAt,rfl,by rw [List.length_map]; exact hg.few,by rw [em]; exact hg.nd,fun q hq=>?_,?_⟩
    · obtain ⟨r,hr,rfl⟩:=List.mem_map.1 hq
      exact hg.short r hr
    rw [em]
    have hlen:(s.classes.map fun q=>((q.1,.pv (.str q.2)):Bytes × AV)).length=(sortS (s.classes.map (·.1))).length:=by rw [sortS_len,List.length_map,List.length_map]
    rw [hlen]
    simp only [T.lnl26]
    have hx:(sortS (s.classes.map (·.1))).length <= 1000000:=by rw [<- hlen,List.length_map]; exact hg.few
    have ef:findF m l=if (s.bad || (sortS (s.classes.map (·.1))).any fun k=>decide (k ∈ s.asked))=true then none else some (outU s (sortS (s.classes.map (·.1)))):=by
      unfold findF
      rw [<- hq]
      rfl
    rw [ef] at hK
    exact find_tail hx hF2 hK
end
end Go.AD.Lx
