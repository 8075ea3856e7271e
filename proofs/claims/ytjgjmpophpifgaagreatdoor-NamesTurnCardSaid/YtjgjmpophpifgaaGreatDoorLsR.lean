import Derived.Test.YtjgjmpophpifgaaGreatDoorLsP
import Derived.Test.YtjgjmpophpifgaaGreatDoorLsQ
import Derived.Test.YtjgjmpophpifgaaGreatDoorM16
import Derived.Test.YtjgjmpophpifgaaGreatDoorG13
set_option linter.unusedVariables false
set_option linter.unusedSimpArgs false
set_option maxRecDepth 100000
namespace Go.AD.Lx
def okO {α:Type} (o:Prop) (m:R α) (A:α->List Tok->Prop):Prop:=match m with
  | .out=>o
  | .wrong=>True
  | .ok a ts=>A a ts
theorem okO_bnd {α β:Type} {o:Prop} {m:R α} {k:α->List Tok->R β} {A:β->List Tok->Prop}:okO o (bnd m k) A=okO o m (fun a ts=>okO o (k a ts) A):=by cases m <;> rfl
theorem okO.imp {α:Type} {o o':Prop} {m:R α} {A B:α->List Tok->Prop} (h:okO o m A) (ho:o->o') (hA:∀ a r,A a r->B a r):okO o' m B:=by
  cases m with
  | out=>exact ho h
  | wrong=>exact h
  | ok a ts=>exact hA a ts h
theorem okNs_iff:∀ {l:List NTree},okNs l ↔ ∀ x ∈ l,okN x
  | []=>by rw [okNs]; simp
  | n :: l=>by rw [okNs,okNs_iff]; simp
def eN (a:NTree):Prop:=okN a/\a.kids.length <= 70000
def eNs (l:List NTree):Prop:=∀ x ∈ l,eN x
theorem eN_mk {op text:Bytes} {l:List NTree} (h:eNs l) (hl:l.length <= 70000):eN (.mk op text l):=⟨by rw [okN,okNs_iff]; exact ⟨by omega,fun x hx=>(h x hx).1⟩,hl⟩
theorem okN_mk {op text:Bytes} {l:List NTree} (h:∀ x ∈ l,okN x) (hl:l.length <= 1000000):okN (.mk op text l):=by rw [okN,okNs_iff]; exact ⟨hl,h⟩
theorem eNs0:eNs []:=by intro x hx; cases hx
theorem eNs1 {a:NTree} (h:eN a):eNs [a]:=by intro x hx; rw [List.mem_singleton] at hx; rw [hx]; exact h
theorem eNs2 {a b:NTree} (h:eN a) (h2:eN b):eNs [a,b]:=by
  intro x hx; simp only [List.mem_cons,List.not_mem_nil,or_false] at hx; rcases hx with rfl | rfl
  · exact h
  · exact h2
theorem eNs_app {a b:List NTree} (h:eNs a) (h2:eNs b):eNs (a ++ b):=by
  intro x hx; rcases List.mem_append.1 hx with hx | hx
  · exact h x hx
  · exact h2 x hx
def Fn {α:Type} (n k:Nat) (P:α->Prop) (f:Ps α):Prop:=∀ ts,ts.length <= 70000->okO (n < 10 * ts.length + k) (f ts) (fun a r=>P a/\r.length < ts.length)
def Fl (n k:Nat) (f:Ps (List NTree)):Prop:=∀ ts,ts.length <= 70000->okO (n < 10 * ts.length + k) (f ts) (fun l r=>eNs l/\l.length + r.length <= ts.length/\r.length < ts.length)
structure FR (n:Nat) (r:Rec):Prop where
  fuel:r.fuel=n
  expr:∀ least pr,Fn n 3 eN (r.expr least pr)
  unary:Fn n 2 eN r.unary
  exponent:Fn n 2 eN r.exponent
  operand:Fn n 1 eN r.operand
  statement:Fn n 4 (fun x=>okN x.1) r.statement
theorem nls_len (ts:List Tok):(nlsS ts).length <= ts.length:=by
  induction ts with
  | nil=>exact Nat.le_refl _
  | cons t ts ih =>
    rw [nlsS]
    split
    · exact Nat.le_succ_of_le ih
    · exact Nat.le_refl _
theorem ends_len (ts:List Tok):(endsS ts).length <= ts.length:=by
  induction ts with
  | nil=>exact Nat.le_refl _
  | cons t ts ih =>
    rw [endsS]
    split
    · exact Nat.le_succ_of_le ih
    · exact Nat.le_refl _
theorem need_len {o:Prop} {t:Tok} (ht:t ≠ ([],[])) (ts:List Tok):okO o (needS t ts) (fun _ r=>r.length + 1=ts.length):=by
  unfold needS
  split
  case isFalse=>trivial
  case isTrue h =>
    cases ts with
    | nil=>exact absurd h.symm ht
    | cons a ts=>rfl
theorem kind_len {o:Prop} {ks:List Bytes} (hk:[] ∉ ks) (ts:List Tok):okO o (kindS ks ts) (fun _ r=>r.length + 1=ts.length):=by
  unfold kindS
  split
  case isFalse=>trivial
  case isTrue h =>
    cases ts with
    | nil=>exact absurd h hk
    | cons a ts=>rfl
theorem atPos {ts:List Tok} {t:Tok} (h:atS 0 ts=t) (ht:t ≠ ([],[])):0 < ts.length:=by
  cases ts with
  | nil=>exact absurd h.symm ht
  | cons a ts=>simp
theorem sign_pos:∀ {l:List Bytes} {ts:List Tok} {s:Bytes},signS l ts=some s->0 < ts.length
  | [],_,_,h=>by cases h
  | a :: l,ts,s,h=>by
    rw [signS] at h
    split at h
    case isTrue h1=>exact atPos h1 (by simp [opT,kOp])
    case isFalse=>exact sign_pos h
theorem stepped_pos {ts:List Tok} {s:Bytes} (h:steppedS ts=some s):0 < ts.length:=by
  unfold steppedS at h
  split at h
  case isTrue h1=>exact atPos h1 (by decide)
  split at h
  case isTrue h1=>exact atPos h1 (by decide)
  cases h
section
variable {n:Nat} {r:Rec}
theorem Q_ahead (H:FR n r) (ts:List Tok) (hl:ts.length <= 70000):okO (n < 10 * ts.length + 1) (aheadS r ts) (fun o r=>match o with
    | none=>r=ts
    | some e=>eN e/\r.length < ts.length):=by
  unfold aheadS
  split
  · rfl
  case h_2 s hs =>
    have hp:=stepped_pos hs
    have hd:(ts.drop 1).length=ts.length - 1:=List.length_drop ..
    rw [okO_bnd]
    refine (H.operand _ (by omega)).imp (by omega) fun a r ⟨h1,h2⟩=>?_
    split
    · exact ⟨eN_mk (eNs1 h1) (by simp),by omega⟩
    · trivial
theorem Q_step (H:FR n r):Fn n 1 eN (stepS r):=by
  intro ts hl
  unfold stepS
  rw [okO_bnd]
  refine (Q_ahead H ts hl).imp id fun o r1 h=>?_
  cases o with
  | some e=>exact h
  | none =>
    dsimp only at h ⊢
    subst h
    rw [okO_bnd]
    refine (H.operand _ hl).imp id fun a r2 ⟨h1,h2⟩=>?_
    have hd:(r2.drop 1).length=r2.length - 1:=List.length_drop ..
    split
    · split
      · exact ⟨eN_mk (eNs1 h1) (by simp),by omega⟩
      · exact ⟨h1,h2⟩
    · exact ⟨h1,h2⟩
theorem Q_power (H:FR n r):Fn n 1 eN (powerS r):=by
  intro ts hl
  unfold powerS
  rw [okO_bnd]
  refine (Q_step H ts hl).imp id fun a r2 ⟨h1,h2⟩=>?_
  have hd:(r2.drop 1).length=r2.length - 1:=List.length_drop ..
  split
  · rw [okO_bnd]
    refine (H.exponent _ (by omega)).imp (by omega) fun x r3 ⟨h3,h4⟩=>?_
    exact ⟨eN_mk (eNs2 h1 h3) (by simp),by omega⟩
  · exact ⟨h1,h2⟩
theorem Q_listL (H:FR n r) (pr:Bool):∀ (f:Nat) (l:List NTree) (ts:List Tok),ts.length < 70000->eNs l->okO (n < 10 * ts.length + 3 \/ f <= ts.length) (listL r pr f l ts) (fun l' r=>eNs l'/\l'.length + r.length <= l.length + ts.length/\r.length <= ts.length)
  | 0,l,ts,_,_=>by rw [listL]; exact .inr (Nat.zero_le _)
  | f + 1,l,ts,hl,he=>by
    rw [listL]
    split
    case isTrue h =>
      have hp:=atPos h (by decide)
      have hd:(ts.drop 1).length=ts.length - 1:=List.length_drop ..
      have hn:=nls_len (ts.drop 1)
      rw [okO_bnd]
      refine (H.expr 1 pr _ (by omega)).imp (by omega) fun a r2 ⟨h1,h2⟩=>?_
      refine (Q_listL H pr f (l ++ [a]) r2 (by omega) (eNs_app he (eNs1 h1))).imp (by omega) fun l' r3 ⟨h3,h4,h5⟩=>?_
      rw [List.length_append,List.length_singleton] at h4
      exact ⟨h3,by omega,by omega⟩
    case isFalse=>exact ⟨he,Nat.le_refl _,Nat.le_refl _⟩
theorem Q_list (H:FR n r) (pr:Bool):Fl n 3 (listS r pr):=by
  intro ts hl
  unfold listS
  rw [okO_bnd]
  refine (H.expr 1 pr ts hl).imp id fun a r2 ⟨h1,h2⟩=>?_
  refine (Q_listL H pr _ [a] r2 (by omega) (eNs1 h1)).imp (by have:=H.fuel; omega) fun l' r3 ⟨h3,h4,h5⟩=>?_
  rw [List.length_singleton] at h4
  exact ⟨h3,by omega,by omega⟩
theorem Q_args (H:FR n r):Fl n 3 (argsS r):=by
  intro ts hl
  unfold argsS
  split
  case isTrue h =>
    have hp:=atPos h (by decide)
    have hd:(ts.drop 1).length=ts.length - 1:=List.length_drop ..
    exact ⟨eNs0,by simp,by omega⟩
  case isFalse =>
    rw [okO_bnd]
    refine (Q_list H false ts hl).imp id fun l r2 ⟨h1,h2,h3⟩=>?_
    rw [okO_bnd]
    refine (need_len (by decide) r2).imp id fun _ r3 h4=>?_
    exact ⟨h1,by omega,by omega⟩
theorem Q_subs (H:FR n r):Fl n 3 (subsS r):=by
  intro ts hl
  unfold subsS
  rw [okO_bnd]
  refine (Q_list H false ts hl).imp id fun l r2 ⟨h1,h2,h3⟩=>?_
  rw [okO_bnd]
  refine (need_len (by decide) r2).imp id fun _ r3 h4=>?_
  exact ⟨h1,by omega,by omega⟩
theorem Q_exprL (H:FR n r) (least:Nat) (pr:Bool):∀ (f:Nat) (left:NTree) (b:Nat) (ts:List Tok),ts.length < 70000->eN left->okO (n < 10 * ts.length + 3 \/ f <= ts.length) (exprL r least pr f left b ts) (fun a r=>eN a/\r.length <= ts.length)
  | 0,left,b,ts,_,_=>by rw [exprL]; exact .inr (Nat.zero_le _)
  | f + 1,left,b,ts,hl,he=>by
    rw [exprL]
    have hd:(ts.drop 1).length=ts.length - 1:=List.length_drop ..
    have hn:=nls_len (ts.drop 1)
    split
    · exact ⟨he,Nat.le_refl _⟩
    case isFalse h0 =>
    have hp:0 < ts.length:=by
      cases ts with
      | nil=>exact absurd (show levelS pr (atS 0 [])=0 by cases pr <;> decide) (fun e=>h0 (.inr (.inr e)))
      | cons=>simp
    split
    · split
      · rw [okO_bnd]
        refine (H.expr 1 pr _ (by omega)).imp (by omega) fun a r2 ⟨h1,h2⟩=>?_
        exact ⟨eN_mk (eNs2 he h1) (by simp),by omega⟩
      · trivial
    split
    · rw [okO_bnd]
      refine (H.expr 1 pr _ (by omega)).imp (by omega) fun a r2 ⟨h1,h2⟩=>?_
      rw [okO_bnd]
      refine (need_len (by decide) r2).imp id fun _ r3 h4=>?_
      have hn:=nls_len r3
      rw [okO_bnd]
      refine (H.expr 1 pr _ (by omega)).imp (by omega) fun c r4 ⟨h5,h6⟩=>?_
      refine ⟨eN_mk ?_ (by simp),by omega⟩
      exact eNs_app (eNs1 he) (eNs2 h1 h5)
    split
    · rw [okO_bnd]
      refine (kind_len (by decide) (ts.drop 1)).imp id fun x r3 h4=>?_
      exact (Q_exprL H least pr f _ 5 r3 (by omega) (eN_mk (eNs1 he) (by simp))).imp (by omega) fun c r4 ⟨h5,h6⟩=>⟨h5,by omega⟩
    split
    · rw [okO_bnd]
      refine (H.expr 9 pr _ (by omega)).imp (by omega) fun a r2 ⟨h1,h2⟩=>?_
      exact (Q_exprL H least pr f _ 8 r2 (by omega) (eN_mk (eNs2 he h1) (by simp))).imp (by omega) fun c r4 ⟨h5,h6⟩=>⟨h5,by omega⟩
    · rw [okO_bnd]
      have hx:(if levelS pr (atS 0 ts) <= 4 then nlsS (ts.drop 1) else ts.drop 1).length <= ts.length - 1:=by split <;> omega
      refine (H.expr _ pr _ (by omega)).imp (by omega) fun a r2 ⟨h1,h2⟩=>?_
      exact (Q_exprL H least pr f _ _ r2 (by omega) (eN_mk (eNs2 he h1) (by simp))).imp (by omega) fun c r4 ⟨h5,h6⟩=>⟨h5,by omega⟩
theorem Q_expr (H:FR n r) (least:Nat) (pr:Bool):Fn (n + 1) 3 eN (exprS r least pr):=by
  intro ts hl
  unfold exprS
  rw [okO_bnd]
  refine (H.unary ts hl).imp (by omega) fun a r2 ⟨h1,h2⟩=>?_
  exact (Q_exprL H least pr _ a 10 r2 (by omega) h1).imp (by have:=H.fuel; omega) fun c r4 ⟨h5,h6⟩=>⟨h5,by omega⟩
theorem Q_unary (H:FR n r):Fn (n + 1) 2 eN (unaryS r):=by
  intro ts hl
  unfold unaryS
  split
  case h_1 s hs =>
    have hp:=sign_pos hs
    have hd:(ts.drop 1).length=ts.length - 1:=List.length_drop ..
    rw [okO_bnd]
    refine (H.unary _ (by omega)).imp (by omega) fun a r2 ⟨h1,h2⟩=>?_
    exact ⟨eN_mk (eNs1 h1) (by simp),by omega⟩
  · exact (Q_power H ts hl).imp (by omega) fun _ _ h=>h
theorem Q_exponent (H:FR n r):Fn (n + 1) 2 eN (exponentS r):=by
  intro ts hl
  unfold exponentS
  split
  case h_1 s hs =>
    have hp:=sign_pos hs
    have hd:(ts.drop 1).length=ts.length - 1:=List.length_drop ..
    rw [okO_bnd]
    refine (H.exponent _ (by omega)).imp (by omega) fun a r2 ⟨h1,h2⟩=>?_
    exact ⟨eN_mk (eNs1 h1) (by simp),by omega⟩
  · exact (Q_power H ts hl).imp (by omega) fun _ _ h=>h
theorem Q_operand (H:FR n r):Fn (n + 1) 1 eN (opndS r):=by
  intro ts hl
  unfold opndS
  split
  · trivial
  case isFalse h0 =>
  have hp:0 < ts.length:=by
    cases ts with
    | nil=>exact absurd rfl h0
    | cons=>simp
  have hd:(ts.drop 1).length=ts.length - 1:=List.length_drop ..
  have hd2:(ts.drop 2).length=ts.length - 2:=List.length_drop ..
  split
  · exact ⟨eN_mk eNs0 (by simp),by omega⟩
  split
  · split
    · rw [okO_bnd]
      exact (Q_subs H _ (by omega)).imp (by omega) fun l r2 ⟨h1,h2,h3⟩=>⟨eN_mk h1 (by omega),by omega⟩
    · exact ⟨eN_mk eNs0 (by simp),by omega⟩
  split
  · rw [okO_bnd]
    exact (Q_args H _ (by omega)).imp (by omega) fun l r2 ⟨h1,h2,h3⟩=>⟨eN_mk h1 (by omega),by omega⟩
  split
  · split
    · rw [okO_bnd]
      exact (Q_args H _ (by omega)).imp (by omega) fun l r2 ⟨h1,h2,h3⟩=>⟨eN_mk h1 (by omega),by omega⟩
    · split
      · exact ⟨eN_mk eNs0 (by simp),by omega⟩
      · trivial
  split
  · rw [okO_bnd]
    refine (Q_list H false _ (by omega)).imp (by omega) fun l r2 ⟨h1,h2,h3⟩=>?_
    rw [okO_bnd]
    refine (need_len (by decide) r2).imp id fun _ r3 h4=>?_
    split
    · exact ⟨eN_mk h1 (by omega),by omega⟩
    split
    · rw [okO_bnd]
      have hd3:(r3.drop 1).length=r3.length - 1:=List.length_drop ..
      exact (kind_len (by decide) (r3.drop 1)).imp id fun x r4 h5=>⟨eN_mk h1 (by omega),by omega⟩
    · exact ⟨eN_mk h1 (by omega),by omega⟩
  split
  · rw [okO_bnd]
    refine (Q_ahead H _ (by omega)).imp (by omega) fun o r1 h=>?_
    cases o with
    | some e=>exact ⟨eN_mk (eNs1 h.1) (by simp),by have:=h.2; omega⟩
    | none =>
      dsimp only at h ⊢
      subst h
      rw [okO_bnd]
      exact (H.operand _ (by omega)).imp (by omega) fun a r2 ⟨h1,h2⟩=>⟨eN_mk (eNs1 h1) (by simp),by omega⟩
  · trivial
theorem unlist_eN {l:List NTree} (h:eNs l):eNs (unlist l) \/ (∀ x ∈ unlist l,okN x):=by
  unfold unlist
  split
  · split
    · rename_i op t ks hop
      have:=(h (.mk op t ks) (List.mem_singleton.2 rfl)).1
      rw [okN,okNs_iff] at this
      exact .inr this.2
    · exact .inl h
  · exact .inl h
theorem unlist_ok {l:List NTree} (h:eNs l):∀ x ∈ unlist l,okN x:=(unlist_eN h).elim (fun h x hx=>(h x hx).1) id
theorem unlist_len {l:List NTree} (h:eNs l) (hl:l.length <= 70000):(unlist l).length <= 70000:=by
  unfold unlist
  split
  · split
    · rename_i op t ks hop
      exact (h (.mk op t ks) (List.mem_singleton.2 rfl)).2
    · simp
  · exact hl
theorem Q_tail (H:FR n r) (w:Bytes) (l:List NTree) (hl:l.length <= 70000) (he:∀ x ∈ l,okN x) (ts:List Tok) (h:ts.length <= 70000):okO (n < 10 * ts.length + 3) (printTail r w l ts) (fun a r=>okN a/\r.length <= ts.length):=by
  unfold printTail
  split
  case h_1 s hs =>
    have hd:(ts.drop 1).length=ts.length - 1:=List.length_drop ..
    rw [okO_bnd]
    refine (H.expr 8 true _ (by omega)).imp (by omega) fun a r2 ⟨h1,h2⟩=>?_
    refine ⟨okN_mk ?_ (by simp; omega),by omega⟩
    intro x hx
    rcases List.mem_append.1 hx with hx | hx
    · exact he x hx
    · rw [List.mem_singleton.1 hx]; exact h1.1
  · exact ⟨okN_mk he (by omega),Nat.le_refl _⟩
theorem Q_printed (H:FR n r) (w:Bytes) (ts:List Tok) (hl:ts.length <= 70000):okO (n < 10 * ts.length + 3) (printedS r w ts) (fun a r=>okN a/\r.length <= ts.length):=by
  unfold printedS
  split
  · rw [okO_bnd]
    refine (Q_list H true ts hl).imp id fun l r2 ⟨h1,h2,h3⟩=>?_
    exact (Q_tail H w _ (unlist_len h1 (by omega)) (unlist_ok h1) r2 (by omega)).imp (by omega) fun a r3 ⟨h4,h5⟩=>⟨h4,by omega⟩
  split
  · trivial
  · exact Q_tail H w [] (by simp) (by simp) ts hl
theorem okN0 {op text:Bytes}:okN (.mk op text []):=okN_mk (by simp) (by simp)
theorem okN1 {op text:Bytes} {a:NTree} (h:okN a):okN (.mk op text [a]):=okN_mk (by simpa using h) (by simp)
theorem okN2 {op text:Bytes} {a b:NTree} (h:okN a) (h2:okN b):okN (.mk op text [a,b]):=okN_mk (by simp [h,h2]) (by simp)
theorem okN3 {op text:Bytes} {a b c:NTree} (h:okN a) (h2:okN b) (h3:okN c):okN (.mk op text [a,b,c]):=okN_mk (by simp [h,h2,h3]) (by simp)
theorem okN4 {op text:Bytes} {a b c d:NTree} (h:okN a) (h2:okN b) (h3:okN c) (h4:okN d):okN (.mk op text [a,b,c,d]):=okN_mk (by simp [h,h2,h3,h4]) (by simp)
theorem kind_pos {ts:List Tok} {ks:List Bytes} (h:(atS 0 ts).1 ∈ ks) (hk:[] ∉ ks):0 < ts.length:=by
  cases ts with
  | nil=>exact absurd h hk
  | cons=>simp
theorem Q_simple (H:FR n r):Fn n 3 okN (simpleS r):=by
  intro ts hl
  have hd:(ts.drop 1).length=ts.length - 1:=List.length_drop ..
  unfold simpleS
  split
  · rw [okO_bnd]
    exact (H.expr 1 false ts hl).imp id fun a r2 ⟨h1,h2⟩=>⟨okN1 h1.1,h2⟩
  case isFalse h0 =>
  have hp:0 < ts.length:=by
    cases ts with
    | nil=>exact absurd (show ¬ (atS 0 []).1=kWord by decide) h0
    | cons=>simp
  split
  · exact (Q_printed H _ _ (by omega)).imp (by omega) fun a r2 ⟨h1,h2⟩=>⟨h1,by omega⟩
  split
  · exact ⟨okN0,by omega⟩
  split
  · split
    · rw [okO_bnd]
      exact (H.expr 1 false _ (by omega)).imp (by omega) fun a r2 ⟨h1,h2⟩=>⟨okN1 h1.1,by omega⟩
    · exact ⟨okN0,by omega⟩
  split
  · rw [okO_bnd]
    refine (kind_len (by decide) _).imp id fun x r2 h2=>?_
    rw [okO_bnd]
    refine (need_len (by decide) r2).imp id fun _ r3 h3=>?_
    rw [okO_bnd]
    exact (Q_subs H _ (by omega)).imp (by omega) fun l r4 ⟨h4,h5,h6⟩=>⟨okN_mk (fun x hx=>(h4 x hx).1) (by omega),by omega⟩
  · trivial
theorem Q_paren (H:FR n r):Fn n 3 eN (parenS r):=by
  intro ts hl
  unfold parenS
  rw [okO_bnd]
  refine (need_len (by decide) ts).imp id fun _ r1 h1=>?_
  rw [okO_bnd]
  refine (H.expr 1 false _ (by omega)).imp (by omega) fun a r2 ⟨h2,h3⟩=>?_
  rw [okO_bnd]
  exact (need_len (by decide) r2).imp id fun _ r3 h4=>⟨h2,by omega⟩
theorem Q_body (H:FR n r):Fn n 4 (fun x=>okN x.1) (bodyS r):=by
  intro ts hl
  have:=nls_len ts
  exact (H.statement (nlsS ts) (by omega)).imp (by omega) fun a r2 ⟨h2,h3⟩=>⟨h2,by omega⟩
theorem Q_choice (H:FR n r):Fn n 4 (fun x=>okN x.1) (choiceS r):=by
  intro ts hl
  unfold choiceS
  rw [okO_bnd]
  refine (Q_paren H ts hl).imp (by omega) fun c r1 ⟨h1,h2⟩=>?_
  rw [okO_bnd]
  refine (Q_body H r1 (by omega)).imp (by omega) fun a r2 ⟨h3,h4⟩=>?_
  split
  · rw [okO_bnd]
    have:=ends_len r2
    have hd:((endsS r2).drop 1).length=(endsS r2).length - 1:=List.length_drop ..
    exact (Q_body H _ (by omega)).imp (by omega) fun b r3 ⟨h5,h6⟩=>⟨okN3 h1.1 h3 h5,by omega⟩
  · exact ⟨okN2 h1.1 h3,by omega⟩
theorem okN_none:okN noneN:=okN0
theorem Q_part {p:Ps NTree} {u:Bytes} (hp:Fn n 3 okN p) (ts:List Tok) (hl:ts.length <= 70000):okO (n < 10 * ts.length + 3) (partS u p ts) (fun a r=>okN a/\r.length < ts.length):=by
  unfold partS
  rw [okO_bnd]
  have h:okO (n < 10 * ts.length + 3) (if atS 0 ts=opT u then .ok noneN ts else p ts) (fun a r=>okN a/\r.length <= ts.length):=by
    split
    · exact ⟨okN_none,Nat.le_refl _⟩
    · exact (hp ts hl).imp id fun a r2 ⟨h2,h3⟩=>⟨h2,by omega⟩
  refine h.imp id fun a r2 ⟨h2,h3⟩=>?_
  rw [okO_bnd]
  refine (need_len (by simp [opT,kOp]) r2).imp id fun _ r3 h4=>?_
  have:=nls_len r3
  exact ⟨h2,by omega⟩
theorem Fn_e {k:Nat} {f:Ps NTree} (h:Fn n k eN f):Fn n k okN f:=fun ts hl=>(h ts hl).imp id fun a r ⟨h1,h2⟩=>⟨h1.1,h2⟩
theorem Q_loop (H:FR n r):Fn n 4 (fun x=>okN x.1) (loopS r):=by
  intro ts hl
  unfold loopS
  rw [okO_bnd]
  refine (need_len (by decide) ts).imp id fun _ r1 h1=>?_
  split
  · have hd:(r1.drop 4).length=r1.length - 4:=List.length_drop ..
    rw [okO_bnd]
    exact (Q_body H _ (by omega)).imp (by omega) fun b r3 ⟨h5,h6⟩=>⟨okN2 okN0 h5,by omega⟩
  · rw [okO_bnd]
    refine (Q_part (Q_simple H) r1 (by omega)).imp (by omega) fun a r2 ⟨h2,h3⟩=>?_
    rw [okO_bnd]
    refine (Q_part (Fn_e (H.expr 1 false)) r2 (by omega)).imp (by omega) fun b r3 ⟨h4,h5⟩=>?_
    rw [okO_bnd]
    refine (Q_part (Q_simple H) r3 (by omega)).imp (by omega) fun c r4 ⟨h6,h7⟩=>?_
    rw [okO_bnd]
    exact (H.statement r4 (by omega)).imp (by omega) fun s r5 ⟨h8,h9⟩=>⟨okN4 h2 h4 h6 h8,by omega⟩
theorem Q_blockL (H:FR n r):∀ (f:Nat) (l:List NTree) (ts:List Tok),l.length + ts.length <= 70000->(∀ x ∈ l,okN x)->okO (n < 10 * ts.length + 4 \/ f <= ts.length) (blockL r f l ts) (fun a r=>okN a/\r.length <= ts.length)
  | 0,l,ts,_,_=>by rw [blockL]; exact .inr (Nat.zero_le _)
  | f + 1,l,ts,hl,he=>by
    rw [blockL]
    have hd:(ts.drop 1).length=ts.length - 1:=List.length_drop ..
    split
    · exact ⟨okN_mk he (by omega),by omega⟩
    · rw [okO_bnd]
      refine (H.statement ts (by omega)).imp (by omega) fun s r1 ⟨h1,h2⟩=>?_
      have:=ends_len r1
      split
      · refine (Q_blockL H f (l ++ [s.1]) (endsS r1) (by simp; omega) ?_).imp (by omega) fun a r2 ⟨h3,h4⟩=>⟨h3,by omega⟩
        intro x hx
        rcases List.mem_append.1 hx with hx | hx
        · exact he x hx
        · rw [List.mem_singleton.1 hx]; exact h1
      · trivial
theorem Q_block (H:FR n r):Fn n 0 okN (blockS r):=by
  intro ts hl
  unfold blockS
  rw [okO_bnd]
  refine (need_len (by decide) ts).imp id fun _ r1 h1=>?_
  have:=ends_len r1
  exact (Q_blockL H _ [] (endsS r1) (by simp; omega) (by simp)).imp (by have:=H.fuel; omega) fun a r2 ⟨h3,h4⟩=>⟨h3,by omega⟩
theorem Q_statement (H:FR n r):Fn (n + 1) 4 (fun x=>okN x.1) (statementS r):=by
  intro ts hl
  have hd:(ts.drop 1).length=ts.length - 1:=List.length_drop ..
  unfold statementS
  split
  · rw [okO_bnd]
    exact (Q_block H ts hl).imp (by omega) fun a r2 h=>h
  split
  case isTrue h =>
    have hp:=atPos h (by decide)
    exact ⟨okN_none,by omega⟩
  split
  case isTrue h =>
    have hp:=atPos h (by decide)
    exact (Q_choice H _ (by omega)).imp (by omega) fun a r2 ⟨h3,h4⟩=>⟨h3,by omega⟩
  split
  case isTrue h =>
    have hp:=atPos h (by decide)
    rw [okO_bnd]
    refine (Q_paren H _ (by omega)).imp (by omega) fun c r1 ⟨h1,h2⟩=>?_
    rw [okO_bnd]
    exact (Q_body H _ (by omega)).imp (by omega) fun b r3 ⟨h5,h6⟩=>⟨okN2 h1.1 h5,by omega⟩
  split
  case isTrue h =>
    have hp:=atPos h (by decide)
    rw [okO_bnd]
    refine (Q_body H _ (by omega)).imp (by omega) fun b r1 ⟨h1,h2⟩=>?_
    have:=ends_len r1
    split
    · rw [okO_bnd]
      refine (need_len (by decide) _).imp id fun _ r2 h3=>?_
      rw [okO_bnd]
      exact (Q_paren H _ (by omega)).imp (by omega) fun c r3 ⟨h4,h5⟩=>⟨okN2 h1 h4.1,by omega⟩
    · trivial
  split
  case isTrue h =>
    have hp:=atPos h (by decide)
    exact (Q_loop H _ (by omega)).imp (by omega) fun a r2 ⟨h3,h4⟩=>⟨h3,by omega⟩
  · rw [okO_bnd]
    exact (Q_simple H ts hl).imp (by omega) fun a r2 h=>h
end
theorem FR_all:∀ n:Nat,FR n (recN n)
  | 0=>⟨rfl,fun _ _ ts _=>show 0 < _ by omega,fun ts _=>show 0 < _ by omega,fun ts _=>show 0 < _ by omega,fun ts _=>show 0 < _ by omega,fun ts _=>show 0 < _ by omega⟩
  | n + 1=>by
    have H:=FR_all n
    exact ⟨by show (recN n).fuel + 1=_; rw [H.fuel],Q_expr H,Q_unary H,Q_exponent H,Q_operand H,Q_statement H⟩
section
variable {n:Nat} {r:Rec}
theorem Q_paramsL:∀ (f:Nat) (l:List NTree) (ts:List Tok),l.length + ts.length <= 70000->(∀ x ∈ l,okN x)->okO (f <= ts.length) (paramsL f l ts) (fun l' r=>(∀ x ∈ l',okN x)/\l'.length <= 70000/\r.length < ts.length)
  | 0,l,ts,_,_=>by rw [paramsL]; exact Nat.zero_le _
  | f + 1,l,ts,hl,he=>by
    rw [paramsL,okO_bnd]
    have hn:=nls_len ts
    have hx:(if l=[] then ts else nlsS ts).length <= ts.length:=by split <;> omega
    refine (kind_len (by decide) _).imp id fun x r1 h1=>?_
    have hd:(r1.drop 1).length=r1.length - 1:=List.length_drop ..
    have he':∀ y ∈ l ++ [NTree.mk oVar x []],okN y:=by
      intro y hy
      rcases List.mem_append.1 hy with hy | hy
      · exact he y hy
      · rw [List.mem_singleton.1 hy]; exact okN0
    have hl':(l ++ [NTree.mk oVar x []]).length=l.length + 1:=by simp
    split
    · exact (Q_paramsL f _ _ (by omega) he').imp (by omega) fun l' r2 ⟨h2,h3,h4⟩=>⟨h2,h3,by omega⟩
    · rw [okO_bnd]
      exact (need_len (by decide) r1).imp id fun _ r3 h4=>⟨he',by omega,by omega⟩
theorem Q_function (H:FR n r):Fn n 4 okN (functionS r):=by
  intro ts hl
  unfold functionS
  rw [okO_bnd]
  refine (kind_len (by decide) _).imp id fun x r1 h1=>?_
  rw [okO_bnd]
  refine (need_len (by decide) r1).imp id fun _ r2 h2=>?_
  rw [okO_bnd]
  have hd:(r2.drop 1).length=r2.length - 1:=List.length_drop ..
  have h:okO (n < 10 * ts.length + 4) (if atS 0 r2=opT [41] then R.ok [] (r2.drop 1) else paramsL r.fuel [] r2) (fun l' r=>(∀ x ∈ l',okN x)/\l'.length <= 70000/\r.length <= r2.length):=by
    split
    · exact ⟨by simp,by simp,by omega⟩
    · exact (Q_paramsL _ [] r2 (by simp; omega) (by simp)).imp (by have:=H.fuel; omega) fun l' r3 ⟨h3,h4,h5⟩=>⟨h3,h4,by omega⟩
  refine h.imp id fun l r3 ⟨h3,h4,h5⟩=>?_
  rw [okO_bnd]
  have hn:=nls_len r3
  exact (Q_block H _ (by omega)).imp (by omega) fun b r4 ⟨h6,h7⟩=>⟨okN2 (okN_mk h3 (by omega)) h6,by omega⟩
theorem Q_blk (H:FR n r) (ts:List Tok) (hl:ts.length <= 70000):okO (n < 10 * ts.length) (blkS r ts) (fun a r=>okN a.1/\r.length <= ts.length):=by
  unfold blkS
  split
  · rw [okO_bnd]
    exact (Q_block H ts hl).imp (by omega) fun b r4 ⟨h6,h7⟩=>⟨h6,by omega⟩
  · exact ⟨okN_none,Nat.le_refl _⟩
theorem Q_item (H:FR n r):Fn n 4 (fun x=>okN x.1) (itemS r):=by
  intro ts hl
  have hd:(ts.drop 1).length=ts.length - 1:=List.length_drop ..
  unfold itemS
  split
  case isTrue h =>
    have hp:=atPos h (by decide)
    rw [okO_bnd]
    exact (Q_block H _ (by omega)).imp (by omega) fun b r4 ⟨h6,h7⟩=>⟨okN1 h6,by omega⟩
  split
  case isTrue h =>
    have hp:=atPos h (by decide)
    rw [okO_bnd]
    exact (Q_block H _ (by omega)).imp (by omega) fun b r4 ⟨h6,h7⟩=>⟨okN1 h6,by omega⟩
  split
  case isTrue h =>
    have hp:=atPos h (by decide)
    rw [okO_bnd]
    exact (Q_function H _ (by omega)).imp (by omega) fun b r4 ⟨h6,h7⟩=>⟨h6,by omega⟩
  split
  · rw [okO_bnd]
    exact (Q_block H ts hl).imp (by omega) fun b r4 ⟨h6,h7⟩=>⟨okN2 okN_none h6,by omega⟩
  · rw [okO_bnd]
    refine (H.expr 1 false ts hl).imp (by omega) fun a r1 ⟨h1,h2⟩=>?_
    have hd1:(r1.drop 1).length=r1.length - 1:=List.length_drop ..
    have hn:=nls_len (r1.drop 1)
    split
    · rw [okO_bnd]
      refine (H.expr 1 false _ (by omega)).imp (by omega) fun b r2 ⟨h3,h4⟩=>?_
      rw [okO_bnd]
      exact (Q_blk H r2 (by omega)).imp (by omega) fun c r3 ⟨h5,h6⟩=>⟨okN3 h1.1 h3.1 h5,by omega⟩
    · rw [okO_bnd]
      exact (Q_blk H r1 (by omega)).imp (by omega) fun c r3 ⟨h5,h6⟩=>⟨okN2 h1.1 h5,by omega⟩
theorem Q_itemsL (H:FR n r):∀ (f:Nat) (l:List NTree) (ts:List Tok),l.length + ts.length <= 70000->okO (n < 10 * ts.length + 4 \/ f <= ts.length) (itemsL r f l ts) (fun l' r=>l'.length <= 70000)
  | 0,l,ts,_=>by rw [itemsL]; exact .inr (Nat.zero_le _)
  | f + 1,l,ts,hl=>by
    rw [itemsL]
    split
    · show l.length <= 70000; omega
    · rw [okO_bnd]
      refine (Q_item H ts (by omega)).imp (by omega) fun s r1 ⟨h1,h2⟩=>?_
      have:=ends_len r1
      split
      · split
        · exact (Q_itemsL H f (l ++ [s.1]) (endsS r1) (by simp; omega)).imp (by omega) fun a r2 h=>h
        · trivial
      · trivial
end
theorem hg_all (n:Nat) (ts:List Tok) (l:List NTree) (ts':List Tok) (h:ts.length <= 70000) (e:listS (recN n) true ts=.ok l ts'):(unlist l).length <= 1000000:=by
  have:=Q_list (FR_all n) true ts h
  rw [e] at this
  have:=unlist_len this.1 (by have:=this.2.1; omega)
  omega
end Go.AD.Lx
set_option linter.unusedVariables false
set_option maxRecDepth 100000
namespace Go.AD.Lx
open Go.Proofs
theorem F_yAt (hm:HM):SoundF PS 74 T_yAt:=body_sound hm ((env0_ok PS)) an74 Tryz.func74 Tryz.call74 S74_ok (fun args σ K X h=>T_yAt_ok h)
theorem F_yOp (hm:HM):SoundF PS 75 T_yOp:=body_sound hm ((env0_ok PS)) an75 Tryz.func75 Tryz.call75 S75_ok (fun args σ K X h=>T_yOp_ok h)
theorem F_yWord (hm:HM):SoundF PS 81 T_yWord:=body_sound hm ((env0_ok PS)) an81 Tryz.func81 Tryz.call81 S81_ok (fun args σ K X h=>T_yWord_ok h)
theorem F_yDrop (hm:HM):SoundF PS 76 T_yDrop:=body_sound hm ((env0_ok PS)) an76 Tryz.func76 Tryz.call76 S76_ok (fun args σ K X h=>T_yDrop_ok h)
theorem F_yNode (hm:HM):SoundF PS 82 T_yNode:=body_sound hm ((env0_ok PS)) an82 Tryz.func82 Tryz.call82 S82_ok (fun args σ K X h=>T_yNode_ok h)
theorem F_yMust (hm:HM):SoundF PS 35 T_yMust:=body_sound hm ((env0_ok PS)) an35 Tryz.func35 Tryz.call35 S35_ok (fun args σ K X h=>T_yMust_ok h)
theorem F_yPlace (hm:HM):SoundF PS 131 T_yPlace:=body_sound hm ((env0_ok PS)) an131 Tryz.func131 Tryz.call131 S131_ok (fun args σ K X h=>T_yPlace_ok h)
theorem F_yCounts (hm:HM):SoundF PS 132 T_yCounts:=body_sound hm ((env0_ok PS)) an132 Tryz.func132 Tryz.call132 S132_ok (fun args σ K X h=>T_yCounts_ok h)
theorem F_yLooped (hm:HM):SoundF PS 87 T_yLooped:=body_sound hm ((env0_ok PS)) an87 Tryz.func87 Tryz.call87 S87_ok (fun args σ K X h=>T_yLooped_ok h)
def envY1:Env:=((((((((((env0.add 133 T_HasSuffix).add 74 T_yAt).add 75 T_yOp).add 81 T_yWord).add 76 T_yDrop).add 82 T_yNode).add 35 T_yMust).add 131 T_yPlace).add 132 T_yCounts).add 87 T_yLooped)
theorem envY1_ok (hm:HM):EnvOk PS envY1:=(EnvOk.add (EnvOk.add (EnvOk.add (EnvOk.add (EnvOk.add (EnvOk.add (EnvOk.add (EnvOk.add (EnvOk.add (EnvOk.add (env0_ok PS) (F_HasSuffix)) (F_yAt hm)) (F_yOp hm)) (F_yWord hm)) (F_yDrop hm)) (F_yNode hm)) (F_yMust hm)) (F_yPlace hm)) (F_yCounts hm)) (F_yLooped hm))
theorem F_yTake (hm:HM):SoundF PS 80 T_yTake:=body_sound hm ((envY1_ok hm)) an80 Tryz.func80 Tryz.call80 S80_ok (fun args σ K X h=>T_yTake_ok ⟨rfl,rfl,rfl,rfl⟩ h)
theorem F_yKind (hm:HM):SoundF PS 128 T_yKind:=body_sound hm ((envY1_ok hm)) an128 Tryz.func128 Tryz.call128 S128_ok (fun args σ K X h=>T_yKind_ok ⟨rfl,rfl,rfl,rfl⟩ h)
theorem F_yNls (hm:HM):SoundF PS 85 T_yNls:=body_sound hm ((envY1_ok hm)) an85 Tryz.func85 Tryz.call85 S85_ok (fun args σ K X h=>T_yNls_ok ⟨rfl,rfl,rfl,rfl⟩ h)
theorem F_yEnds (hm:HM):SoundF PS 36 T_yEnds:=body_sound hm ((envY1_ok hm)) an36 Tryz.func36 Tryz.call36 S36_ok (fun args σ K X h=>T_yEnds_ok ⟨rfl,rfl,rfl,rfl⟩ h)
theorem F_yBegins (hm:HM):SoundF PS 164 T_yBegins:=body_sound hm ((envY1_ok hm)) an164 Tryz.func164 Tryz.call164 S164_ok (fun args σ K X h=>T_yBegins_ok ⟨rfl,rfl,rfl,rfl⟩ h)
theorem F_yNone (hm:HM):SoundF PS 79 T_yNone:=body_sound hm ((envY1_ok hm)) an79 Tryz.func79 Tryz.call79 S79_ok (fun args σ K X h=>T_yNone_ok rfl h)
theorem F_yBuilt (hm:HM):SoundF PS 86 T_yBuilt:=body_sound hm ((envY1_ok hm)) an86 Tryz.func86 Tryz.call86 S86_ok (fun args σ K X h=>T_yBuilt_ok rfl rfl rfl h)
def envY2:Env:=(((((((envY1.add 80 T_yTake).add 128 T_yKind).add 85 T_yNls).add 36 T_yEnds).add 164 T_yBegins).add 79 T_yNone).add 86 T_yBuilt)
theorem envY2_ok (hm:HM):EnvOk PS envY2:=(EnvOk.add (EnvOk.add (EnvOk.add (EnvOk.add (EnvOk.add (EnvOk.add (EnvOk.add (envY1_ok hm) (F_yTake hm)) (F_yKind hm)) (F_yNls hm)) (F_yEnds hm)) (F_yBegins hm)) (F_yNone hm)) (F_yBuilt hm))
theorem F_yNeed (hm:HM):SoundF PS 126 T_yNeed:=body_sound hm ((envY2_ok hm)) an126 Tryz.func126 Tryz.call126 S126_ok (fun args σ K X h=>T_yNeed_ok rfl h)
theorem F_yLevel (hm:HM):SoundF PS 130 T_yLevel:=body_sound hm ((envY2_ok hm)) an130 Tryz.func130 Tryz.call130 S130_ok (fun args σ K X h=>T_yLevel_ok ⟨⟨rfl,rfl,rfl,rfl⟩,rfl⟩ h)
theorem F_yStarts (hm:HM):SoundF PS 182 T_yStarts:=body_sound hm ((envY2_ok hm)) an182 Tryz.func182 Tryz.call182 S182_ok (fun args σ K X h=>T_yStarts_ok ⟨⟨rfl,rfl,rfl,rfl⟩,rfl⟩ h)
def envY3:Env:=(((envY2.add 126 T_yNeed).add 130 T_yLevel).add 182 T_yStarts)
theorem envY3_ok (hm:HM):EnvOk PS envY3:=(EnvOk.add (EnvOk.add (EnvOk.add (envY2_ok hm) (F_yNeed hm)) (F_yLevel hm)) (F_yStarts hm))
theorem F_yStepped (hm:HM):SoundF PS 196 T_yStepped:=body_sound hm ((envY3_ok hm)) an196 Tryz.func196 Tryz.call196 S196_ok (fun args σ K X h=>T_yStepped_ok ⟨⟨⟨rfl,rfl,rfl,rfl⟩,rfl⟩,rfl,rfl,rfl,rfl,rfl,rfl,rfl,rfl,rfl,rfl,rfl⟩ h)
def envY4:Env:=(envY3.add 196 T_yStepped)
theorem envY4_ok (hm:HM):EnvOk PS envY4:=(EnvOk.add (envY3_ok hm) (F_yStepped hm))
theorem F_yFine (hm:HM):∀ m:Nat,SoundF PS 38 (T_yFine m)
  | 0=>by
    rintro w0 hS ρ σ w args us K X H hr ⟨n,d,wh,rfl,_,h1,h2,_⟩
    omega
  | m + 1=>body_sound hm (EnvOk.add (envY4_ok hm) (F_yFine hm m)) an38 Tryz.func38 Tryz.call38 S38_ok (fun args σ K X h=>T_yFine_ok rfl rfl rfl h)
structure FS (r:Rec):Prop where
  expr:SoundF PS 84 (T_E r.expr)
  unary:SoundF PS 129 (T_N r.unary)
  exponent:SoundF PS 185 (T_N r.exponent)
  operand:SoundF PS 195 (T_N r.operand)
  statement:SoundF PS 127 (T_NB r.statement)
section
variable {r:Rec}
def envZ0 (r:Rec):Env:=(((((envY4.add 84 (T_E r.expr)).add 129 (T_N r.unary)).add 185 (T_N r.exponent)).add 195 (T_N r.operand)).add 127 (T_NB r.statement))
theorem envZ0_ok (hm:HM) (H:FS r):EnvOk PS (envZ0 r):=EnvOk.add (EnvOk.add (EnvOk.add (EnvOk.add (EnvOk.add (envY4_ok hm) H.expr) H.unary) H.exponent) H.operand) H.statement
theorem Z_yAhead (hm:HM) (H:FS r) (hf:r.fuel <= 900000) (hg:∀ ts l ts',ts.length <= 70000->listS r true ts=.ok l ts'->(unlist l).length <= 1000000):SoundF PS 194 (T_O (aheadS r)):=body_sound hm (envZ0_ok hm H) an194 Tryz.func194 Tryz.call194 S194_ok (fun args σ K X h=>T_yAhead_ok ⟨⟨⟨rfl,rfl,rfl,rfl⟩,rfl⟩,rfl,rfl,rfl,rfl,rfl,rfl,rfl,rfl,rfl,rfl,rfl⟩ rfl rfl h)
def envZ1 (r:Rec):Env:=(envZ0 r).add 194 (T_O (aheadS r))
theorem envZ1_ok (hm:HM) (H:FS r) (hf:r.fuel <= 900000) (hg:∀ ts l ts',ts.length <= 70000->listS r true ts=.ok l ts'->(unlist l).length <= 1000000):EnvOk PS (envZ1 r):=EnvOk.add (envZ0_ok hm H) (Z_yAhead hm H hf hg)
theorem Z_yStep (hm:HM) (H:FS r) (hf:r.fuel <= 900000) (hg:∀ ts l ts',ts.length <= 70000->listS r true ts=.ok l ts'->(unlist l).length <= 1000000):SoundF PS 184 (T_N (stepS r)):=body_sound hm (envZ1_ok hm H hf hg) an184 Tryz.func184 Tryz.call184 S184_ok (fun args σ K X h=>T_yStep_ok ⟨⟨⟨rfl,rfl,rfl,rfl⟩,rfl⟩,rfl,rfl,rfl,rfl,rfl,rfl,rfl,rfl,rfl,rfl,rfl⟩ rfl rfl rfl h)
def envZ2 (r:Rec):Env:=(envZ1 r).add 184 (T_N (stepS r))
theorem envZ2_ok (hm:HM) (H:FS r) (hf:r.fuel <= 900000) (hg:∀ ts l ts',ts.length <= 70000->listS r true ts=.ok l ts'->(unlist l).length <= 1000000):EnvOk PS (envZ2 r):=EnvOk.add (envZ1_ok hm H hf hg) (Z_yStep hm H hf hg)
theorem Z_yPower (hm:HM) (H:FS r) (hf:r.fuel <= 900000) (hg:∀ ts l ts',ts.length <= 70000->listS r true ts=.ok l ts'->(unlist l).length <= 1000000):SoundF PS 163 (T_N (powerS r)):=body_sound hm (envZ2_ok hm H hf hg) an163 Tryz.func163 Tryz.call163 S163_ok (fun args σ K X h=>T_yPower_ok ⟨⟨⟨rfl,rfl,rfl,rfl⟩,rfl⟩,rfl,rfl,rfl,rfl,rfl,rfl,rfl,rfl,rfl,rfl,rfl⟩ rfl rfl h)
def envZ3 (r:Rec):Env:=(envZ2 r).add 163 (T_N (powerS r))
theorem envZ3_ok (hm:HM) (H:FS r) (hf:r.fuel <= 900000) (hg:∀ ts l ts',ts.length <= 70000->listS r true ts=.ok l ts'->(unlist l).length <= 1000000):EnvOk PS (envZ3 r):=EnvOk.add (envZ2_ok hm H hf hg) (Z_yPower hm H hf hg)
theorem Z_yList (hm:HM) (H:FS r) (hf:r.fuel <= 900000) (hg:∀ ts l ts',ts.length <= 70000->listS r true ts=.ok l ts'->(unlist l).length <= 1000000):SoundF PS 193 (T_LP (listS r)):=body_sound hm (envZ3_ok hm H hf hg) an193 Tryz.func193 Tryz.call193 S193_ok (fun args σ K X h=>T_yList_ok ⟨⟨⟨rfl,rfl,rfl,rfl⟩,rfl⟩,rfl,rfl,rfl,rfl,rfl,rfl,rfl,rfl,rfl,rfl,rfl⟩ rfl hf h)
def envZ4 (r:Rec):Env:=(envZ3 r).add 193 (T_LP (listS r))
theorem envZ4_ok (hm:HM) (H:FS r) (hf:r.fuel <= 900000) (hg:∀ ts l ts',ts.length <= 70000->listS r true ts=.ok l ts'->(unlist l).length <= 1000000):EnvOk PS (envZ4 r):=EnvOk.add (envZ3_ok hm H hf hg) (Z_yList hm H hf hg)
theorem Z_yArgs (hm:HM) (H:FS r) (hf:r.fuel <= 900000) (hg:∀ ts l ts',ts.length <= 70000->listS r true ts=.ok l ts'->(unlist l).length <= 1000000):SoundF PS 199 (T_L (argsS r)):=body_sound hm (envZ4_ok hm H hf hg) an199 Tryz.func199 Tryz.call199 S199_ok (fun args σ K X h=>T_yArgs_ok ⟨⟨⟨rfl,rfl,rfl,rfl⟩,rfl⟩,rfl,rfl,rfl,rfl,rfl,rfl,rfl,rfl,rfl,rfl,rfl⟩ rfl h)
def envZ5 (r:Rec):Env:=(envZ4 r).add 199 (T_L (argsS r))
theorem envZ5_ok (hm:HM) (H:FS r) (hf:r.fuel <= 900000) (hg:∀ ts l ts',ts.length <= 70000->listS r true ts=.ok l ts'->(unlist l).length <= 1000000):EnvOk PS (envZ5 r):=EnvOk.add (envZ4_ok hm H hf hg) (Z_yArgs hm H hf hg)
theorem Z_ySubs (hm:HM) (H:FS r) (hf:r.fuel <= 900000) (hg:∀ ts l ts',ts.length <= 70000->listS r true ts=.ok l ts'->(unlist l).length <= 1000000):SoundF PS 183 (T_L (subsS r)):=body_sound hm (envZ5_ok hm H hf hg) an183 Tryz.func183 Tryz.call183 S183_ok (fun args σ K X h=>T_ySubs_ok ⟨⟨⟨rfl,rfl,rfl,rfl⟩,rfl⟩,rfl,rfl,rfl,rfl,rfl,rfl,rfl,rfl,rfl,rfl,rfl⟩ rfl h)
def envZ6 (r:Rec):Env:=(envZ5 r).add 183 (T_L (subsS r))
theorem envZ6_ok (hm:HM) (H:FS r) (hf:r.fuel <= 900000) (hg:∀ ts l ts',ts.length <= 70000->listS r true ts=.ok l ts'->(unlist l).length <= 1000000):EnvOk PS (envZ6 r):=EnvOk.add (envZ5_ok hm H hf hg) (Z_ySubs hm H hf hg)
theorem Z_yPrinted (hm:HM) (H:FS r) (hf:r.fuel <= 900000) (hg:∀ ts l ts',ts.length <= 70000->listS r true ts=.ok l ts'->(unlist l).length <= 1000000):SoundF PS 181 (T_W (printedS r)):=body_sound hm (envZ6_ok hm H hf hg) an181 Tryz.func181 Tryz.call181 S181_ok (fun args σ K X h=>T_yPrinted_ok ⟨⟨⟨rfl,rfl,rfl,rfl⟩,rfl⟩,rfl,rfl,rfl,rfl,rfl,rfl,rfl,rfl,rfl,rfl,rfl⟩ rfl rfl hg h)
def envZ7 (r:Rec):Env:=(envZ6 r).add 181 (T_W (printedS r))
theorem envZ7_ok (hm:HM) (H:FS r) (hf:r.fuel <= 900000) (hg:∀ ts l ts',ts.length <= 70000->listS r true ts=.ok l ts'->(unlist l).length <= 1000000):EnvOk PS (envZ7 r):=EnvOk.add (envZ6_ok hm H hf hg) (Z_yPrinted hm H hf hg)
theorem Z_ySimple (hm:HM) (H:FS r) (hf:r.fuel <= 900000) (hg:∀ ts l ts',ts.length <= 70000->listS r true ts=.ok l ts'->(unlist l).length <= 1000000):SoundF PS 162 (T_N (simpleS r)):=body_sound hm (envZ7_ok hm H hf hg) an162 Tryz.func162 Tryz.call162 S162_ok (fun args σ K X h=>T_ySimple_ok ⟨⟨⟨rfl,rfl,rfl,rfl⟩,rfl⟩,rfl,rfl,rfl,rfl,rfl,rfl,rfl,rfl,rfl,rfl,rfl⟩ rfl rfl rfl h)
def envZ8 (r:Rec):Env:=(envZ7 r).add 162 (T_N (simpleS r))
theorem envZ8_ok (hm:HM) (H:FS r) (hf:r.fuel <= 900000) (hg:∀ ts l ts',ts.length <= 70000->listS r true ts=.ok l ts'->(unlist l).length <= 1000000):EnvOk PS (envZ8 r):=EnvOk.add (envZ7_ok hm H hf hg) (Z_ySimple hm H hf hg)
theorem Z_yParen (hm:HM) (H:FS r) (hf:r.fuel <= 900000) (hg:∀ ts l ts',ts.length <= 70000->listS r true ts=.ok l ts'->(unlist l).length <= 1000000):SoundF PS 159 (T_N (parenS r)):=body_sound hm (envZ8_ok hm H hf hg) an159 Tryz.func159 Tryz.call159 S159_ok (fun args σ K X h=>T_yParen_ok ⟨⟨⟨rfl,rfl,rfl,rfl⟩,rfl⟩,rfl,rfl,rfl,rfl,rfl,rfl,rfl,rfl,rfl,rfl,rfl⟩ rfl h)
def envZ9 (r:Rec):Env:=(envZ8 r).add 159 (T_N (parenS r))
theorem envZ9_ok (hm:HM) (H:FS r) (hf:r.fuel <= 900000) (hg:∀ ts l ts',ts.length <= 70000->listS r true ts=.ok l ts'->(unlist l).length <= 1000000):EnvOk PS (envZ9 r):=EnvOk.add (envZ8_ok hm H hf hg) (Z_yParen hm H hf hg)
theorem Z_yBody (hm:HM) (H:FS r) (hf:r.fuel <= 900000) (hg:∀ ts l ts',ts.length <= 70000->listS r true ts=.ok l ts'->(unlist l).length <= 1000000):SoundF PS 160 (T_NB (bodyS r)):=body_sound hm (envZ9_ok hm H hf hg) an160 Tryz.func160 Tryz.call160 S160_ok (fun args σ K X h=>T_yBody_ok ⟨⟨⟨rfl,rfl,rfl,rfl⟩,rfl⟩,rfl,rfl,rfl,rfl,rfl,rfl,rfl,rfl,rfl,rfl,rfl⟩ rfl h)
def envZ10 (r:Rec):Env:=(envZ9 r).add 160 (T_NB (bodyS r))
theorem envZ10_ok (hm:HM) (H:FS r) (hf:r.fuel <= 900000) (hg:∀ ts l ts',ts.length <= 70000->listS r true ts=.ok l ts'->(unlist l).length <= 1000000):EnvOk PS (envZ10 r):=EnvOk.add (envZ9_ok hm H hf hg) (Z_yBody hm H hf hg)
theorem Z_yChoice (hm:HM) (H:FS r) (hf:r.fuel <= 900000) (hg:∀ ts l ts',ts.length <= 70000->listS r true ts=.ok l ts'->(unlist l).length <= 1000000):SoundF PS 158 (T_NB (choiceS r)):=body_sound hm (envZ10_ok hm H hf hg) an158 Tryz.func158 Tryz.call158 S158_ok (fun args σ K X h=>T_yChoice_ok ⟨⟨⟨rfl,rfl,rfl,rfl⟩,rfl⟩,rfl,rfl,rfl,rfl,rfl,rfl,rfl,rfl,rfl,rfl,rfl⟩ rfl rfl h)
def envZ11 (r:Rec):Env:=(envZ10 r).add 158 (T_NB (choiceS r))
theorem envZ11_ok (hm:HM) (H:FS r) (hf:r.fuel <= 900000) (hg:∀ ts l ts',ts.length <= 70000->listS r true ts=.ok l ts'->(unlist l).length <= 1000000):EnvOk PS (envZ11 r):=EnvOk.add (envZ10_ok hm H hf hg) (Z_yChoice hm H hf hg)
theorem Z_yLoop1 (hm:HM) (H:FS r) (hf:r.fuel <= 900000) (hg:∀ ts l ts',ts.length <= 70000->listS r true ts=.ok l ts'->(unlist l).length <= 1000000):SoundF PS 180 (T_CN (r.expr 1 false)):=body_sound hm (envZ11_ok hm H hf hg) an180 Tryz.func180 Tryz.call180 S180_ok (fun args σ K X h=>T_yLoop1_ok ⟨⟨⟨rfl,rfl,rfl,rfl⟩,rfl⟩,rfl,rfl,rfl,rfl,rfl,rfl,rfl,rfl,rfl,rfl,rfl⟩ rfl h)
def envZ12 (r:Rec):Env:=(envZ11 r).add 180 (T_CN (r.expr 1 false))
theorem envZ12_ok (hm:HM) (H:FS r) (hf:r.fuel <= 900000) (hg:∀ ts l ts',ts.length <= 70000->listS r true ts=.ok l ts'->(unlist l).length <= 1000000):EnvOk PS (envZ12 r):=EnvOk.add (envZ11_ok hm H hf hg) (Z_yLoop1 hm H hf hg)
theorem Z_yPart (hm:HM) (H:FS r) (hf:r.fuel <= 900000) (hg:∀ ts l ts',ts.length <= 70000->listS r true ts=.ok l ts'->(unlist l).length <= 1000000):SoundF PS 179 (T_yPart r):=body_sound hm (envZ12_ok hm H hf hg) an179 Tryz.func179 Tryz.call179 S179_ok (fun args σ K X h=>T_yPart_ok ⟨⟨⟨rfl,rfl,rfl,rfl⟩,rfl⟩,rfl,rfl,rfl,rfl,rfl,rfl,rfl,rfl,rfl,rfl,rfl⟩ rfl rfl h)
def envZ13 (r:Rec):Env:=(envZ12 r).add 179 (T_yPart r)
theorem envZ13_ok (hm:HM) (H:FS r) (hf:r.fuel <= 900000) (hg:∀ ts l ts',ts.length <= 70000->listS r true ts=.ok l ts'->(unlist l).length <= 1000000):EnvOk PS (envZ13 r):=EnvOk.add (envZ12_ok hm H hf hg) (Z_yPart hm H hf hg)
theorem Z_yLoop (hm:HM) (H:FS r) (hf:r.fuel <= 900000) (hg:∀ ts l ts',ts.length <= 70000->listS r true ts=.ok l ts'->(unlist l).length <= 1000000):SoundF PS 161 (T_NB (loopS r)):=body_sound hm (envZ13_ok hm H hf hg) an161 Tryz.func161 Tryz.call161 S161_ok (fun args σ K X h=>T_yLoop_ok ⟨⟨⟨rfl,rfl,rfl,rfl⟩,rfl⟩,rfl,rfl,rfl,rfl,rfl,rfl,rfl,rfl,rfl,rfl,rfl⟩ rfl rfl rfl h)
def envZ14 (r:Rec):Env:=(envZ13 r).add 161 (T_NB (loopS r))
theorem envZ14_ok (hm:HM) (H:FS r) (hf:r.fuel <= 900000) (hg:∀ ts l ts',ts.length <= 70000->listS r true ts=.ok l ts'->(unlist l).length <= 1000000):EnvOk PS (envZ14 r):=EnvOk.add (envZ13_ok hm H hf hg) (Z_yLoop hm H hf hg)
theorem Z_yBlock (hm:HM) (H:FS r) (hf:r.fuel <= 900000) (hg:∀ ts l ts',ts.length <= 70000->listS r true ts=.ok l ts'->(unlist l).length <= 1000000):SoundF PS 78 (T_N (blockS r)):=body_sound hm (envZ14_ok hm H hf hg) an78 Tryz.func78 Tryz.call78 S78_ok (fun args σ K X h=>T_yBlock_ok ⟨⟨⟨rfl,rfl,rfl,rfl⟩,rfl⟩,rfl,rfl,rfl,rfl,rfl,rfl,rfl,rfl,rfl,rfl,rfl⟩ rfl hf h)
def envZ15 (r:Rec):Env:=(envZ14 r).add 78 (T_N (blockS r))
theorem envZ15_ok (hm:HM) (H:FS r) (hf:r.fuel <= 900000) (hg:∀ ts l ts',ts.length <= 70000->listS r true ts=.ok l ts'->(unlist l).length <= 1000000):EnvOk PS (envZ15 r):=EnvOk.add (envZ14_ok hm H hf hg) (Z_yBlock hm H hf hg)
theorem Z_yFunction (hm:HM) (H:FS r) (hf:r.fuel <= 900000) (hg:∀ ts l ts',ts.length <= 70000->listS r true ts=.ok l ts'->(unlist l).length <= 1000000):SoundF PS 83 (T_N (functionS r)):=body_sound hm (envZ15_ok hm H hf hg) an83 Tryz.func83 Tryz.call83 S83_ok (fun args σ K X h=>T_yFunction_ok ⟨⟨⟨rfl,rfl,rfl,rfl⟩,rfl⟩,rfl,rfl,rfl,rfl,rfl,rfl,rfl,rfl,rfl,rfl,rfl⟩ rfl hf h)
def envZ16 (r:Rec):Env:=(envZ15 r).add 83 (T_N (functionS r))
theorem envZ16_ok (hm:HM) (H:FS r) (hf:r.fuel <= 900000) (hg:∀ ts l ts',ts.length <= 70000->listS r true ts=.ok l ts'->(unlist l).length <= 1000000):EnvOk PS (envZ16 r):=EnvOk.add (envZ15_ok hm H hf hg) (Z_yFunction hm H hf hg)
theorem Z_yItem1 (hm:HM) (H:FS r) (hf:r.fuel <= 900000) (hg:∀ ts l ts',ts.length <= 70000->listS r true ts=.ok l ts'->(unlist l).length <= 1000000):SoundF PS 77 (T_CNB (blkS r)):=body_sound hm (envZ16_ok hm H hf hg) an77 Tryz.func77 Tryz.call77 S77_ok (fun args σ K X h=>T_yItem1_ok ⟨⟨⟨rfl,rfl,rfl,rfl⟩,rfl⟩,rfl,rfl,rfl,rfl,rfl,rfl,rfl,rfl,rfl,rfl,rfl⟩ rfl h)
def envZ17 (r:Rec):Env:=(envZ16 r).add 77 (T_CNB (blkS r))
theorem envZ17_ok (hm:HM) (H:FS r) (hf:r.fuel <= 900000) (hg:∀ ts l ts',ts.length <= 70000->listS r true ts=.ok l ts'->(unlist l).length <= 1000000):EnvOk PS (envZ17 r):=EnvOk.add (envZ16_ok hm H hf hg) (Z_yItem1 hm H hf hg)
theorem Z_yItem (hm:HM) (H:FS r) (hf:r.fuel <= 900000) (hg:∀ ts l ts',ts.length <= 70000->listS r true ts=.ok l ts'->(unlist l).length <= 1000000):SoundF PS 37 (T_NB (itemS r)):=body_sound hm (envZ17_ok hm H hf hg) an37 Tryz.func37 Tryz.call37 S37_ok (fun args σ K X h=>T_yItem_ok ⟨⟨⟨rfl,rfl,rfl,rfl⟩,rfl⟩,rfl,rfl,rfl,rfl,rfl,rfl,rfl,rfl,rfl,rfl,rfl⟩ rfl rfl rfl rfl h)
def envZ18 (r:Rec):Env:=(envZ17 r).add 37 (T_NB (itemS r))
theorem envZ18_ok (hm:HM) (H:FS r) (hf:r.fuel <= 900000) (hg:∀ ts l ts',ts.length <= 70000->listS r true ts=.ok l ts'->(unlist l).length <= 1000000):EnvOk PS (envZ18 r):=EnvOk.add (envZ17_ok hm H hf hg) (Z_yItem hm H hf hg)
theorem Z_yExpr (hm:HM) (H:FS r) (hf:r.fuel <= 900000) (hg:∀ ts l ts',ts.length <= 70000->listS r true ts=.ok l ts'->(unlist l).length <= 1000000):SoundF PS 84 (T_E (exprS r)):=body_sound hm (envZ18_ok hm H hf hg) an84 Tryz.func84 Tryz.call84 S84_ok (fun args σ K X h=>T_yExpr_ok ⟨⟨⟨rfl,rfl,rfl,rfl⟩,rfl⟩,rfl,rfl,rfl,rfl,rfl,rfl,rfl,rfl,rfl,rfl,rfl⟩ rfl rfl h)
theorem Z_yUnary (hm:HM) (H:FS r) (hf:r.fuel <= 900000) (hg:∀ ts l ts',ts.length <= 70000->listS r true ts=.ok l ts'->(unlist l).length <= 1000000):SoundF PS 129 (T_N (unaryS r)):=body_sound hm (envZ18_ok hm H hf hg) an129 Tryz.func129 Tryz.call129 S129_ok (fun args σ K X h=>T_yUnary_ok ⟨⟨⟨rfl,rfl,rfl,rfl⟩,rfl⟩,rfl,rfl,rfl,rfl,rfl,rfl,rfl,rfl,rfl,rfl,rfl⟩ rfl rfl h)
theorem Z_yExponent (hm:HM) (H:FS r) (hf:r.fuel <= 900000) (hg:∀ ts l ts',ts.length <= 70000->listS r true ts=.ok l ts'->(unlist l).length <= 1000000):SoundF PS 185 (T_N (exponentS r)):=body_sound hm (envZ18_ok hm H hf hg) an185 Tryz.func185 Tryz.call185 S185_ok (fun args σ K X h=>T_yExponent_ok ⟨⟨⟨rfl,rfl,rfl,rfl⟩,rfl⟩,rfl,rfl,rfl,rfl,rfl,rfl,rfl,rfl,rfl,rfl,rfl⟩ rfl rfl h)
theorem Z_yOperand (hm:HM) (H:FS r) (hf:r.fuel <= 900000) (hg:∀ ts l ts',ts.length <= 70000->listS r true ts=.ok l ts'->(unlist l).length <= 1000000):SoundF PS 195 (T_N (opndS r)):=body_sound hm (envZ18_ok hm H hf hg) an195 Tryz.func195 Tryz.call195 S195_ok (fun args σ K X h=>T_yOperand_ok ⟨⟨⟨rfl,rfl,rfl,rfl⟩,rfl⟩,rfl,rfl,rfl,rfl,rfl,rfl,rfl,rfl,rfl,rfl,rfl⟩ rfl rfl rfl rfl rfl h)
theorem Z_yStatement (hm:HM) (H:FS r) (hf:r.fuel <= 900000) (hg:∀ ts l ts',ts.length <= 70000->listS r true ts=.ok l ts'->(unlist l).length <= 1000000):SoundF PS 127 (T_NB (statementS r)):=body_sound hm (envZ18_ok hm H hf hg) an127 Tryz.func127 Tryz.call127 S127_ok (fun args σ K X h=>T_yStatement_ok ⟨⟨⟨rfl,rfl,rfl,rfl⟩,rfl⟩,rfl,rfl,rfl,rfl,rfl,rfl,rfl,rfl,rfl,rfl,rfl⟩ rfl rfl rfl rfl rfl rfl h)
end
theorem FS_all (hm:HM):∀ n:Nat,n <= 900000->FS (recN n)
  | 0,_=>⟨fun w0 hS ρ σ w args us K X H hr ⟨_,_,_,_,_,_,_,_,_,h⟩=>False.elim h,fun w0 hS ρ σ w args us K X H hr ⟨_,_,_,_,_,_,h⟩=>False.elim h,fun w0 hS ρ σ w args us K X H hr ⟨_,_,_,_,_,_,h⟩=>False.elim h,fun w0 hS ρ σ w args us K X H hr ⟨_,_,_,_,_,_,h⟩=>False.elim h,fun w0 hS ρ σ w args us K X H hr ⟨_,_,_,_,_,_,h⟩=>False.elim h⟩
  | n + 1,hn=>by
    have H:=FS_all hm n (by omega)
    have hf:(recN n).fuel <= 900000:=by rw [(FR_all n).fuel]; omega
    have hg:=hg_all n
    exact ⟨Z_yExpr hm H hf hg,Z_yUnary hm H hf hg,Z_yExponent hm H hf hg,Z_yOperand hm H hf hg,Z_yStatement hm H hf hg⟩
theorem F_yItem (hm:HM) (n:Nat) (hn:n <= 900000):SoundF PS 37 (T_NB (itemS (recN n))) :=
  Z_yItem hm (FS_all hm n hn) (by rw [(FR_all n).fuel]; omega) (hg_all n)
end Go.AD.Lx
set_option linter.unusedVariables false
set_option linter.unusedSimpArgs false
set_option maxRecDepth 100000
namespace Go.AD.Lx
open Go.Proofs RowKit
def anC:An:={ mu:=[],cut:=[],loop:=[] }
noncomputable def cCy:Code:=subC (bodyC Tryz.f33) [1]
def SCy (t0 t1 rv:AV) (σ:AS) (K:AS->Prop):Prop :=
 (lock binD Tryz.prog .neq 20 rv (.pv .nilIface) fun t7 =>
 (condD t7
  (lock assertD Tryz.prog rv 80 fun t10 =>
  (lock extractD t10 0 fun t11 =>
  (lock extractD t10 1 fun t12 =>
  (lock allocD Tryz.prog σ 80 fun t3 σ1 =>
  (lock storeD Tryz.prog σ1 80 t3 t11 fun σ2 =>
  (unD .not t12 fun t14 =>
  (condD t14
   (lock panicD σ2 rv fun _ _=>False)
   (lock storeD Tryz.prog σ2 23 t0 .nilS fun σ3 =>
   (lock storeD Tryz.prog σ3 4 t1 (.pv (.bool false)) fun σ4 =>
   (K σ4)))))))))) (K σ)))
theorem SCy_eq (env:Env) (t0 t1 rv:AV) (σ:AS) (K:AS->Prop):SCy t0 t1 rv σ K=wpD Tryz.prog env anC cCy (closeQ K) (((frOf 0 [t0,t1]).put (some 5) rv).put (some 2) rv) σ:=by
  unfold SCy
  kernel_rfl
theorem lexLen {s:Bytes} {a:List Tok} (h:lexS s=some a):a.length <= 20000:=by
  have key:∀ (f:Nat) (s:Bytes) (ts a:List Tok),ts.length <= 20000->lexL f s ts=some a->a.length <= 20000:=by
    intro f
    induction f with
    | zero=>intro s ts a _ h; cases h
    | succ f ih =>
      intro s ts a ht h
      rw [lexL] at h
      split at h
      · simp only [Option.some.injEq] at h; rw [<- h]; exact ht
      · split at h
        · cases h
        · split at h
          · rename_i h2; exact ih _ _ _ h2 h
          · cases h
  unfold lexS at h
  split at h
  · exact key _ _ _ _ (by simp) h
  · cases h
section
variable {env:Env} {args:List AV} {σ0 σ τ:AS} {K:AV->AS->Prop} {X:PV->AS->Prop} {l:Nat} {ts:List Tok} {L Y:Objs}
def VarB (t:Nat) (b:Bool):Nat × AObj:=(t,.cells [.pv (.bool b)] (some 4))
def VarO (t:Nat) (v:AV):Nat × AObj:=(t,.cells [v] (some 23))
def T_yClose:TrD:=fun caps σ r K=>∃ (σ0:AS) (t2 t3:Nat) (v:AV) (b:Bool),caps=[.addr t2 0,.addr t3 0]/\Sep σ0 σ [VarB t3 b,VarO t2 v] /\
  (match r with
    | none=>K σ
    | some p=>p=wrongV/\∀ σ',Sep σ0 σ' [VarB t3 false,VarO t2 .nilS]->K σ')
theorem SCy_none {t0 t1:AV} {K:AS->Prop} (h:K σ):SCy t0 t1 (.pv .nilIface) σ K:=by
  unfold SCy
  have hu:PS.underlying 20=some (.interface #[]):=by kernel_rfl
  simp only [lock_eq,binD,eqD,hu]
  exact ⟨by simp,by simpa [condD] using h⟩
theorem SCy_some {t2 t3:Nat} {v:AV} {b:Bool} {K:AS->Prop} (hS:Sep σ0 σ [VarB t3 b,VarO t2 v]) (hK:∀ σ',Sep σ0 σ' [VarB t3 false,VarO t2 .nilS]->K σ'):SCy (.addr t2 0) (.addr t3 0) (.pv wrongV) σ K:=by
  unfold SCy
  have hu:PS.underlying 20=some (.interface #[]):=by kernel_rfl
  have hf:PS.underlying 80=some (.struct #[]):=Tryz.underlying80
  simp only [lock_eq,binD,eqD,hu,wrongV,condD,assertD,hf,true_and,Bool.false_eq_true,if_false,ext_tuple,List.getElem?_cons_zero,List.getElem?_cons_succ,someEx,if_true,Bool.not_false,List.map_nil]
  refine alloc_of T.zo80 rfl (fun t ht=>?_)
  have hS1:=hS.alloc ht (.cells [] (some 80))
  have hg:(σ.set t (.cells [] (some 80))) t=some (.cells [] (some 80)):=set_same _ _ _
  rw [storeD]
  simp only [hg]
  refine ⟨T.hT80,by rw [T.sz80]; rfl,rfl,Nat.le_refl _,?_⟩
  have hS2:Sep σ0 ((σ.set t (.cells [] (some 80))).set t (.cells (setAll [] 0 (AV.agg []).cells) (some 80))) [VarB t3 b,VarO t2 v]:=(hS1.set1 _).drop
  simp only [un_not,Bool.not_true]
  generalize ((σ.set t (.cells [] (some 80))).set t (.cells (setAll [] 0 (AV.agg []).cells) (some 80)))=σ2 at hS2 ⊢
  rw [if_neg (by decide)]
  have g2:σ2 t2=some (.cells [v] (some 23)):=hS2.get (by simp [VarO])
  rw [stA T.hT23 T.sz23 rfl rfl,g2,stM_cells]
  refine ⟨by simp,?_⟩
  have hS3:Sep σ0 (σ2.set t2 (.cells [.nilS] (some 23))) ([VarB t3 b] ++ [VarO t2 .nilS]):=Sep.set (l1:=[_]) (l2:=[]) hS2 _
  show storeD PS (σ2.set t2 (.cells [.nilS] (some 23))) _ _ _ _
  generalize (σ2.set t2 (.cells [.nilS] (some 23)))=σ3 at hS3 ⊢
  have g3:σ3 t3=some (.cells [.pv (.bool b)] (some 4)):=hS3.get (by simp [VarB])
  rw [T.stp4,g3,stM_cells]
  exact ⟨by simp,hK _ (Sep.set1 hS3 _)⟩
theorem F_yClose (hm:HM):SoundDef PS 33 T_yClose:=by
  have hb:∃ id o o',Tryz.f33.body=some (.seq (.region id #[o,o'] false) cCy)/\o.guard=none/\o'.guard=none/\o.dst=some 5/\o'.dst=some 2/\(∀ (a:Act) (w:World),(execOp a.eval o).run PS w=.ok .recover w)/\(∀ (a:Act) (w:World),(execOp a.eval o').run PS w=.ok (.value (a.tmps.getD 5 undef)) w):=⟨_,_,_,rfl,rfl,rfl,rfl,rfl,fun _ _=>rfl,fun _ _=>rfl⟩
  obtain ⟨id,o,o',h1,h2,h3,h4,h5,h6,h7⟩:=hb
  refine closure_sound2 hm (env0_ok PS) anC Tryz.func33 h1 h2 h3 h4 h5 (by decide) (by decide) h6 h7 (by kernel_rfl) (by kernel_rfl) ?_
  rintro args σ r K ⟨σ0,t2,t3,v,b,rfl,hS,hr⟩
  refine ⟨by show (2:Nat) <= Tryz.f33.ntmps; decide,?_⟩
  unfold closureD2
  cases r with
  | none =>
    rw [<- SCy_eq]
    exact SCy_none hr
  | some p =>
    obtain ⟨rfl,hK⟩:=hr
    rw [<- SCy_eq]
    exact SCy_some hS hK
end
end Go.AD.Lx
set_option linter.unusedVariables false
set_option linter.unusedSimpArgs false
set_option maxRecDepth 100000
namespace Go.AD.Lx
open Go.Proofs RowKit
def okL {α:Type}:R α->Option α
  | .ok l _=>some l
  | _=>none
def parseS (s:Bytes):Option (List NTree):=match lexS s with
  | none=>none
  | some ts=>okL (tokensS (10 * ts.length + 20) ts)
def parseNV:Option (List NTree)->AV
  | none=>.tuple [.pv (.lst 0 []),.pv (.bool false)]
  | some l=>.tuple [.pv (.lst l.length (flatN l)),.pv (.bool true)]
section
variable {env:Env} {args:List AV} {σ0 σ τ:AS} {K:AV->AS->Prop} {X:PV->AS->Prop} {l:Nat} {ts:List Tok} {L Y M:Objs}
def z0N:NTree:=.mk [] [] []
def OutV (v:AV) (M:Objs) (a:List NTree):Prop:=(v=.nilS/\M=[]/\a=[]) \/ ∃ id,v=.msl id 0 a.length 3/\M=[(id,.cells ((flatN a).map .pv) none)]
theorem ldO (k:Nat) {t:Nat} {v:AV} {K:AV->Prop} (h:PsAt σ0 σ l ts L) (hk:L[k]?=some (VarO t v)) (hK:K v):loadD PS σ 23 (.addr t 0) K:=by
  rw [ldA T.hT23 T.ag23,h.at hk,ldM_cells]
  exact ⟨v,rfl,hK⟩
theorem lenO {v:AV} {a:List NTree} (G:OutV v M a) {K:AV->Prop} (hK:K (.pv (.int .i64 (a.length:Nat)))):lenD PS 23 v K:=by
  have hu:PS.underlying 23=some (.slice 50):=Tryz.underlying23
  rcases G with ⟨rfl,rfl,rfl⟩ | ⟨id,rfl,rfl⟩
  · simpa [lenD,hu] using hK
  · simpa [lenD,hu] using hK
theorem rowZ {K:AV->AS->Prop} (hK:K (.full 1 (flatN [z0N])) σ):buildSliceD PS false σ 23 1 1 [(0,.agg [.pv (.str []),.pv (.str []),.nilS])] K:=by
  have h:buildSliceD PS false σ 23 1 1 [(0,.agg [.pv (.str []),.pv (.str []),.nilS])] K=K (.full 1 (flatN [z0N])) σ:=by
    have e:toPV AV.nilS=some (.lst 0 []):=rfl
    simp [buildSliceD,T.el23,T.sz50,T.zo50,T.hT50,elemsFill,AV.cells,toPVs,toPVp,e,AV.cellOk,flatN,nodeCells_eq,z0N,NTree.op,NTree.text,NTree.kids]
  rw [h]; exact hK
theorem appO {v:AV} {a:List NTree} (G:OutV v M a) (h:PsAt σ0 σ l ts (Y ++ M)) (hb:a.length <= 1000000)
    (hK:∀ id σ',PsAt σ0 σ' l ts (Y ++ [(id,.cells ((flatN (a ++ [z0N])).map .pv) none)])->K (.msl id 0 (a.length + 1) 3) σ'):appendD PS true σ 23 v (.full 1 (flatN [z0N])) K:=by
  have l1:(flatN [z0N]).length=1 * szOf PS 50:=by rw [flatN_len,T.sz50]; rfl
  rcases G with ⟨rfl,rfl,rfl⟩ | ⟨id,rfl,rfl⟩
  · rw [List.append_nil] at h
    refine app_nilM rowTN (m:=1) (ys:=flatN [z0N]) rfl l1 (by decide) (by rw [T.by50]; decide) (by decide) ?_
    intro id hid
    rw [T.sz50]
    refine hK id _ ⟨?_,h.len,h.fok⟩
    have:=(h.sep.alloc hid (.cells ((flatN [z0N]).map .pv) none))
    exact this.perm (by simpa using (List.perm_append_comm (l₁:=[(id,AObj.cells ((flatN [z0N]).map .pv) none)]) (l₂:=_ :: Y)))
  · have hg:σ id=some (.cells ((flatN a).map .pv) none):=h.objs.get (by simp)
    refine app_msl rowTN (m:=1) (ys:=flatN [z0N]) rfl l1 hg (by rw [T.sz50]) (by rw [List.length_map,flatN_len,T.sz50]; omega) (by rw [T.by50]; omega) (by omega) (by decide) ?_
    intro id2 hid
    have e:((flatN a).map AV.pv).drop 0 ++ (flatN [z0N]).map AV.pv=(flatN (a ++ [z0N])).map AV.pv:=by rw [List.drop_zero,flatN_app,List.map_append]
    rw [e]
    have h1:Sep σ0 (σ.del id) ((l,.cells [.pv (.lst ts.length (flatT ts))] none) :: Y):=by
      have h2:=h.sep.perm (l':=(id,AObj.cells ((flatN a).map .pv) none) :: (l,.cells [.pv (.lst ts.length (flatT ts))] none) :: Y) (by simpa using (List.perm_append_comm (l₁:=(l,AObj.cells [.pv (.lst ts.length (flatT ts))] none) :: Y) (l₂:=[(id,AObj.cells ((flatN a).map .pv) none)])))
      exact h2.del
    have hid':(σ.del id) id2=none:=by
      unfold AS.del
      split
      · rfl
      · exact hid
    refine hK id2 _ ⟨?_,h.len,h.fok⟩
    exact (h1.alloc hid' (.cells ((flatN (a ++ [z0N])).map .pv) none)).perm (by simpa using (List.perm_append_comm (l₁:=[(id2,AObj.cells ((flatN (a ++ [z0N])).map .pv) none)]) (l₂:=_ :: Y)))
theorem ixO {id:Nat} {a:List NTree} {K:AV->Prop} (hK:K (.addr id (a.length * 3))):indexAddrD PS 23 (.msl id 0 (a.length + 1) 3) (.pv (.int .i64 (a.length:Nat))) K:=by
  have hu:PS.underlying 23=some (.slice 50):=Tryz.underlying23
  simp only [indexAddrD,hu,T.sz50,Nat.zero_add,Int.toNat_natCast]
  exact ⟨T.iS50,by omega,by omega,hK⟩
theorem setAll_end (a:List NTree) (n:NTree):setAll ((flatN (a ++ [z0N])).map AV.pv) (a.length * 3) (nodeAV n).cells=(flatN (a ++ [n])).map .pv:=by
  have e:∀ (xs bs cs:List AV),cs.length=bs.length->setAll (xs ++ bs) xs.length cs=xs ++ cs:=by
    intro xs bs cs
    induction cs generalizing xs bs with
    | nil=>intro h; rw [List.length_eq_zero_iff.1 h.symm]; rfl
    | cons c cs ih =>
      intro h
      cases bs with
      | nil=>cases h
      | cons b bs =>
        rw [setAll]
        have:=ih (xs ++ [c]) bs (by simpa using h)
        rw [List.append_assoc,List.append_assoc,List.singleton_append,List.singleton_append,List.length_append,List.length_singleton] at this
        simpa using this
  have h:=e ((flatN a).map .pv) ((flatN [z0N]).map .pv) (nodeAV n).cells (by rw [node_len,List.length_map,flatN_len]; rfl)
  rw [List.length_map,flatN_len,<- List.map_append,<- flatN_app] at h
  rw [h,flatN_app,List.map_append,flatN_one]
  rfl
theorem stE {A B:Objs} {id:Nat} {a:List NTree} {n:NTree} {KS:AS->Prop} (h:PsAt σ0 σ l ts (A ++ (id,.cells ((flatN (a ++ [z0N])).map .pv) none) :: B))
    (hK:∀ σ',PsAt σ0 σ' l ts (A ++ (id,.cells ((flatN (a ++ [n])).map .pv) none) :: B)->KS σ'):storeD PS σ 50 (.addr id (a.length * 3)) (nodeAV n) KS:=by
  have hg:σ id=some (.cells ((flatN (a ++ [z0N])).map .pv) none):=h.objs.get (by simp)
  rw [storeD]
  simp only [hg]
  refine ⟨T.hT50,by rw [T.sz50]; exact node_len _,node_ok _,by rw [node_len,List.length_map,flatN_len,List.length_append,List.length_singleton]; omega,?_⟩
  rw [setAll_end]
  exact hK _ h.turn
theorem stO {A B:Objs} {t:Nat} {v w:AV} {KS:AS->Prop} (h:PsAt σ0 σ l ts (A ++ VarO t v :: B)) (hw:w.cells=[w]) (hc:w.cellOk=true)
    (hK:∀ σ',PsAt σ0 σ' l ts (A ++ VarO t w :: B)->KS σ'):storeD PS σ 23 (.addr t 0) w KS:=by
  have hg:σ t=some (.cells [v] (some 23)):=h.objs.get (by simp [VarO])
  rw [stA T.hT23 T.sz23 hw hc,hg,stM_cells]
  exact ⟨by simp,hK _ (PsAt.turn (A:=A) (B:=B) (o:=.cells [v] (some 23)) (o':=.cells [w] (some 23)) h)⟩
theorem stB {A B:Objs} {t:Nat} {b c:Bool} {KS:AS->Prop} (h:PsAt σ0 σ l ts (A ++ VarB t b :: B))
    (hK:∀ σ',PsAt σ0 σ' l ts (A ++ VarB t c :: B)->KS σ'):storeD PS σ 4 (.addr t 0) (.pv (.bool c)) KS:=by
  have hg:σ t=some (.cells [.pv (.bool b)] (some 4)):=h.objs.get (by simp [VarB])
  rw [T.stp4,hg,stM_cells]
  exact ⟨by simp,hK _ (PsAt.turn (A:=A) (B:=B) (o:=.cells [.pv (.bool b)] (some 4)) (o':=.cells [.pv (.bool c)] (some 4)) h)⟩
def T_yItemA:Tr:=fun args σ K X=>∃ n,n <= 900000/\T_NB (itemS (recN n)) args σ K X
theorem callItem (h:env 37=T_yItemA) {n:Nat} (hn:n <= 900000) (hP:PsAt σ0 σ l ts Y) (hK:okR (itemS (recN n) ts) (fun a r=>∀ σ',PsAt σ0 σ' l r Y->K (.tuple [nodeAV a.1,.pv (.bool a.2)]) σ') (∀ σ',σ0.sub σ'->X wrongV σ')):env 37 [.addr l 0] σ K X:=by
  rw [h]; exact ⟨n,hn,σ0,l,ts,Y,rfl,hP,hK⟩
theorem callFine (h:env 38=T_yFine 202) {n:NTree} {w:WhereS} (hok:okN n) (hK:K (.pv (.bool (fineS n 1 w))) σ):env 38 [nodeAV n,.pv (.int .i64 1),.agg [.pv (.bool w.next),.pv (.bool w.result),.pv (.bool w.loop)]] σ K X:=by
  rw [h]; exact ⟨n,1,w,rfl,hok,by decide,by decide,hK⟩
theorem must_call (h:env 35=T_yMust) {b:Bool} (h1:b=true->K (.tuple []) σ) (h2:b=false->X wrongV σ):env 35 [.pv (.bool b)] σ K X:=by
  rw [h]; exact ⟨b,rfl,h1,h2⟩
def T_yParse:Tr:=fun args σ K X=>∃ s:Bytes,args=[.pv (.str s)]/\∀ σ',σ.sub σ'->K (parseNV (parseS s)) σ'
theorem bldW {a b:Bool} {K:AV->Prop}:buildD PS 89 [(0,.pv (.bool a)),(1,.pv (.bool b))] K=K (.agg [.pv (.bool a),.pv (.bool b),.pv (.bool false)]):=by
  simp [buildD,buildFill,go_sem,AV.cells,AV.cellOk,setAll]
theorem bldP {n:Nat} {cs:List PV} {K:AV->Prop}:buildD PS 85 [(0,.pv (.lst n cs))] K=K (.agg [.pv (.lst n cs)]):=by
  simp [buildD,buildFill,go_sem,AV.cells,AV.cellOk,setAll]
end
end Go.AD.Lx
set_option linter.unusedVariables false
set_option linter.unusedSimpArgs false
set_option maxRecDepth 100000
namespace Go.AD.Lx
theorem pre40 {a:UInt8} {s:Bytes} (h:a ≠ 40):Lib.hasPrefix (a :: s) [40]=false:=by
  have:([40]:Bytes).isPrefixOf (a :: s)=false:=by
    rw [List.isPrefixOf]
    simp [Ne.symm h]
  simpa [Lib.hasPrefix] using this
theorem tok_shape {s s':Bytes} {ts ts':List Tok} (h:tokenS s ts=some (s',ts')):(ts'=ts/\Lib.hasPrefix s [40]=false) \/ ∃ k w,ts'=ts ++ [(k,w)]/\(k=kFunc->Lib.hasPrefix s' [40]=true):=by
  have pre:∀ n:Nat,n ≠ 40->(s.getD 0 0).toNat=n->Lib.hasPrefix s [40]=false:=by
    intro n hn h
    cases s with
    | nil=>rfl
    | cons a s =>
      have:a ≠ 40:=by rintro rfl; exact hn h.symm
      exact pre40 this
  have q:∀ q e kind,kind ≠ kFunc->quoteTok q e kind s ts=some (s',ts')->∃ k w,ts'=ts ++ [(k,w)]/\(k=kFunc->Lib.hasPrefix s' [40]=true):=by
    intro q e kind hk h
    unfold quoteTok at h
    split at h
    · cases h
    · cases h; exact ⟨_,_,rfl,fun e=>absurd e hk⟩
  unfold tokenS at h
  split at h
  case isTrue h1=>cases h; exact .inl ⟨rfl,h1.elim (pre 32 (by decide)) (pre 9 (by decide))⟩
  split at h
  case isTrue h1 =>
    cases h
    refine .inl ⟨rfl,?_⟩
    cases s with
    | nil=>rfl
    | cons a s =>
      refine pre40 ?_
      rintro rfl
      cases s <;> simp [Lib.hasPrefix,List.isPrefixOf] at h1
  split at h
  case isTrue h1=>cases h; exact .inl ⟨rfl,pre 35 (by decide) h1⟩
  refine .inr ?_
  split at h
  · cases h; exact ⟨_,_,rfl,fun e=>absurd e (by decide)⟩
  split at h
  · cases h; exact ⟨_,_,rfl,fun e=>absurd e (by decide)⟩
  split at h
  · exact q _ _ _ (by decide) h
  split at h
  · exact q _ _ _ (by decide) h
  split at h
  · unfold nameS at h
    split at h
    · cases h
    · cases h
      refine ⟨_,_,rfl,fun e=>?_⟩
      split at e
      · exact absurd e (by decide)
      split at e
      · exact absurd e (by decide)
      split at e
      · assumption
      · exact absurd e (by decide)
  · unfold opTok at h
    split at h
    · cases h; exact ⟨_,_,rfl,fun e=>absurd e (by decide)⟩
    split at h
    · cases h; exact ⟨_,_,rfl,fun e=>absurd e (by decide)⟩
    · cases h
theorem lexL_func:∀ (f:Nat) (s:Bytes) (ts a:List Tok),(∀ i,(ts.getD i ([],[])).1=kFunc->i + 1 < ts.length \/ Lib.hasPrefix s [40]=true)->lexL f s ts=some a->FuncOk a
  | 0,_,_,_,_,h=>by cases h
  | f + 1,s,ts,a,hf,h=>by
    rw [lexL] at h
    split at h
    case isTrue hs =>
      cases h
      intro i hi
      rcases hf i hi with h | h
      · exact h
      · rw [hs] at h; exact absurd h (by decide)
    split at h
    · cases h
    rename_i s' ts' ht
    split at h
    case isFalse=>cases h
    refine lexL_func f s' ts' a ?_ h
    intro i hi
    rcases tok_shape ht with ⟨rfl,h0⟩ | ⟨k,w,rfl,hk⟩
    · exact (hf i hi).elim .inl (fun h=>absurd h (by rw [h0]; decide))
    · rw [List.length_append,List.length_singleton]
      rcases Nat.lt_trichotomy i ts.length with h1 | h1 | h1
      · exact .inl (by omega)
      · right
        apply hk
        rw [h1] at hi
        simpa using hi
      · exfalso
        have e:(ts ++ [(k,w)]).getD i ([],[])=([],[]):=by
          rw [List.getD_eq_getElem?_getD,List.getElem?_eq_none (by simp; omega)]; rfl
        rw [e] at hi
        exact absurd hi (by decide)
theorem lexS_func {s:Bytes} {a:List Tok} (h:lexS s=some a):FuncOk a:=by
  unfold lexS at h
  split at h
  · exact lexL_func _ _ _ _ (fun i hi=>by simp at hi; exact absurd hi (by decide)) h
  · cases h
end Go.AD.Lx
set_option linter.unusedVariables false
set_option linter.unusedSimpArgs false
set_option maxRecDepth 100000
namespace Go.AD.Lx
open Go.Proofs RowKit
section
variable {env:Env} {args:List AV} {σ0 σ τ:AS} {K:AV->AS->Prop} {X:PV->AS->Prop} {l:Nat} {ts:List Tok} {L Y M:Objs}
theorem res_none {t2 t3:Nat} (hS:Sep σ0 σ [VarB t3 false,VarO t2 .nilS]) (hK:∀ σ',σ0.sub σ'->K (parseNV none) σ'):resP12 (.addr t2 0) (.addr t3 0) (frzK K) σ:=by
  unfold resP12
  have h2:σ t2=some (.cells [.nilS] (some 23)):=hS.get (by simp [VarO])
  have h3:σ t3=some (.cells [.pv (.bool false)] (some 4)):=hS.get (by simp [VarB])
  simp only [lock_eq,ldA T.hT23 T.ag23,h2,T.ld4,h3,ldM_cells,List.getElem?_cons_zero,someEx]
  exact ⟨parseNV none,σ,.inr ⟨.inr ⟨_,rfl,rfl⟩,.inl rfl,trivial⟩,sub_refl σ,.inl (hK σ hS.sub)⟩
theorem res_some {t2 t3:Nat} {v:AV} {a:List NTree} (hS:Sep σ0 σ ([VarB t3 true,VarO t2 v] ++ M)) (G:OutV v M a) (hK:∀ σ',σ0.sub σ'->K (parseNV (some a)) σ'):resP12 (.addr t2 0) (.addr t3 0) (frzK K) σ:=by
  unfold resP12
  have h2:σ t2=some (.cells [v] (some 23)):=hS.get (by simp [VarO])
  have h3:σ t3=some (.cells [.pv (.bool true)] (some 4)):=hS.get (by simp [VarB])
  simp only [lock_eq,ldA T.hT23 T.ag23,h2,T.ld4,h3,ldM_cells,List.getElem?_cons_zero,someEx]
  rcases G with ⟨rfl,rfl,rfl⟩ | ⟨id,rfl,rfl⟩
  · exact ⟨parseNV (some []),σ,.inr ⟨.inr ⟨_,rfl,by rw [flatN]; rfl⟩,.inl rfl,trivial⟩,sub_refl σ,.inl (hK σ hS.sub)⟩
  · have hg:σ id=some (.cells ((flatN a).map .pv) none):=hS.get (by simp)
    refine retV_self (.inr ⟨id,a.length,3,_,none,flatN a,[.pv (.bool true)],rfl,hg,?_,?_⟩)
    · rw [List.take_of_length_le (by rw [List.length_map,flatN_len]; exact Nat.le_refl _)]
      exact toPVs_pv _
    · refine hK _ ?_
      have h1:=hS.perm (l':=(id,AObj.cells ((flatN a).map .pv) none) :: [VarB t3 true,VarO t2 (.msl id 0 a.length 3)]) (by simpa using (List.perm_append_comm (l₁:=[VarB t3 true,VarO t2 (.msl id 0 a.length 3)]) (l₂:=[(id,AObj.cells ((flatN a).map .pv) none)])))
      exact h1.del.sub
def parseI (N:Nat) (σ0:AS) (p t2 t3:Nat) (R0:R (List NTree)):Nat × List NTree × List Tok->AS->Prop:=fun a τ =>
  ∃ v M,OutV v M a.2.1/\PsAt σ0 τ p a.2.2 ([VarB t3 true,VarO t2 v] ++ M)/\itemsL (recN N) a.1 a.2.1 a.2.2=R0/\a.2.1.length + a.2.2.length <= 70000
theorem T_yParse_go (hLex:env 34=T_Lex) (hMust:env 35=T_yMust) (hEnds:env 36=T_yEnds) (hItem:env 37=T_yItemA) (hFine:env 38=T_yFine 202) (h:∃ K0,K=frzK K0/\T_yParse args σ K0 X):deferD PS env an12 Tryz.f12 T_yClose cPa12 cPb12 8 [.tmp 2,.tmp 3] args σ K X:=by
  obtain ⟨K0,rfl,s,rfl,hK⟩:=h
  refine ⟨by show (1:Nat) <= Tryz.f12.ntmps; decide,?_⟩
  rw [<- S12_eq env (X:=X)]
  unfold S12
  simp only [lock_eq]
  refine alloc_of T.zo23 rfl (fun t2 ht=>?_)
  have hS:=(Sep.start σ).alloc ht (.cells [.nilS] (some 23))
  generalize hσ1:(σ.set t2 (.cells [.nilS] (some 23)))=σ1 at hS ⊢
  refine alloc_of T.zo4 rfl (fun t3 ht3=>?_)
  have hS:=hS.alloc ht3 (.cells [.pv (.bool false)] (some 4))
  generalize hσ2:(σ1.set t3 (.cells [.pv (.bool false)] (some 4)))=σ2 at hS ⊢
  have bad:parseS s=none->∀ τ v b M,Sep σ τ ([VarB t3 b,VarO t2 v] ++ M)->panP12 T_yClose (.addr t2 0) (.addr t3 0) (.addr t2 0) (.addr t3 0) (frzK K0) wrongV τ:=by
    intro hn τ v b M hS
    rw [hn] at hK
    exact ⟨σ,t2,t3,v,b,rfl,hS.sublist (List.sublist_append_left _ _),rfl,fun σ' hS=>res_none hS hK⟩
  rw [hLex]
  refine ⟨s,rfl,fun σ3 hs=>?_⟩
  have hS:Sep σ σ3 [VarB t3 false,VarO t2 .nilS]:=upS hS hs
  cases hl:lexS s with
  | none =>
    simp only [lexV,ext_tuple,List.getElem?_cons_zero,List.getElem?_cons_succ,someEx]
    have g3:σ3 t3=some (.cells [.pv (.bool false)] (some 4)):=hS.get (by simp [VarB])
    rw [T.stp4,g3,stM_cells,List.set_cons_zero]
    refine ⟨by simp,?_⟩
    have hS:Sep σ (σ3.set t3 (.cells [.pv (.bool false)] (some 4))) [VarB t3 false,VarO t2 .nilS]:=hS.set1 _
    show loadD PS (σ3.set t3 (.cells [.pv (.bool false)] (some 4))) _ _ _
    rw [T.ld4,set_same,ldM_cells]
    refine ⟨_,rfl,must_call hMust (fun e=>absurd e (by decide)) (fun _=>?_)⟩
    exact bad (by unfold parseS; rw [hl]) _ _ _ [] hS
  | some ts =>
    have hlen:=lexLen hl
    have hfo:=lexS_func hl
    simp only [lexV,ext_tuple,List.getElem?_cons_zero,List.getElem?_cons_succ,someEx]
    have g3:σ3 t3=some (.cells [.pv (.bool false)] (some 4)):=hS.get (by simp [VarB])
    rw [T.stp4,g3,stM_cells,List.set_cons_zero]
    refine ⟨by simp,?_⟩
    have hS:Sep σ (σ3.set t3 (.cells [.pv (.bool true)] (some 4))) [VarB t3 true,VarO t2 .nilS]:=hS.set1 _
    show loadD PS (σ3.set t3 (.cells [.pv (.bool true)] (some 4))) _ _ _
    rw [T.ld4,set_same,ldM_cells]
    refine ⟨_,rfl,must_call hMust (fun _=>?_) (fun e=>absurd e (by decide))⟩
    generalize (σ3.set t3 (.cells [.pv (.bool true)] (some 4)))=σ4 at hS ⊢
    rw [bldP]
    refine ⟨rfl,fun p hp=>?_⟩
    have hP:PsAt σ (σ4.set p (.cells [.pv (.lst ts.length (flatT ts))] none)) p ts ([VarB t3 true,VarO t2 .nilS] ++ []):=⟨hS.alloc hp _,by omega,hfo⟩
    show env 36 [.addr p 0] (σ4.set p (.cells [.pv (.lst ts.length (flatT ts))] none)) _ _
    refine yends_call hEnds hP (fun σ5 hP=>?_)
    have hq:parseS s=okL (tokensS (10 * ts.length + 20) ts):=by unfold parseS; simp only [hl]
    have hno:=Q_itemsL (FR_all (10 * ts.length + 20)) (10 * ts.length + 20) [] (endsS ts) (by have:=ends_len ts; simp; omega)
    unfold tokensS at hq
    have hel:=ends_len ts
    generalize hN:10 * ts.length + 20=N at hq hno
    generalize hR0:itemsL (recN N) N [] (endsS ts)=R0 at hq hno
    have hout:R0 ≠ .out:=by
      rintro rfl
      have:N < 10 * (endsS ts).length + 4 \/ N <= (endsS ts).length:=hno
      omega
    refine lp12_6 (fun (a:Nat × List NTree × List Tok) _=>a.1) (parseI N σ p t2 t3 R0) (N,[],endsS ts) ⟨.nilS,[],.inl ⟨rfl,rfl,rfl⟩,hP,hR0,by simp; omega⟩ ?_
    clear hP hS hno hR0
    rintro ⟨f,a,us⟩ τ ⟨v,M,G,hP,hi,hb⟩
    simp only at G hP hi hb
    cases f with
    | zero=>rw [itemsL] at hi; exact absurd hi.symm hout
    | succ f =>
    rw [itemsL] at hi
    unfold L12_6
    have hg:=hP.get
    have hx:us.length <= 70000:=by omega
    simp (disch:=omega) only [lock_eq,nilD,T.fa85_0,Nat.add_zero,T.ld42,hg,ldM_cells,List.getElem?_cons_zero,someEx,T.lnl42,bin_gtr,cond_bool]
    refine iteI (fun g0=>?_) (fun g0=>?_)
    · have hne:us ≠ []:=by rintro rfl; exact absurd g0 (by decide)
      rw [if_neg hne] at hi
      have hQ:=Q_item (FR_all N) us hx
      have hN9:N <= 900000:=by omega
      have hT:=hP.len
      have hF:=hP.fok
      refine Sep.part (hP.sep.perm (by simpa using (List.perm_append_comm (l₁:=[(p,AObj.cells [.pv (.lst us.length (flatT us))] none)]) (l₂:=[VarB t3 true,VarO t2 v] ++ M)))) (r:=[VarB t3 true,VarO t2 v] ++ M) (l:=[(p,AObj.cells [.pv (.lst us.length (flatT us))] none)]) (fun hS1 hback=>?_)
      refine callItem hItem hN9 (Y:=[]) ⟨hS1,hT,hF⟩ ?_
      cases hm:itemS (recN N) us with
      | out=>rw [hm] at hi; exact absurd hi.symm hout
      | wrong =>
        rw [hm] at hi
        have hi:R.wrong=R0:=hi
        rw [<- hi] at hq
        exact fun σ' hs=>bad hq σ' v true M (by simpa using hback σ' [] ⟨hs,by simp,by simp,by simp⟩)
      | ok n us' =>
        rw [hm] at hi hQ
        obtain ⟨hokn,hlt⟩:okN n.1/\us'.length < us.length:=hQ
        have hi:(if fineS n.1 1 (whereOf n.1)=true then (if endB (atS 0 us')=true \/ n.2=false \/ endsS us'=[] then itemsL (recN N) f (a ++ [n.1]) (endsS us') else .wrong) else .wrong)=R0:=hi
        obtain ⟨n,op⟩:=n
        simp only at hi hokn
        show ∀ σ',PsAt _ σ' p us' _->_
        intro σ6 hP
        have hP:PsAt σ σ6 p us' ([VarB t3 true,VarO t2 v] ++ M):=⟨(hback σ6 _ hP.sep).perm (by simpa using (List.perm_append_comm (l₂:=[(p,AObj.cells [.pv (.lst us'.length (flatT us'))] none)]) (l₁:=[VarB t3 true,VarO t2 v] ++ M))),hP.len,hP.fok⟩
        simp only [ext_tuple,List.getElem?_cons_zero,List.getElem?_cons_succ,someEx]
        refine allocN hP (fun t6 σ7 hP=>?_)
        refine storeZ (A:=[]) hP (fun σ8 hP=>?_)
        have mk:∀ τ v' id,v'=AV.msl id 0 (a.length + 1) 3->PsAt σ τ p (endsS us') ([VarN (some 50) t6 n,VarB t3 true,VarO t2 v'] ++ [(id,.cells ((flatN (a ++ [n])).map .pv) none)])->itemsL (recN N) f (a ++ [n]) (endsS us')=R0 ->
            ∃ m',m' < f + 1/\Inv (fun a:Nat × List NTree × List Tok=>[AV.addr t2 0,.addr t3 0,.addr p 0]) (fun a _=>a.1) (parseI N σ p t2 t3 R0) m' [.addr t2 0,.addr t3 0,.addr p 0] τ:=by
          intro τ v' id hv hP hq
          have hel:=ends_len us'
          refine back (f,a ++ [n],endsS us') rfl (Nat.lt_succ_self f) ⟨v',_,.inr ⟨id,by rw [hv,List.length_append,List.length_singleton],rfl⟩,hP.dropN 1,hq,?_⟩
          simp only [List.length_append,List.length_singleton]; omega
        have j9:∀ τ,PsAt σ τ p us' ([VarN (some 50) t6 n,VarB t3 true,VarO t2 v] ++ M)->(if endB (atS 0 us')=true \/ op=false \/ endsS us'=[] then itemsL (recN N) f (a ++ [n]) (endsS us') else .wrong)=R0 ->
            J12_9 env T_yClose (.addr t2 0) (.addr t3 0) (Inv (fun a:Nat × List NTree × List Tok=>[AV.addr t2 0,.addr t3 0,.addr p 0]) (fun a _=>a.1) (parseI N σ p t2 t3 R0)) (f + 1) (.addr t2 0) (.addr t3 0) (.addr p 0) (.addr t6 0) (.pv (.bool op)) τ (frzK K0) X:=by
          clear hP hi
          intro τ hP hi
          have hal:a.length <= 1000000:=by omega
          unfold J12_9
          simp only [lock_eq]
          repeat' first
            | exact trivial
            | with_reducible refine And.intro ?_ ?_
            | refine ldO 2 hP rfl ?_
            | refine lenO G ?_
            | refine ldN 0 hP rfl ?_
            | refine rowZ ?_
            | refine appO (Y:=[_,_,_]) G hP hal (fun id σ7 hP=>?_)
            | refine ixO ?_
            | refine stE (A:=[_,_,_]) (B:=[]) hP (fun σ8 hP=>?_)
            | refine stO (A:=[_,_]) (B:=[_]) hP rfl rfl (fun σ8 hP=>?_)
            | refine yends_call hEnds hP (fun σ9 hP=>?_)
          all_goals
            rw [guard_false]
            refine iteI (fun g1=>?_) (fun g1=>?_)
            · rw [if_pos (.inl g1)] at hi
              exact must_call hMust (fun _=>mk _ _ id rfl hP hi) (fun h=>absurd h (by decide))
            · rw [un_not,guard_false]
              cases op with
              | false =>
                rw [if_pos (.inr (.inl rfl))] at hi
                rw [if_pos (show (!false)=true from rfl)]
                exact must_call hMust (fun _=>mk _ _ id rfl hP hi) (fun h=>absurd h (by decide))
              | true =>
                rw [if_neg (by decide)]
                have hg:=hP.get
                have hx:=hP.len
                simp (disch:=omega) only [nilD,T.fa85_0,Nat.add_zero,T.ld42,hg,ldM_cells,List.getElem?_cons_zero,someEx,T.lnl42,bin_eql,nBeq0]
                refine must_call hMust (fun g2=>?_) (fun g2=>?_)
                · have e:endsS us'=[]:=List.eq_nil_of_length_eq_zero (by simpa using g2)
                  rw [if_pos (.inr (.inr e))] at hi
                  exact mk _ _ id rfl hP hi
                · have e:endsS us' ≠ []:=by intro e; rw [e] at g2; exact absurd g2 (by decide)
                  rw [if_neg (fun h=>h.elim g1 (fun h=>h.elim (fun h=>absurd (show true=false from h) (by decide)) e))] at hi
                  rw [<- hi] at hq
                  exact bad hq _ _ true _ (hP.dropN 1).objs
        have hc8:σ8 t6=some (.cells [.pv (.str n.op),.pv (.str n.text),.pv (.lst n.kids.length (flatN n.kids))] (some 50)):=by
          have:=hP.at (k:=0) rfl
          rw [nodeCells_eq] at this
          exact this
        refine ldN 0 hP rfl ?_
        have go:∀ b c,b=(decide (n.op=oRule) || decide (n.op=oRange))->c=decide (n.op=kFunc)->env 38 [nodeAV n,.pv (.int .i64 1),.agg [.pv (.bool b),.pv (.bool c),.pv (.bool false)]] σ8 (fun t45 σ12=>env 35 [t45] σ12 (fun t46 σ13=>J12_9 env T_yClose (.addr t2 0) (.addr t3 0) (Inv (fun a:Nat × List NTree × List Tok=>[AV.addr t2 0,.addr t3 0,.addr p 0]) (fun a _=>a.1) (parseI N σ p t2 t3 R0)) (f + 1) (.addr t2 0) (.addr t3 0) (.addr p 0) (.addr t6 0) (.pv (.bool op)) σ13 (frzK K0) X) (panP12 T_yClose (.addr t2 0) (.addr t3 0) (.addr t2 0) (.addr t3 0) (frzK K0))) (panP12 T_yClose (.addr t2 0) (.addr t3 0) (.addr t2 0) (.addr t3 0) (frzK K0)):=by
          rintro b c rfl rfl
          refine callFine (w:=whereOf n) hFine hokn ?_
          refine must_call hMust (fun e=>?_) (fun e=>?_)
          · rw [if_pos e] at hi
            exact j9 _ hP hi
          · rw [if_neg (by rw [e]; decide)] at hi
            rw [<- hi] at hq
            exact bad hq _ v true M (hP.dropN 1).objs
        simp (disch:=omega) only [T.fa50_0,T.ld9,hc8,ldM_cells,Nat.zero_add,List.getElem?_cons_zero,someEx,bin_seql,beqD,guard_false,bldW]
        refine iteI (fun g1=>?_) (fun g1=>?_)
        · exact go _ _ (by rw [show decide (n.op=oRule)=true from g1,Bool.true_or]) rfl
        · exact go _ _ (by rw [show decide (n.op=oRule)=false from decide_eq_false (by simpa [oRule] using g1),Bool.false_or]; rfl) rfl
    · have hus:us=[]:=by simpa using g0
      rw [if_pos hus] at hi
      rw [<- hi] at hq
      refine ldO 1 hP rfl ?_
      refine stO (A:=[_]) hP ?_ ?_ (fun σ9 hP=>?_)
      · rcases G with ⟨rfl,_,_⟩ | ⟨id,rfl,_⟩ <;> rfl
      · rcases G with ⟨rfl,_,_⟩ | ⟨id,rfl,_⟩ <;> rfl
      refine stB (A:=[]) (c:=true) hP (fun σ10 hP=>?_)
      rw [hq] at hK
      exact ⟨σ,t2,t3,v,true,rfl,hP.objs.sublist (List.sublist_append_left _ _),res_some hP.objs G hK⟩
theorem F_yParse (hm:HM):SoundF PS 12 T_yParse:=by
  have E:EnvOk PS (((envY4.add 38 (T_yFine 202)).add 37 T_yItemA).add 34 T_Lex):=EnvOk.add (EnvOk.add (EnvOk.add (envY4_ok hm) (F_yFine hm 202))
    (fun w0 hS ρ σ w args us K X H hr ⟨n,hn,h⟩=>F_yItem hm n hn w0 hS ρ σ w args us K X H hr h)) (F_Lex hm)
  have hb:∃ id o1 o2,Tryz.f12.body=some (.seq cPa12 (.seq (.region id #[o1,o2] false) cPb12))/\o1.guard=none/\o2.guard=none/\o1.dst=some 8/\o2.dst=none /\
      (∀ (a:Act) (w:World),(execOp a.eval o1).run PS w=.ok (.value (.func (.func 33) #[] (([.tmp 2,.tmp 3]:List Operand).map a.eval).toArray)) w) /\
      (∀ (a:Act) (w:World) (v:Array Value),a.tmps.getD 8 undef=.func (.func 33) #[] v->(execOp a.eval o2).run PS w=.ok (.defer { target:=.fn (.func 33) v,args:=#[] }) w):=by
    refine ⟨_,_,_,rfl,rfl,rfl,rfl,rfl,fun a w=>by simp [execOp,Instr.makeFunc],fun a w v h=>?_⟩
    have:a.eval (.tmp 8)=.func (.func 33) #[] v:=h
    simp [execOp,resolve,this,Deferred.ofValue]
  obtain ⟨id,o1,o2,h1,h2,h3,h4,h5,h6,h7⟩:=hb
  exact SoundF.frz (defer_sound hm E an12 Tryz.func12 Tryz.call12 Tryz.call33 h1 h2 h3 h4 h5 (by decide) h6 h7 S12_ok.1 S12_ok.2 (F_yClose hm) (fun args σ K X h=>T_yParse_go rfl rfl rfl rfl rfl h))
end
end Go.AD.Lx
