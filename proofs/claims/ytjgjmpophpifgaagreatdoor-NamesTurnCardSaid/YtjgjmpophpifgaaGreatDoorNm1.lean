import Derived.Test.YtjgjmpophpifgaaGreatDoorM20
set_option linter.unusedVariables false
set_option linter.unusedSimpArgs false
namespace Go.AD.Lx
mutual
def txN (B:Nat):NTree->Prop
  | .mk _ text kids=>text.length <= B/\txNs B kids
def txNs (B:Nat):List NTree->Prop
  | []=>True
  | n :: l=>txN B n/\txNs B l
end
def Tk (B:Nat) (ts:List Tok):Prop:=∀ t ∈ ts,t.2.length <= B
section
variable {B:Nat} {ts:List Tok} {r:Rec}
theorem txNs_app:∀ {a b:List NTree},txNs B a->txNs B b->txNs B (a ++ b)
  | [],_,_,h=>h
  | n :: a,b,h,h2=>by rw [List.cons_append,txNs]; rw [txNs] at h; exact ⟨h.1,txNs_app h.2 h2⟩
theorem txNs1 {a:NTree} (h:txN B a):txNs B [a]:=by rw [txNs,txNs]; exact ⟨h,trivial⟩
theorem txNs2 {a b:NTree} (h:txN B a) (h2:txN B b):txNs B [a,b]:=by rw [txNs]; exact ⟨h,txNs1 h2⟩
theorem txNs3 {a b c:NTree} (h:txN B a) (h2:txN B b) (h3:txN B c):txNs B [a,b,c]:=by rw [txNs]; exact ⟨h,txNs2 h2 h3⟩
theorem txNs4 {a b c d:NTree} (h:txN B a) (h2:txN B b) (h3:txN B c) (h4:txN B d):txNs B [a,b,c,d]:=by rw [txNs]; exact ⟨h,txNs3 h2 h3 h4⟩
theorem txNs0:txNs B []:=by rw [txNs]; trivial
theorem txN_mk {op text:Bytes} {l:List NTree} (h:text.length <= B) (h2:txNs B l):txN B (.mk op text l):=by rw [txN]; exact ⟨h,h2⟩
theorem txN_none:txN B noneN:=txN_mk (Nat.zero_le _) txNs0
theorem txNs_mem:∀ {l:List NTree},txNs B l->∀ x ∈ l,txN B x
  | n :: l,h,x,hx=>by
    rw [txNs] at h
    rcases List.mem_cons.1 hx with rfl | hx
    · exact h.1
    · exact txNs_mem h.2 x hx
theorem Tk.drop (h:Tk B ts) (k:Nat):Tk B (ts.drop k):=fun t ht=>h t (List.mem_of_mem_drop ht)
theorem Tk.nls (h:Tk B ts):Tk B (nlsS ts):=by
  induction ts with
  | nil=>exact h
  | cons t ts ih =>
    rw [nlsS]
    split
    · exact ih (fun x hx=>h x (List.mem_cons_of_mem _ hx))
    · exact h
theorem Tk.ends (h:Tk B ts):Tk B (endsS ts):=by
  induction ts with
  | nil=>exact h
  | cons t ts ih =>
    rw [endsS]
    split
    · exact ih (fun x hx=>h x (List.mem_cons_of_mem _ hx))
    · exact h
theorem Tk.at (h:Tk B ts) (k:Nat):(atS k ts).2.length <= B:=by
  unfold atS
  rw [List.getD_eq_getElem?_getD]
  cases e:ts[k]? with
  | none=>exact Nat.zero_le _
  | some t=>exact h t (List.mem_of_getElem? e)
theorem Tk.need {t:Tok} (h:Tk B ts) (ht:t ≠ ([],[])):okO True (needS t ts) (fun _ r=>Tk B r/\r.length + 1=ts.length):=by
  have:=need_len (o:=True) ht ts
  unfold needS at this ⊢
  split
  · rename_i hh
    rw [if_pos hh] at this
    exact ⟨h.drop 1,this⟩
  · trivial
theorem Tk.kind {ks:List Bytes} (h:Tk B ts) (hk:[] ∉ ks):okO True (kindS ks ts) (fun x r=>x.length <= B/\Tk B r/\r.length + 1=ts.length):=by
  have:=kind_len (o:=True) hk ts
  unfold kindS at this ⊢
  split
  · rename_i hh
    rw [if_pos hh] at this
    exact ⟨h.at 0,h.drop 1,this⟩
  · trivial
theorem sign_at:∀ {l:List Bytes} {ts:List Tok} {s:Bytes},signS l ts=some s->atS 0 ts=opT s
  | [],_,_,h=>by cases h
  | a :: l,ts,s,h=>by
    rw [signS] at h
    split at h
    case isTrue h1=>cases h; exact h1
    case isFalse=>exact sign_at h
theorem stepped_at {ts:List Tok} {s:Bytes} (h:steppedS ts=some s):atS 0 ts=opT s:=by
  unfold steppedS at h
  split at h
  case isTrue h1=>cases h; exact h1
  split at h
  case isTrue h1=>cases h; exact h1
  cases h
theorem Tk.sign {l:List Bytes} {s:Bytes} (h:Tk B ts) (hs:signS l ts=some s):s.length <= B:=by
  have:=h.at 0
  rw [sign_at hs] at this
  exact this
theorem Tk.stepped {s:Bytes} (h:Tk B ts) (hs:steppedS ts=some s):s.length <= B:=by
  have:=h.at 0
  rw [stepped_at hs] at this
  exact this
def We (B:Nat) (f:Ps NTree):Prop:=∀ ts,Tk B ts->okO True (f ts) (fun a r=>txN B a/\Tk B r/\wN a + 2 + 4 * r.length <= 4 * ts.length)
def Ws (B:Nat) (f:Ps NTree):Prop:=∀ ts,Tk B ts->okO True (f ts) (fun a r=>txN B a/\Tk B r/\wN a + 4 * r.length <= 4 * ts.length)
def Wb (B:Nat) (f:Ps (NTree × Bool)):Prop:=∀ ts,Tk B ts->okO True (f ts) (fun a r=>txN B a.1/\Tk B r/\wN a.1 + 4 * r.length <= 4 * ts.length)
def Wl (B:Nat) (f:Ps (List NTree)):Prop:=∀ ts,Tk B ts->okO True (f ts) (fun a r=>txNs B a/\Tk B r/\wNs a + 4 * r.length <= 4 * ts.length)
theorem We.s {f:Ps NTree} (h:We B f):Ws B f:=fun ts ht=>(h ts ht).imp id fun a r ⟨h1,h2,h3⟩=>⟨h1,h2,by omega⟩
structure WR (B:Nat) (r:Rec):Prop where
  expr:∀ least pr,We B (r.expr least pr)
  unary:We B r.unary
  exponent:We B r.exponent
  operand:We B r.operand
  statement:Wb B r.statement
theorem wN_mk (op text:Bytes) (l:List NTree):wN (.mk op text l)=wNs l + 1:=by rw [wN]
theorem wNs1 (a:NTree):wNs [a]=wN a:=by rw [wNs,wNs]; rfl
theorem wNs2 (a b:NTree):wNs [a,b]=wN a + wN b:=by rw [wNs,wNs1]
theorem wNs3 (a b c:NTree):wNs [a,b,c]=wN a + (wN b + wN c):=by rw [wNs,wNs2]
theorem wNs4 (a b c d:NTree):wNs [a,b,c,d]=wN a + (wN b + (wN c + wN d)):=by rw [wNs,wNs3]
theorem wNs0:wNs []=0:=by rw [wNs]
theorem wN_none:wN noneN=1:=by unfold noneN; rw [wN,wNs]
theorem W_ahead (H:WR B r) (ts:List Tok) (hl:Tk B ts):okO True (aheadS r ts) (fun o r=>match o with
    | none=>r=ts
    | some e=>txN B e/\Tk B r/\wN e + 2 + 4 * r.length <= 4 * ts.length):=by
  unfold aheadS
  split
  · rfl
  case h_2 s hs =>
    have hp:=stepped_pos hs
    have hd:(ts.drop 1).length=ts.length - 1:=List.length_drop ..
    rw [okO_bnd]
    refine (H.operand _ (hl.drop 1)).imp id fun a r ⟨h1,h2,h3⟩=>?_
    split
    · exact ⟨txN_mk (hl.stepped hs) (txNs1 h1),h2,by rw [wN_mk,wNs1]; omega⟩
    · trivial
theorem W_step (H:WR B r):We B (stepS r):=by
  intro ts hl
  unfold stepS
  rw [okO_bnd]
  refine (W_ahead H ts hl).imp id fun o r1 h=>?_
  cases o with
  | some e=>exact h
  | none =>
    dsimp only at h ⊢
    subst h
    rw [okO_bnd]
    refine (H.operand _ hl).imp id fun a r2 ⟨h1,h2,h3⟩=>?_
    have hd:(r2.drop 1).length=r2.length - 1:=List.length_drop ..
    split
    · split
      · rename_i s hs
        have:=stepped_pos hs
        exact ⟨txN_mk (h2.stepped hs) (txNs1 h1),h2.drop 1,by rw [wN_mk,wNs1]; omega⟩
      · exact ⟨h1,h2,h3⟩
    · exact ⟨h1,h2,h3⟩
theorem W_power (hB:8 <= B) (H:WR B r):We B (powerS r):=by
  intro ts hl
  unfold powerS
  rw [okO_bnd]
  refine (W_step H ts hl).imp id fun a r2 ⟨h1,h2,h3⟩=>?_
  have hd:(r2.drop 1).length=r2.length - 1:=List.length_drop ..
  split
  · rw [okO_bnd]
    refine (H.exponent _ (h2.drop 1)).imp id fun x r3 ⟨h4,h5,h6⟩=>?_
    exact ⟨txN_mk (by show 1 <= B; omega) (txNs2 h1 h4),h5,by rw [wN_mk,wNs2]; omega⟩
  · exact ⟨h1,h2,h3⟩
theorem W_listL (H:WR B r) (pr:Bool):∀ (f:Nat) (l:List NTree) (ts:List Tok),Tk B ts->txNs B l->okO True (listL r pr f l ts) (fun l' r=>txNs B l'/\Tk B r/\wNs l' + 4 * r.length <= wNs l + 4 * ts.length)
  | 0,l,ts,_,_=>by rw [listL]; trivial
  | f + 1,l,ts,hl,he=>by
    rw [listL]
    split
    case isTrue h =>
      have hd:(ts.drop 1).length=ts.length - 1:=List.length_drop ..
      have hn:=nls_len (ts.drop 1)
      rw [okO_bnd]
      refine (H.expr 1 pr _ (hl.drop 1).nls).imp id fun a r2 ⟨h1,h2,h3⟩=>?_
      refine (W_listL H pr f (l ++ [a]) r2 h2 (txNs_app he (txNs1 h1))).imp id fun l' r3 ⟨h4,h5,h6⟩=>?_
      rw [wNs_app,wNs1] at h6
      exact ⟨h4,h5,by omega⟩
    case isFalse=>exact ⟨he,hl,Nat.le_refl _⟩
theorem W_list (H:WR B r) (pr:Bool):Wl B (listS r pr):=by
  intro ts hl
  unfold listS
  rw [okO_bnd]
  refine (H.expr 1 pr ts hl).imp id fun a r2 ⟨h1,h2,h3⟩=>?_
  refine (W_listL H pr _ [a] r2 h2 (txNs1 h1)).imp id fun l' r3 ⟨h4,h5,h6⟩=>?_
  rw [wNs1] at h6
  exact ⟨h4,h5,by omega⟩
theorem W_args (H:WR B r):Wl B (argsS r):=by
  intro ts hl
  unfold argsS
  split
  case isTrue h =>
    have hd:(ts.drop 1).length=ts.length - 1:=List.length_drop ..
    exact ⟨txNs0,hl.drop 1,by rw [wNs0]; omega⟩
  case isFalse =>
    rw [okO_bnd]
    refine (W_list H false ts hl).imp id fun l r2 ⟨h1,h2,h3⟩=>?_
    rw [okO_bnd]
    refine (h2.need (by decide)).imp id fun _ r3 ⟨h4,h5⟩=>?_
    exact ⟨h1,h4,by omega⟩
theorem W_subs (H:WR B r):Wl B (subsS r):=by
  intro ts hl
  unfold subsS
  rw [okO_bnd]
  refine (W_list H false ts hl).imp id fun l r2 ⟨h1,h2,h3⟩=>?_
  rw [okO_bnd]
  refine (h2.need (by decide)).imp id fun _ r3 ⟨h4,h5⟩=>?_
  exact ⟨h1,h4,by omega⟩
theorem W_exprL (hB:8 <= B) (H:WR B r) (least:Nat) (pr:Bool):∀ (f:Nat) (left:NTree) (b:Nat) (ts:List Tok),Tk B ts->txN B left->okO True (exprL r least pr f left b ts) (fun a r=>txN B a/\Tk B r/\wN a + 4 * r.length <= wN left + 4 * ts.length)
  | 0,left,b,ts,_,_=>by rw [exprL]; trivial
  | f + 1,left,b,ts,hl,he=>by
    rw [exprL]
    have hd:(ts.drop 1).length=ts.length - 1:=List.length_drop ..
    have hn:=nls_len (ts.drop 1)
    split
    · exact ⟨he,hl,Nat.le_refl _⟩
    split
    · split
      · rw [okO_bnd]
        refine (H.expr 1 pr _ (hl.drop 1)).imp id fun a r2 ⟨h1,h2,h3⟩=>?_
        exact ⟨txN_mk (hl.at 0) (txNs2 he h1),h2,by rw [wN_mk,wNs2]; omega⟩
      · trivial
    split
    · rw [okO_bnd]
      refine (H.expr 1 pr _ (hl.drop 1).nls).imp id fun a r2 ⟨h1,h2,h3⟩=>?_
      rw [okO_bnd]
      refine (h2.need (by decide)).imp id fun _ r3 ⟨h4,h5⟩=>?_
      have hn:=nls_len r3
      rw [okO_bnd]
      refine (H.expr 1 pr _ h4.nls).imp id fun c r4 ⟨h6,h7,h8⟩=>?_
      exact ⟨txN_mk (Nat.zero_le _) (txNs3 he h1 h6),h7,by rw [wN_mk,wNs3]; omega⟩
    split
    · rw [okO_bnd]
      refine ((hl.drop 1).kind (by decide)).imp id fun x r3 ⟨h1,h2,h3⟩=>?_
      refine (W_exprL hB H least pr f _ 5 r3 h2 (txN_mk h1 (txNs1 he))).imp id fun c r4 ⟨h5,h6,h7⟩=>⟨h5,h6,?_⟩
      rw [wN_mk,wNs1] at h7; omega
    split
    · rw [okO_bnd]
      refine (H.expr 9 pr _ hl).imp id fun a r2 ⟨h1,h2,h3⟩=>?_
      refine (W_exprL hB H least pr f _ 8 r2 h2 (txN_mk (by show 3 <= B; omega) (txNs2 he h1))).imp id fun c r4 ⟨h5,h6,h7⟩=>⟨h5,h6,?_⟩
      rw [wN_mk,wNs2] at h7; omega
    · rw [okO_bnd]
      have hx:Tk B (if levelS pr (atS 0 ts) <= 4 then nlsS (ts.drop 1) else ts.drop 1)/\(if levelS pr (atS 0 ts) <= 4 then nlsS (ts.drop 1) else ts.drop 1).length <= ts.length - 1:=by
        split
        · exact ⟨(hl.drop 1).nls,by omega⟩
        · exact ⟨hl.drop 1,by omega⟩
      refine (H.expr _ pr _ hx.1).imp id fun a r2 ⟨h1,h2,h3⟩=>?_
      refine (W_exprL hB H least pr f _ _ r2 h2 (txN_mk (hl.at 0) (txNs2 he h1))).imp id fun c r4 ⟨h5,h6,h7⟩=>⟨h5,h6,?_⟩
      rw [wN_mk,wNs2] at h7; omega
theorem W_expr (hB:8 <= B) (H:WR B r) (least:Nat) (pr:Bool):We B (exprS r least pr):=by
  intro ts hl
  unfold exprS
  rw [okO_bnd]
  refine (H.unary ts hl).imp id fun a r2 ⟨h1,h2,h3⟩=>?_
  exact (W_exprL hB H least pr _ a 10 r2 h2 h1).imp id fun c r4 ⟨h5,h6,h7⟩=>⟨h5,h6,by omega⟩
theorem W_unary (hB:8 <= B) (H:WR B r):We B (unaryS r):=by
  intro ts hl
  unfold unaryS
  split
  case h_1 s hs =>
    have hp:=sign_pos hs
    have hd:(ts.drop 1).length=ts.length - 1:=List.length_drop ..
    rw [okO_bnd]
    refine (H.unary _ (hl.drop 1)).imp id fun a r2 ⟨h1,h2,h3⟩=>?_
    exact ⟨txN_mk (hl.sign hs) (txNs1 h1),h2,by rw [wN_mk,wNs1]; omega⟩
  · exact W_power hB H ts hl
theorem W_exponent (hB:8 <= B) (H:WR B r):We B (exponentS r):=by
  intro ts hl
  unfold exponentS
  split
  case h_1 s hs =>
    have hp:=sign_pos hs
    have hd:(ts.drop 1).length=ts.length - 1:=List.length_drop ..
    rw [okO_bnd]
    refine (H.exponent _ (hl.drop 1)).imp id fun a r2 ⟨h1,h2,h3⟩=>?_
    exact ⟨txN_mk (hl.sign hs) (txNs1 h1),h2,by rw [wN_mk,wNs1]; omega⟩
  · exact W_power hB H ts hl
theorem W_operand (hB:8 <= B) (H:WR B r):We B (opndS r):=by
  intro ts hl
  unfold opndS
  split
  · trivial
  case isFalse h0 =>
  have hp:0 < ts.length:=by
    cases ts with
    | nil=>exact absurd rfl h0
    | cons=>simp
  have hd:(ts.drop 1).length=ts.length - 1:=List.length_drop ..
  have hd2:(ts.drop 2).length=ts.length - 2:=List.length_drop ..
  have ht:=hl.at 0
  split
  · exact ⟨txN_mk ht txNs0,hl.drop 1,by rw [wN_mk,wNs0]; omega⟩
  split
  · split
    · rw [okO_bnd]
      exact (W_subs H _ (hl.drop 2)).imp id fun l r2 ⟨h1,h2,h3⟩=>⟨txN_mk ht h1,h2,by rw [wN_mk]; omega⟩
    · exact ⟨txN_mk ht txNs0,hl.drop 1,by rw [wN_mk,wNs0]; omega⟩
  split
  · rw [okO_bnd]
    exact (W_args H _ (hl.drop 2)).imp id fun l r2 ⟨h1,h2,h3⟩=>⟨txN_mk ht h1,h2,by rw [wN_mk]; omega⟩
  split
  · split
    · rw [okO_bnd]
      exact (W_args H _ (hl.drop 2)).imp id fun l r2 ⟨h1,h2,h3⟩=>⟨txN_mk ht h1,h2,by rw [wN_mk]; omega⟩
    · split
      · exact ⟨txN_mk ht txNs0,hl.drop 1,by rw [wN_mk,wNs0]; omega⟩
      · trivial
  split
  · rw [okO_bnd]
    refine (W_list H false _ (hl.drop 1)).imp id fun l r2 ⟨h1,h2,h3⟩=>?_
    rw [okO_bnd]
    refine (h2.need (by decide)).imp id fun _ r3 ⟨h4,h5⟩=>?_
    split
    · exact ⟨txN_mk (Nat.zero_le _) h1,h4,by rw [wN_mk]; omega⟩
    split
    · rw [okO_bnd]
      have hd3:(r3.drop 1).length=r3.length - 1:=List.length_drop ..
      exact ((h4.drop 1).kind (by decide)).imp id fun x r4 ⟨h6,h7,h8⟩=>⟨txN_mk h6 h1,h7,by rw [wN_mk]; omega⟩
    · exact ⟨txN_mk (Nat.zero_le _) h1,h4,by rw [wN_mk]; omega⟩
  split
  · rw [okO_bnd]
    refine (W_ahead H _ (hl.drop 1)).imp id fun o r1 h=>?_
    cases o with
    | some e=>exact ⟨txN_mk (Nat.zero_le _) (txNs1 h.1),h.2.1,by rw [wN_mk,wNs1]; have:=h.2.2; omega⟩
    | none =>
      dsimp only at h ⊢
      subst h
      rw [okO_bnd]
      exact (H.operand _ (hl.drop 1)).imp id fun a r2 ⟨h1,h2,h3⟩=>⟨txN_mk (Nat.zero_le _) (txNs1 h1),h2,by rw [wN_mk,wNs1]; omega⟩
  · trivial
theorem unlist_tx {l:List NTree} (h:txNs B l):txNs B (unlist l)/\wNs (unlist l) <= wNs l:=by
  unfold unlist
  split
  · split
    · rename_i op t ks hop
      rw [txNs,txN] at h
      exact ⟨h.1.2,by rw [wNs1,wN_mk]; omega⟩
    · exact ⟨h,Nat.le_refl _⟩
  · exact ⟨h,Nat.le_refl _⟩
theorem W_tail (H:WR B r) (w:Bytes) (l:List NTree) (he:txNs B l) (ts:List Tok) (h:Tk B ts):okO True (printTail r w l ts) (fun a r=>txN B a/\Tk B r/\wN a + 4 * r.length <= wNs l + 1 + 4 * ts.length):=by
  unfold printTail
  split
  case h_1 s hs =>
    have hd:(ts.drop 1).length=ts.length - 1:=List.length_drop ..
    rw [okO_bnd]
    refine (H.expr 8 true _ (h.drop 1)).imp id fun a r2 ⟨h1,h2,h3⟩=>?_
    exact ⟨txN_mk (h.sign hs) (txNs_app he (txNs1 h1)),h2,by rw [wN_mk,wNs_app,wNs1]; omega⟩
  · exact ⟨txN_mk (Nat.zero_le _) he,h,by rw [wN_mk]; exact Nat.le_refl _⟩
theorem W_printed (H:WR B r) (w:Bytes) (ts:List Tok) (hl:Tk B ts):okO True (printedS r w ts) (fun a r=>txN B a/\Tk B r/\wN a + 4 * r.length <= 1 + 4 * ts.length):=by
  unfold printedS
  split
  · rw [okO_bnd]
    refine (W_list H true ts hl).imp id fun l r2 ⟨h1,h2,h3⟩=>?_
    have hu:=unlist_tx h1
    exact (W_tail H w _ hu.1 r2 h2).imp id fun a r3 ⟨h4,h5,h6⟩=>⟨h4,h5,by have:=hu.2; omega⟩
  split
  · trivial
  · exact (W_tail H w [] txNs0 ts hl).imp id fun a r3 ⟨h4,h5,h6⟩=>⟨h4,h5,by rw [wNs0] at h6; omega⟩
theorem W_simple (H:WR B r):Ws B (simpleS r):=by
  intro ts hl
  have hd:(ts.drop 1).length=ts.length - 1:=List.length_drop ..
  unfold simpleS
  split
  · rw [okO_bnd]
    exact (H.expr 1 false ts hl).imp id fun a r2 ⟨h1,h2,h3⟩=>⟨txN_mk (Nat.zero_le _) (txNs1 h1),h2,by rw [wN_mk,wNs1]; omega⟩
  case isFalse h0 =>
  have hp:0 < ts.length:=by
    cases ts with
    | nil=>exact absurd (show ¬ (atS 0 []).1=kWord by decide) h0
    | cons=>simp
  split
  · exact (W_printed H _ _ (hl.drop 1)).imp id fun a r2 ⟨h1,h2,h3⟩=>⟨h1,h2,by omega⟩
  split
  · exact ⟨txN_mk (Nat.zero_le _) txNs0,hl.drop 1,by rw [wN_mk,wNs0]; omega⟩
  split
  · split
    · rw [okO_bnd]
      exact (H.expr 1 false _ (hl.drop 1)).imp id fun a r2 ⟨h1,h2,h3⟩=>⟨txN_mk (Nat.zero_le _) (txNs1 h1),h2,by rw [wN_mk,wNs1]; omega⟩
    · exact ⟨txN_mk (Nat.zero_le _) txNs0,hl.drop 1,by rw [wN_mk,wNs0]; omega⟩
  split
  · rw [okO_bnd]
    refine ((hl.drop 1).kind (by decide)).imp id fun x r2 ⟨g1,g2,g3⟩=>?_
    rw [okO_bnd]
    refine (g2.need (by decide)).imp id fun _ r3 ⟨g4,g5⟩=>?_
    rw [okO_bnd]
    exact (W_subs H _ g4).imp id fun l r4 ⟨h4,h5,h6⟩=>⟨txN_mk g1 h4,h5,by rw [wN_mk]; omega⟩
  · trivial
theorem W_paren (H:WR B r):We B (parenS r):=by
  intro ts hl
  unfold parenS
  rw [okO_bnd]
  refine (hl.need (by decide)).imp id fun _ r1 ⟨g1,g2⟩=>?_
  rw [okO_bnd]
  refine (H.expr 1 false _ g1).imp id fun a r2 ⟨h2,h3,h4⟩=>?_
  rw [okO_bnd]
  exact (h3.need (by decide)).imp id fun _ r3 ⟨g4,g5⟩=>⟨h2,g4,by omega⟩
theorem W_body (H:WR B r):Wb B (bodyS r):=by
  intro ts hl
  have:=nls_len ts
  exact (H.statement (nlsS ts) hl.nls).imp id fun a r2 ⟨h2,h3,h4⟩=>⟨h2,h3,by omega⟩
theorem W_choice (H:WR B r) (ts:List Tok) (hl:Tk B ts):okO True (choiceS r ts) (fun a r=>txN B a.1/\Tk B r/\wN a.1 + 4 * r.length <= 4 * ts.length):=by
  unfold choiceS
  rw [okO_bnd]
  refine (W_paren H ts hl).imp id fun c r1 ⟨h1,h2,h3⟩=>?_
  rw [okO_bnd]
  refine (W_body H r1 h2).imp id fun a r2 ⟨h4,h5,h6⟩=>?_
  split
  · rw [okO_bnd]
    have:=ends_len r2
    have hd:((endsS r2).drop 1).length=(endsS r2).length - 1:=List.length_drop ..
    exact (W_body H _ (h5.ends.drop 1)).imp id fun b r3 ⟨h7,h8,h9⟩=>⟨txN_mk (Nat.zero_le _) (txNs3 h1 h4 h7),h8,by rw [wN_mk,wNs3]; omega⟩
  · exact ⟨txN_mk (Nat.zero_le _) (txNs2 h1 h4),h5,by rw [wN_mk,wNs2]; omega⟩
theorem W_part {p:Ps NTree} {u:Bytes} (hp:Ws B p) (ts:List Tok) (hl:Tk B ts):okO True (partS u p ts) (fun a r=>txN B a/\Tk B r/\wN a + 4 * r.length <= 4 * ts.length):=by
  unfold partS
  rw [okO_bnd]
  have h:okO True (if atS 0 ts=opT u then .ok noneN ts else p ts) (fun a r=>txN B a/\Tk B r/\wN a + 4 * r.length <= 1 + 4 * ts.length):=by
    split
    · exact ⟨txN_none,hl,by rw [wN_none]; exact Nat.le_refl _⟩
    · exact (hp ts hl).imp id fun a r2 ⟨h2,h3,h4⟩=>⟨h2,h3,by omega⟩
  refine h.imp id fun a r2 ⟨h2,h3,h4⟩=>?_
  rw [okO_bnd]
  refine (h3.need (by simp [opT,kOp])).imp id fun _ r3 ⟨h5,h6⟩=>?_
  have:=nls_len r3
  exact ⟨h2,h5.nls,by omega⟩
theorem W_loop (H:WR B r) (ts:List Tok) (hl:Tk B ts):okO True (loopS r ts) (fun a r=>txN B a.1/\Tk B r/\wN a.1 + 4 * r.length <= 4 * ts.length):=by
  unfold loopS
  rw [okO_bnd]
  refine (hl.need (by decide)).imp id fun _ r1 ⟨g1,g2⟩=>?_
  split
  · rename_i hc
    have hp:0 < r1.length:=kind_pos (ks:=[kName]) (by rw [hc.1]; simp) (by decide)
    have hd:(r1.drop 4).length=r1.length - 4:=List.length_drop ..
    have h4:4 <= r1.length:=by
      rcases Nat.lt_or_ge r1.length 4 with h | h
      · exfalso
        have:=hc.2.2.2
        unfold atS at this
        rw [List.getD_eq_getElem?_getD,List.getElem?_eq_none (by omega)] at this
        exact absurd this (by decide)
      · exact h
    rw [okO_bnd]
    exact (W_body H _ (g1.drop 4)).imp id fun b r3 ⟨h5,h6,h7⟩=>⟨txN_mk (g1.at 0) (txNs2 (txN_mk (g1.at 2) txNs0) h5),h6,by rw [wN_mk,wNs2,wN_mk,wNs0]; omega⟩
  · rw [okO_bnd]
    refine (W_part (W_simple H) r1 g1).imp id fun a r2 ⟨h2,h3,h4⟩=>?_
    rw [okO_bnd]
    refine (W_part (H.expr 1 false).s r2 h3).imp id fun b r3 ⟨h5,h6,h7⟩=>?_
    rw [okO_bnd]
    refine (W_part (W_simple H) r3 h6).imp id fun c r4 ⟨h8,h9,h10⟩=>?_
    rw [okO_bnd]
    exact (H.statement r4 h9).imp id fun s r5 ⟨k1,k2,k3⟩=>⟨txN_mk (Nat.zero_le _) (txNs4 h2 h5 h8 k1),k2,by rw [wN_mk,wNs4]; omega⟩
theorem W_blockL (H:WR B r):∀ (f:Nat) (l:List NTree) (ts:List Tok),Tk B ts->txNs B l->okO True (blockL r f l ts) (fun a r=>txN B a/\Tk B r/\wN a + 4 * r.length <= wNs l + 1 + 4 * ts.length)
  | 0,l,ts,_,_=>by rw [blockL]; trivial
  | f + 1,l,ts,hl,he=>by
    rw [blockL]
    have hd:(ts.drop 1).length=ts.length - 1:=List.length_drop ..
    split
    · exact ⟨txN_mk (Nat.zero_le _) he,hl.drop 1,by rw [wN_mk]; omega⟩
    · rw [okO_bnd]
      refine (H.statement ts hl).imp id fun s r1 ⟨h1,h2,h3⟩=>?_
      have:=ends_len r1
      split
      · refine (W_blockL H f (l ++ [s.1]) (endsS r1) h2.ends (txNs_app he (txNs1 h1))).imp id fun a r2 ⟨h4,h5,h6⟩=>⟨h4,h5,?_⟩
        rw [wNs_app,wNs1] at h6; omega
      · trivial
theorem W_block (H:WR B r) (ts:List Tok) (hl:Tk B ts):okO True (blockS r ts) (fun a r=>txN B a/\Tk B r/\wN a + 3 + 4 * r.length <= 4 * ts.length):=by
  unfold blockS
  rw [okO_bnd]
  refine (hl.need (by decide)).imp id fun _ r1 ⟨g1,g2⟩=>?_
  have:=ends_len r1
  exact (W_blockL H _ [] (endsS r1) g1.ends txNs0).imp id fun a r2 ⟨h3,h4,h5⟩=>⟨h3,h4,by rw [wNs0] at h5; omega⟩
theorem W_statement (H:WR B r):Wb B (statementS r):=by
  intro ts hl
  have hd:(ts.drop 1).length=ts.length - 1:=List.length_drop ..
  unfold statementS
  split
  · rw [okO_bnd]
    exact (W_block H ts hl).imp id fun a r2 ⟨h1,h2,h3⟩=>⟨h1,h2,by show wN a + _ <= _; omega⟩
  split
  case isTrue h =>
    have hp:=atPos h (by decide)
    exact ⟨txN_none,hl.drop 1,by show wN noneN + _ <= _; rw [wN_none]; omega⟩
  split
  case isTrue h =>
    have hp:=atPos h (by decide)
    exact (W_choice H _ (hl.drop 1)).imp id fun a r2 ⟨h3,h4,h5⟩=>⟨h3,h4,by omega⟩
  split
  case isTrue h =>
    have hp:=atPos h (by decide)
    rw [okO_bnd]
    refine (W_paren H _ (hl.drop 1)).imp id fun c r1 ⟨h1,h2,h3⟩=>?_
    rw [okO_bnd]
    exact (W_body H _ h2).imp id fun b r3 ⟨h5,h6,h7⟩=>⟨txN_mk (Nat.zero_le _) (txNs2 h1 h5),h6,by rw [wN_mk,wNs2]; omega⟩
  split
  case isTrue h =>
    have hp:=atPos h (by decide)
    rw [okO_bnd]
    refine (W_body H _ (hl.drop 1)).imp id fun b r1 ⟨h1,h2,h3⟩=>?_
    have:=ends_len r1
    split
    · rw [okO_bnd]
      refine (h2.ends.need (by decide)).imp id fun _ r2 ⟨g1,g2⟩=>?_
      rw [okO_bnd]
      exact (W_paren H _ g1).imp id fun c r3 ⟨h4,h5,h6⟩=>⟨txN_mk (Nat.zero_le _) (txNs2 h1 h4),h5,by rw [wN_mk,wNs2]; omega⟩
    · trivial
  split
  case isTrue h =>
    have hp:=atPos h (by decide)
    exact (W_loop H _ (hl.drop 1)).imp id fun a r2 ⟨h3,h4,h5⟩=>⟨h3,h4,by omega⟩
  · rw [okO_bnd]
    exact (W_simple H ts hl).imp id fun a r2 h=>h
theorem W_all (hB:8 <= B):∀ n,WR B (recN n)
  | 0=>⟨fun _ _ _ _=>trivial,fun _ _=>trivial,fun _ _=>trivial,fun _ _=>trivial,fun _ _=>trivial⟩
  | n + 1=>by
    have H:=W_all hB n
    exact ⟨W_expr hB H,W_unary hB H,W_exponent hB H,W_operand hB H,W_statement H⟩
theorem W_paramsL:∀ (f:Nat) (l:List NTree) (ts:List Tok),Tk B ts->txNs B l->okO True (paramsL f l ts) (fun l' r=>txNs B l'/\Tk B r/\wNs l' + 4 * r.length <= wNs l + 4 * ts.length)
  | 0,l,ts,_,_=>by rw [paramsL]; trivial
  | f + 1,l,ts,hl,he=>by
    rw [paramsL,okO_bnd]
    have hx:Tk B (if l=[] then ts else nlsS ts)/\(if l=[] then ts else nlsS ts).length <= ts.length:=by
      have:=nls_len ts
      split
      · exact ⟨hl,Nat.le_refl _⟩
      · exact ⟨hl.nls,this⟩
    refine (hx.1.kind (by decide)).imp id fun x r1 ⟨h1,h2,h3⟩=>?_
    have hd:(r1.drop 1).length=r1.length - 1:=List.length_drop ..
    have ht:txNs B (l ++ [.mk oVar x []]):=txNs_app he (txNs1 (txN_mk h1 txNs0))
    have hw:wNs (l ++ [.mk oVar x []])=wNs l + 1:=by rw [wNs_app,wNs1,wN_mk,wNs0]
    split
    · refine (W_paramsL f _ _ (h2.drop 1) ht).imp id fun l' r2 ⟨h4,h5,h6⟩=>⟨h4,h5,?_⟩
      rw [hw] at h6; omega
    · rw [okO_bnd]
      exact (h2.need (by decide)).imp id fun _ r2 ⟨h4,h5⟩=>⟨ht,h4,by rw [hw]; omega⟩
theorem W_function (H:WR B r) (ts:List Tok) (hl:Tk B ts):okO True (functionS r ts) (fun a r=>txN B a/\Tk B r/\wN a + 4 * r.length <= 4 * ts.length):=by
  unfold functionS
  rw [okO_bnd]
  refine (hl.kind (by decide)).imp id fun x r1 ⟨h1,h2,h3⟩=>?_
  rw [okO_bnd]
  refine (h2.need (by decide)).imp id fun _ r2 ⟨h4,h5⟩=>?_
  rw [okO_bnd]
  have hp:okO True (if atS 0 r2=opT [41] then .ok [] (r2.drop 1) else paramsL r.fuel [] r2) (fun l' r=>txNs B l'/\Tk B r/\wNs l' + 4 * r.length <= 4 * r2.length):=by
    have hd:(r2.drop 1).length=r2.length - 1:=List.length_drop ..
    split
    · exact ⟨txNs0,h4.drop 1,by rw [wNs0]; omega⟩
    · exact (W_paramsL _ [] r2 h4 txNs0).imp id fun l' r3 ⟨k1,k2,k3⟩=>⟨k1,k2,by rw [wNs0] at k3; omega⟩
  refine hp.imp id fun l r3 ⟨k1,k2,k3⟩=>?_
  have:=nls_len r3
  rw [okO_bnd]
  exact (W_block H _ k2.nls).imp id fun b r4 ⟨k4,k5,k6⟩=>⟨txN_mk h1 (txNs2 (txN_mk (Nat.zero_le _) k1) k4),k5,by rw [wN_mk,wNs2,wN_mk]; omega⟩
theorem W_blk (H:WR B r) (ts:List Tok) (hl:Tk B ts):okO True (blkS r ts) (fun a r=>txN B a.1/\Tk B r/\wN a.1 + 4 * r.length <= 1 + 4 * ts.length):=by
  unfold blkS
  split
  · rw [okO_bnd]
    exact (W_block H ts hl).imp id fun a r2 ⟨h1,h2,h3⟩=>⟨h1,h2,by show wN a + _ <= _; omega⟩
  · exact ⟨txN_none,hl,by show wN noneN + _ <= _; rw [wN_none]; exact Nat.le_refl _⟩
theorem W_item (H:WR B r):Wb B (itemS r):=by
  intro ts hl
  have hd:(ts.drop 1).length=ts.length - 1:=List.length_drop ..
  unfold itemS
  split
  case isTrue h =>
    have hp:=atPos h (by decide)
    rw [okO_bnd]
    exact (W_block H _ (hl.drop 1)).imp id fun a r2 ⟨h1,h2,h3⟩=>⟨txN_mk (Nat.zero_le _) (txNs1 h1),h2,by rw [wN_mk,wNs1]; omega⟩
  split
  case isTrue h =>
    have hp:=atPos h (by decide)
    rw [okO_bnd]
    exact (W_block H _ (hl.drop 1)).imp id fun a r2 ⟨h1,h2,h3⟩=>⟨txN_mk (Nat.zero_le _) (txNs1 h1),h2,by rw [wN_mk,wNs1]; omega⟩
  split
  case isTrue h =>
    have hp:=atPos h (by decide)
    rw [okO_bnd]
    exact (W_function H _ (hl.drop 1)).imp id fun a r2 ⟨h1,h2,h3⟩=>⟨h1,h2,by show wN a + _ <= _; omega⟩
  split
  · rw [okO_bnd]
    exact (W_block H _ hl).imp id fun a r2 ⟨h1,h2,h3⟩=>⟨txN_mk (Nat.zero_le _) (txNs2 txN_none h1),h2,by rw [wN_mk,wNs2,wN_none]; omega⟩
  · rw [okO_bnd]
    refine (H.expr 1 false ts hl).imp id fun a r1 ⟨h1,h2,h3⟩=>?_
    have hd1:(r1.drop 1).length=r1.length - 1:=List.length_drop ..
    have hn1:=nls_len (r1.drop 1)
    split
    · rw [okO_bnd]
      refine (H.expr 1 false _ (h2.drop 1).nls).imp id fun b r2 ⟨h4,h5,h6⟩=>?_
      rw [okO_bnd]
      exact (W_blk H _ h5).imp id fun c r3 ⟨h7,h8,h9⟩=>⟨txN_mk (Nat.zero_le _) (txNs3 h1 h4 h7),h8,by rw [wN_mk,wNs3]; omega⟩
    · rw [okO_bnd]
      exact (W_blk H _ h2).imp id fun c r3 ⟨h7,h8,h9⟩=>⟨txN_mk (Nat.zero_le _) (txNs2 h1 h7),h8,by rw [wN_mk,wNs2]; omega⟩
theorem W_itemsL (H:WR B r):∀ (f:Nat) (l:List NTree) (ts:List Tok),Tk B ts->txNs B l->okO True (itemsL r f l ts) (fun l' r=>txNs B l'/\wNs l' <= wNs l + 4 * ts.length)
  | 0,l,ts,_,_=>by rw [itemsL]; trivial
  | f + 1,l,ts,hl,he=>by
    rw [itemsL]
    split
    · exact ⟨he,by omega⟩
    · rw [okO_bnd]
      refine (W_item H ts hl).imp id fun x r1 ⟨h1,h2,h3⟩=>?_
      have:=ends_len r1
      split
      · split
        · refine (W_itemsL H f (l ++ [x.1]) (endsS r1) h2.ends (txNs_app he (txNs1 h1))).imp id fun l' r2 ⟨h4,h5⟩=>⟨h4,?_⟩
          rw [wNs_app,wNs1] at h5; omega
        · trivial
      · trivial
theorem quoted_len2 {q:UInt8} {e:Bytes->Bytes × Bytes} (he:∀ r,(e r).1.length <= 2/\(e r).2.length <= r.length):∀ (f:Nat) (s acc t r:Bytes),quotedS q e f s acc=some (t,r)->t.length <= acc.length + 2 * f/\r.length <= s.length
  | 0,s,acc,t,r,h=>by rw [quotedS] at h; cases h
  | f + 1,s,acc,t,r,h=>by
    have hd:(s.drop 1).length=s.length - 1:=List.length_drop ..
    rw [quotedS] at h
    split at h
    · cases h
    split at h
    · cases h
    split at h
    · cases h; exact ⟨by omega,by omega⟩
    split at h
    · have:=quoted_len2 he f _ _ _ _ h
      rw [List.length_append,List.length_singleton] at this; omega
    split at h
    · cases h
    · have:=quoted_len2 he f _ _ _ _ h
      have h2:=he (s.drop 1)
      rw [List.length_append] at this; omega
theorem inText_len2 (r:Bytes):(inTextS r).1.length <= 2/\(inTextS r).2.length <= r.length:=by
  unfold inTextS
  split
  · exact ⟨by simp,by rw [List.length_drop]; omega⟩
  · refine ⟨?_,by show (r.drop 1).length <= _; rw [List.length_drop]; omega⟩
    dsimp only
    split
    · simp
    split
    · simp
    split <;> simp
theorem inEre_len2 (r:Bytes):(inEreS r).1.length <= 2/\(inEreS r).2.length <= r.length:=by
  unfold inEreS
  split
  · exact ⟨by simp,Nat.le_refl _⟩
  · refine ⟨?_,by show (r.drop 1).length <= _; rw [List.length_drop]; omega⟩
    dsimp only
    split <;> simp
theorem Tk.snoc {B:Nat} {ts:List Tok} (h:Tk B ts) {k t:Bytes} (ht:t.length <= B):Tk B (ts ++ [(k,t)]):=by
  intro x hx
  rcases List.mem_append.1 hx with hx | hx
  · exact h x hx
  · rw [List.mem_singleton.1 hx]; exact ht
theorem quoteTok_len {B:Nat} {q:UInt8} {e:Bytes->Bytes × Bytes} (he:∀ r,(e r).1.length <= 2/\(e r).2.length <= r.length) {kind s s':Bytes} {ts ts':List Tok} (hs:2 * s.length + 2 <= B) (hT:Tk B ts) (h:quoteTok q e kind s ts=some (s',ts')):Tk B ts'/\s'.length <= s.length:=by
  unfold quoteTok at h
  split at h
  · cases h
  · rename_i t r hq
    cases h
    have:=quoted_len2 he _ _ _ _ _ hq
    have hd:(s.drop 1).length=s.length - 1:=List.length_drop ..
    rw [List.length_nil] at this
    exact ⟨hT.snoc (by omega),by omega⟩
theorem take_len (s:Bytes) (n:Nat):(s.take n).length <= s.length:=by rw [List.length_take]; omega
theorem drop_len (s:Bytes) (n:Nat):(s.drop n).length <= s.length:=by rw [List.length_drop]; omega
theorem token_len {B:Nat} {s s':Bytes} {ts ts':List Tok} (hs:2 * s.length + 2 <= B) (hT:Tk B ts) (h:tokenS s ts=some (s',ts')):Tk B ts'/\s'.length <= s.length:=by
  unfold tokenS at h
  split at h
  · cases h; exact ⟨hT,drop_len ..⟩
  split at h
  · cases h; exact ⟨hT,drop_len ..⟩
  split at h
  · cases h; exact ⟨hT,drop_len ..⟩
  split at h
  · cases h; exact ⟨hT.snoc (Nat.zero_le _),drop_len ..⟩
  split at h
  · cases h; exact ⟨hT.snoc (by have:=take_len s (numberL s); omega),drop_len ..⟩
  split at h
  · exact quoteTok_len inText_len2 hs hT h
  split at h
  · exact quoteTok_len inEre_len2 hs hT h
  split at h
  · unfold nameS at h
    split at h
    · cases h
    · cases h; exact ⟨hT.snoc (by have:=take_len s (spanL innerB s); omega),drop_len ..⟩
  · unfold opTok at h
    split at h
    · cases h; exact ⟨hT.snoc (by have:=take_len s 2; omega),drop_len ..⟩
    split at h
    · cases h; exact ⟨hT.snoc (by have:=take_len s 1; omega),drop_len ..⟩
    · cases h
theorem lexL_tk {B:Nat}:∀ (f:Nat) (s:Bytes) (ts a:List Tok),2 * s.length + 2 <= B->Tk B ts->lexL f s ts=some a->Tk B a
  | 0,s,ts,a,_,_,h=>by cases h
  | f + 1,s,ts,a,hs,hT,h=>by
    rw [lexL] at h
    split at h
    · cases h; exact hT
    split at h
    · cases h
    · rename_i s' ts' ht
      have:=token_len hs hT ht
      split at h
      · exact lexL_tk f _ _ _ (by omega) this.1 h
      · cases h
end
end Go.AD.Lx
