import Derived.Test.YtjgjmpophpifgaaGreatDoorM7
import Derived.Test.YtjgjmpophpifgaaGreatDoorLsR
set_option linter.unusedVariables false
set_option linter.unusedSimpArgs false
namespace Go.AD.Lx
structure Stop (x:UInt8):Prop where
  dig:digitB x=false
  oct:octalB x=false
  inn:innerB x=false
  dot:x.toNat ≠ 46
  plus:x.toNat ≠ 43
  minus:x.toNat ≠ 45
  exp:(x ||| 32).toNat ≠ 101
  par:x.toNat ≠ 40
  twos:∀ c,listedS lTwos [c,x]=false
theorem stop10:Stop 10:=⟨by decide,by decide,by decide,by decide,by decide,by decide,by decide,by decide,allU8 (by decide +kernel)⟩
variable {x:UInt8} {s t:Bytes}
theorem span_app {p:UInt8->Bool} (h:p x=false):∀ s:Bytes,spanL p (s ++ x :: t)=spanL p s
  | []=>by simp [spanL,h]
  | c :: s=>by rw [List.cons_append,spanL,spanL,span_app h s]
theorem getD_app {u:Bytes} {n:Nat} (h:n < s.length):(s ++ u).getD n 0=s.getD n 0:=by
  simp [List.getD_eq_getElem?_getD,List.getElem?_append_left h]
theorem getD_at (s t:Bytes) (x:UInt8):(s ++ x :: t).getD s.length 0=x:=by simp [List.getD_eq_getElem?_getD]
theorem drop_app {u:Bytes} {n:Nat} (h:n <= s.length):(s ++ u).drop n=s.drop n ++ u:=List.drop_append_of_le_length h
theorem take_app {u:Bytes} {n:Nat} (h:n <= s.length):(s ++ u).take n=s.take n:=List.take_append_of_le_length h
theorem isAt_app {n k:Nat} (hn:n <= s.length) (hk:x.toNat ≠ k):isAt (s ++ x :: t) n k=isAt s n k:=by
  rcases Nat.lt_or_ge n s.length with h | h
  · unfold isAt
    rw [getD_app h,decide_eq_true h,decide_eq_true (by rw [List.length_append]; omega)]
  · have:n=s.length:=by omega
    subst this
    unfold isAt
    rw [getD_at,decide_eq_false (Nat.lt_irrefl _),Bool.false_and,Bool.and_eq_false_iff]
    exact .inr (by simpa using hk)
theorem expAt_app (hx:Stop x) {n:Nat} (h:n < s.length):expAt (s ++ x :: t) n=expAt s n:=by
  unfold expAt
  rw [isAt_app h hx.plus,isAt_app h hx.minus]
theorem expL_app (hx:Stop x) {n:Nat} (h:n <= s.length):expL (s ++ x :: t) n=expL s n:=by
  rcases Nat.lt_or_ge n s.length with h1 | h1
  · unfold expL
    rw [getD_app h1,decide_eq_true h1,decide_eq_true (by rw [List.length_append]; omega),expAt_app hx h1,drop_app (expAt_le h1),span_app hx.dig]
  · have:n=s.length:=by omega
    subst this
    unfold expL
    rw [getD_at,decide_eq_false (Nat.lt_irrefl _),Bool.false_and,if_neg (by
      rw [Bool.and_eq_true,beq_iff_eq]
      exact fun h=>hx.exp h.2)]
    rfl
theorem fracL_app (hx:Stop x) {n:Nat} (h:n <= s.length):fracL (s ++ x :: t) n=fracL s n:=by
  unfold fracL
  rw [isAt_app h hx.dot]
  by_cases h1:isAt s n 46=true
  · have:=isAt_lt h1
    rw [if_pos h1,if_pos h1,drop_app this,span_app hx.dig]
  · rw [if_neg h1,if_neg h1]
theorem number_app (hx:Stop x):numberL (s ++ x :: t)=numberL s:=by
  have h1:=span_le digitB s
  unfold numberL
  rw [span_app hx.dig,fracL_app hx h1,expL_app hx (fracL_le h1)]
theorem head_app {u:Bytes} (hs:s ≠ []):(s ++ u).getD 0 0=s.getD 0 0:=getD_app (List.length_pos_iff.2 hs)
theorem drop1_app {u:Bytes} (hs:s ≠ []):(s ++ u).drop 1=s.drop 1 ++ u:=drop_app (List.length_pos_iff.2 hs)
theorem inText_app (hx:Stop x) {r:Bytes} (hr:r ≠ []):inTextS (r ++ x :: t)=((inTextS r).1,(inTextS r).2 ++ x :: t):=by
  have h1:=span_le octalB r
  unfold inTextS
  rw [span_app hx.oct,head_app hr]
  by_cases h:0 < min (spanL octalB r) 3
  · rw [if_pos h,if_pos h,take_app (by omega),drop_app (by omega)]
  · rw [if_neg h,if_neg h,drop1_app hr]
theorem inEre_app {u r:Bytes} (hr:r ≠ []):inEreS (r ++ u)=((inEreS r).1,(inEreS r).2 ++ u):=by
  unfold inEreS
  rw [head_app hr]
  by_cases h:(r.getD 0 0).toNat=10
  · rw [if_pos h,if_pos h]
  · rw [if_neg h,if_neg h,drop1_app hr]
theorem quoted_some {q:UInt8} {e:Bytes->Bytes × Bytes} {u:Bytes} (he:∀ r,r ≠ []->e (r ++ u)=((e r).1,(e r).2 ++ u)) (hl:∀ r,r ≠ []->(e r).2.length <= r.length):∀ (f g:Nat) (s acc:Bytes) (tx r:Bytes),quotedS q e f s acc=some (tx,r)->(s ++ u).length < g->quotedS q e g (s ++ u) acc=some (tx,r ++ u)
  | 0,_,s,acc,tx,r,h,_=>by cases h
  | _ + 1,0,s,acc,tx,r,_,h=>absurd h (Nat.not_lt_zero _)
  | f + 1,g + 1,s,acc,tx,r,h,hg=>by
    rw [quotedS] at h
    split at h
    · cases h
    rename_i hs
    have hp:0 < s.length:=List.length_pos_iff.2 hs
    rw [List.length_append] at hg
    rw [quotedS,if_neg (by simp [hs]),head_app hs]
    split at h
    · cases h
    rename_i h1
    rw [if_neg h1]
    split at h
    · rename_i h2
      rw [if_pos h2,drop1_app hs]
      simp only [Option.some.injEq,Prod.mk.injEq] at h
      rw [h.1,h.2]
    rename_i h2
    rw [if_neg h2,drop1_app hs]
    have hd:(s.drop 1).length=s.length - 1:=by rw [List.length_drop]
    split at h
    · rename_i h3
      rw [if_pos h3]
      exact quoted_some he hl f g _ _ _ _ h (by rw [List.length_append]; omega)
    rename_i h3
    rw [if_neg h3]
    split at h
    · cases h
    rename_i h4
    have:=hl _ h4
    rw [if_neg (fun e=>h4 (List.append_eq_nil_iff.1 e).1),he _ h4]
    exact quoted_some he hl f g _ _ _ _ h (by rw [List.length_append]; omega)
def NoTail (s:Bytes):Prop:=s.getLast? ≠ some 92
theorem NoTail.suffix {r:Bytes} (h:NoTail s) (hr:r <:+ s):NoTail r:=by
  obtain ⟨p,rfl⟩:=hr
  unfold NoTail at *
  rw [List.getLast?_append] at h
  intro e
  rw [e] at h
  exact h rfl
theorem quoted_none {q:UInt8} (hq:q ≠ 10) {e:Bytes->Bytes × Bytes} (he:∀ r,r ≠ []->e (r ++ 10 :: t)=((e r).1,(e r).2 ++ 10 :: t)) (hl:∀ r,r ≠ []->(e r).2.length <= r.length) (hsx:∀ r,r ≠ []->(e r).2 <:+ r):∀ (f g:Nat) (s acc:Bytes),quotedS q e f s acc=none->s.length < f->NoTail s->(s ++ 10 :: t).length < g->quotedS q e g (s ++ 10 :: t) acc=none
  | 0,_,s,acc,_,hf,_,_=>absurd hf (Nat.not_lt_zero _)
  | _ + 1,0,s,acc,_,_,_,h=>absurd h (Nat.not_lt_zero _)
  | f + 1,g + 1,s,acc,h,hf,hn,hg=>by
    rw [List.length_append] at hg
    by_cases hs:s=[]
    · subst hs
      rw [quotedS,if_neg (by simp),if_pos (by rfl)]
    have hp:0 < s.length:=List.length_pos_iff.2 hs
    have hd:(s.drop 1).length=s.length - 1:=by rw [List.length_drop]
    have hn1:NoTail (s.drop 1):=hn.suffix (List.drop_suffix 1 s)
    rw [quotedS,if_neg hs] at h
    rw [quotedS,if_neg (by simp [hs]),head_app hs,drop1_app hs]
    by_cases h1:(s.getD 0 0).toNat=10
    · rw [if_pos h1]
    rw [if_neg h1] at h ⊢
    by_cases h2:s.getD 0 0=q
    · rw [if_pos h2] at h; cases h
    rw [if_neg h2] at h ⊢
    by_cases h3:(s.getD 0 0).toNat ≠ 92
    · rw [if_pos h3] at h ⊢
      exact quoted_none hq he hl hsx f g _ _ h (by omega) hn1 (by rw [List.length_append]; omega)
    rw [if_neg h3] at h ⊢
    by_cases h4:s.drop 1=[]
    · exfalso
      cases s with
      | nil=>exact hs rfl
      | cons c s =>
        simp only [List.drop_succ_cons,List.drop_zero] at h4
        subst h4
        apply hn
        have:c.toNat=92:=by simpa using h3
        have:c=92:=UInt8.toNat_inj.1 this
        rw [this]; rfl
    rw [if_neg h4] at h
    have:=hl _ h4
    rw [if_neg (fun e=>h4 (List.append_eq_nil_iff.1 e).1),he _ h4]
    exact quoted_none hq he hl hsx f g _ _ h (by omega) (hn1.suffix (hsx _ h4)) (by rw [List.length_append]; omega)
theorem inText_suffix (r:Bytes):(inTextS r).2 <:+ r:=by
  unfold inTextS
  split
  · exact List.drop_suffix _ _
  · exact List.drop_suffix _ _
theorem inEre_suffix (r:Bytes):(inEreS r).2 <:+ r:=by
  unfold inEreS
  split
  · exact List.suffix_refl _
  · exact List.drop_suffix _ _
theorem prefix_app (hn:NoTail s) (hs:s ≠ []) (u:Bytes):Lib.hasPrefix (s ++ u) [92,10]=Lib.hasPrefix s [92,10]:=by
  cases s with
  | nil=>exact absurd rfl hs
  | cons c s =>
    cases s with
    | nil =>
      have hc:c ≠ 92:=fun e=>hn (by rw [e]; rfl)
      have hb:((92:UInt8) == c)=false:=by simpa using Ne.symm hc
      simp [Lib.hasPrefix,List.isPrefixOf,hb]
    | cons d s=>simp [Lib.hasPrefix,List.isPrefixOf]
abbrev More (u:Bytes):Option (Bytes × List Tok)->Option (Bytes × List Tok):=Option.map fun p=>(p.1 ++ u,p.2)
theorem name_app (hx:Stop x) {ts:List Tok}:nameS (s ++ x :: t) ts=More (x :: t) (nameS s ts):=by
  have h1:=span_le innerB s
  unfold nameS
  rw [span_app hx.inn,take_app h1,drop_app h1]
  by_cases hb:listedS lBarred (s.take (spanL innerB s))=true
  · rw [if_pos hb,if_pos hb]; rfl
  · rw [if_neg hb,if_neg hb]
    have hp:Lib.hasPrefix (s.drop (spanL innerB s) ++ x :: t) [40]=Lib.hasPrefix (s.drop (spanL innerB s)) [40]:=by
      cases s.drop (spanL innerB s) with
      | nil =>
        have:((40:UInt8) == x)=false:=by
          have:=hx.par
          simp only [beq_eq_false_iff_ne,ne_eq]
          intro e; apply this; rw [<- e]; rfl
        simp [Lib.hasPrefix,List.isPrefixOf,this]
      | cons c r=>simp [Lib.hasPrefix,List.isPrefixOf]
    rw [hp]; rfl
theorem op_app (hx:Stop x) (hs:s ≠ []) {ts:List Tok}:opTok (s ++ x :: t) ts=More (x :: t) (opTok s ts):=by
  have hp:0 < s.length:=List.length_pos_iff.2 hs
  have h2:(decide (1 < (s ++ x :: t).length) && listedS lTwos ((s ++ x :: t).take 2))=(decide (1 < s.length) && listedS lTwos (s.take 2)):=by
    rcases Nat.lt_or_ge 1 s.length with h | h
    · rw [take_app h,decide_eq_true h,decide_eq_true (by rw [List.length_append]; omega)]
    · have hl:s.length=1:=by omega
      match s,hl with
      | [c],_ =>
        have:([c] ++ x :: t).take 2=[c,x]:=by simp
        rw [this,hx.twos c,Bool.and_false]
        rfl
  unfold opTok
  rw [h2,head_app hs,drop1_app hs,take_app hp]
  split
  · rename_i h
    rw [Bool.and_eq_true] at h
    have hl:2 <= s.length:=of_decide_eq_true h.1
    rw [drop_app hl,take_app hl]; rfl
  · split <;> rfl
theorem token_app (hx:Stop x) (hs:s ≠ []) (hn:NoTail s) {ts:List Tok}
    (hcom:(s.getD 0 0).toNat=35->spanL lineB (s ++ x :: t)=spanL lineB s)
    (hq1:(s.getD 0 0).toNat=34->quoteTok 34 inTextS kStr (s ++ x :: t) ts=More (x :: t) (quoteTok 34 inTextS kStr s ts))
    (hq2:(s.getD 0 0).toNat=47->operandS ts=false->quoteTok 47 inEreS kEre (s ++ x :: t) ts=More (x :: t) (quoteTok 47 inEreS kEre s ts)) :
    tokenS (s ++ x :: t) ts=More (x :: t) (tokenS s ts):=by
  have hnb:=number_le s
  unfold tokenS
  rw [head_app hs,prefix_app hn hs,number_app hx,drop1_app hs,name_app hx,op_app hx hs]
  generalize hc:(s.getD 0 0)=c at *
  by_cases h1:c.toNat=32 \/ c.toNat=9
  · rw [if_pos h1,if_pos h1]; rfl
  rw [if_neg h1,if_neg h1]
  by_cases h2:Lib.hasPrefix s [92,10]=true
  · rw [if_pos h2,if_pos h2]
    have hl:2 <= s.length:=by
      unfold Lib.hasPrefix at h2
      simpa using (List.isPrefixOf_iff_prefix.1 h2).length_le
    rw [drop_app hl]; rfl
  rw [if_neg h2,if_neg h2]
  by_cases h3:c.toNat=35
  · rw [if_pos h3,if_pos h3,hcom h3,drop_app (span_le _ _)]; rfl
  rw [if_neg h3,if_neg h3]
  by_cases h4:c.toNat=10
  · rw [if_pos h4,if_pos h4]; rfl
  rw [if_neg h4,if_neg h4]
  by_cases h5:0 < numberL s
  · rw [if_pos h5,if_pos h5,drop_app hnb,take_app hnb]; rfl
  rw [if_neg h5,if_neg h5]
  by_cases h6:c.toNat=34
  · rw [if_pos h6,if_pos h6,hq1 h6]
  rw [if_neg h6,if_neg h6]
  by_cases h7:c.toNat=47/\operandS ts=false
  · rw [if_pos h7,if_pos h7,hq2 h7.1 h7.2]
  rw [if_neg h7,if_neg h7]
  by_cases h8:letterB c=true
  · rw [if_pos h8,if_pos h8]
  · rw [if_neg h8,if_neg h8]
theorem quoteTok_some {q:UInt8} {e:Bytes->Bytes × Bytes} {u:Bytes} (he:∀ r,r ≠ []->e (r ++ u)=((e r).1,(e r).2 ++ u)) (hl:∀ r,r ≠ []->(e r).2.length <= r.length) (hs:s ≠ []) {k:Bytes} {ts:List Tok} {v:Bytes × List Tok} (h:quoteTok q e k s ts=some v):quoteTok q e k (s ++ u) ts=More u (quoteTok q e k s ts):=by
  unfold quoteTok at h ⊢
  have hd:(s.drop 1).length=s.length - 1:=by rw [List.length_drop]
  have hp:0 < s.length:=List.length_pos_iff.2 hs
  cases hq:quotedS q e (s.length + 1) (s.drop 1) [] with
  | none=>rw [hq] at h; cases h
  | some z =>
    obtain ⟨tx,r⟩:=z
    rw [drop1_app hs,quoted_some he hl _ ((s ++ u).length + 1) _ _ _ _ hq (by rw [List.length_append,List.length_append]; omega)]
    rfl
theorem quoteTok_ten {q:UInt8} (hq0:q ≠ 10) {e:Bytes->Bytes × Bytes} (he:∀ r,r ≠ []->e (r ++ 10 :: t)=((e r).1,(e r).2 ++ 10 :: t)) (hl:∀ r,r ≠ []->(e r).2.length <= r.length) (hsx:∀ r,r ≠ []->(e r).2 <:+ r) (hs:s ≠ []) (hn:NoTail s) {k:Bytes} {ts:List Tok}:quoteTok q e k (s ++ 10 :: t) ts=More (10 :: t) (quoteTok q e k s ts):=by
  cases h:quoteTok q e k s ts with
  | some v=>rw [<- h]; exact quoteTok_some he hl hs h
  | none =>
    have hd:(s.drop 1).length=s.length - 1:=by rw [List.length_drop]
    have hp:0 < s.length:=List.length_pos_iff.2 hs
    unfold quoteTok at h ⊢
    cases hq:quotedS q e (s.length + 1) (s.drop 1) [] with
    | some z=>rw [hq] at h; cases h
    | none =>
      rw [drop1_app hs,quoted_none hq0 he hl hsx _ ((s ++ 10 :: t).length + 1) _ _ hq (by omega) (hn.suffix (List.drop_suffix 1 s)) (by rw [List.length_append,List.length_append]; omega)]
      rfl
theorem inText_len (r:Bytes) (hr:r ≠ []):(inTextS r).2.length <= r.length:=Nat.le_of_lt (inText_le r hr)
theorem token_ten (hs:s ≠ []) (hn:NoTail s) (ts:List Tok):tokenS (s ++ 10 :: t) ts=More (10 :: t) (tokenS s ts) :=
  token_app stop10 hs hn (fun _=>span_app (by decide) s) (fun _=>quoteTok_ten (by decide) (fun r hr=>inText_app stop10 hr) inText_len (fun r _=>inText_suffix r) hs hn)
    (fun _ _=>quoteTok_ten (by decide) (fun r hr=>inEre_app hr) (fun r _=>inEre_le r) (fun r _=>inEre_suffix r) hs hn)
def lexU:Nat->Bytes->List Tok->Option (List Tok)
  | 0,_,_=>none
  | f + 1,s,ts=>if s=[] then some ts else match tokenS s ts with
    | none=>none
    | some (s',ts')=>lexU f s' ts'
theorem lexL_U:∀ (f:Nat) (s:Bytes) (ts:List Tok),ts.length + s.length <= 20000->lexL f s ts=lexU f s ts
  | 0,_,_,_=>rfl
  | f + 1,s,ts,h=>by
    rw [lexL,lexU]
    by_cases hs:s=[]
    · rw [if_pos hs,if_pos hs]
    rw [if_neg hs,if_neg hs]
    cases ht:tokenS s ts with
    | none=>rfl
    | some v =>
      obtain ⟨s',ts'⟩:=v
      obtain ⟨h1,h2⟩:=token_le hs ht
      simp only
      rw [if_pos (by omega),lexL_U f s' ts' (by omega)]
theorem lexU_fuel:∀ (f g:Nat) (s:Bytes) (ts:List Tok),s.length < f->s.length < g->lexU f s ts=lexU g s ts
  | 0,_,s,_,h,_=>absurd h (Nat.not_lt_zero _)
  | _ + 1,0,s,_,_,h=>absurd h (Nat.not_lt_zero _)
  | f + 1,g + 1,s,ts,h1,h2=>by
    rw [lexU,lexU]
    by_cases hs:s=[]
    · rw [if_pos hs,if_pos hs]
    rw [if_neg hs,if_neg hs]
    cases ht:tokenS s ts with
    | none=>rfl
    | some v =>
      obtain ⟨s',ts'⟩:=v
      obtain ⟨h3,h4⟩:=token_le hs ht
      exact lexU_fuel f g s' ts' (by omega) (by omega)
theorem lexS_U {s:Bytes} (h:s.length <= 20000) {f:Nat} (hf:s.length < f):lexS s=lexU f s []:=by
  rw [lexS,if_pos (by omega),lexL_U _ _ _ (by simpa using h)]
  exact lexU_fuel _ _ _ _ (Nat.lt_succ_self _) hf
theorem quoted_suffix {q:UInt8} {e:Bytes->Bytes × Bytes} (hsx:∀ r,(e r).2 <:+ r):∀ (f:Nat) (s acc tx r:Bytes),quotedS q e f s acc=some (tx,r)->r <:+ s
  | 0,_,_,_,_,h=>by cases h
  | f + 1,s,acc,tx,r,h=>by
    rw [quotedS] at h
    split at h
    · cases h
    split at h
    · cases h
    split at h
    · simp only [Option.some.injEq,Prod.mk.injEq] at h
      rw [<- h.2]; exact List.drop_suffix _ _
    split at h
    · exact (quoted_suffix hsx f _ _ _ _ h).trans (List.drop_suffix _ _)
    split at h
    · cases h
    · exact ((quoted_suffix hsx f _ _ _ _ h).trans (hsx _)).trans (List.drop_suffix _ _)
theorem token_suffix {ts:List Tok} {r:Bytes} {ts':List Tok} (h:tokenS s ts=some (r,ts')):r <:+ s:=by
  have qt:∀ q e k,(∀ r,(e r).2 <:+ r)->quoteTok q e k s ts=some (r,ts')->r <:+ s:=by
    intro q e k he h
    unfold quoteTok at h
    split at h
    · cases h
    · rename_i tx r' hq
      simp only [Option.some.injEq,Prod.mk.injEq] at h
      rw [<- h.1]
      exact (quoted_suffix he _ _ _ _ _ hq).trans (List.drop_suffix _ _)
  have ds:∀ {n:Nat} {z:List Tok},some (s.drop n,z)=some (r,ts')->r <:+ s:=by
    intro n z h
    simp only [Option.some.injEq,Prod.mk.injEq] at h
    rw [<- h.1]; exact List.drop_suffix _ _
  unfold tokenS at h
  split at h
  · exact ds h
  split at h
  · exact ds h
  split at h
  · exact ds h
  split at h
  · exact ds h
  split at h
  · exact ds h
  split at h
  · exact qt _ _ _ inText_suffix h
  split at h
  · exact qt _ _ _ inEre_suffix h
  split at h
  · unfold nameS at h
    split at h
    · cases h
    · exact ds h
  · unfold opTok at h
    split at h
    · exact ds h
    · split at h
      · exact ds h
      · cases h
theorem token_ahead (ps ts:List Tok) (h:operandS (ps ++ ts)=operandS ts):tokenS s (ps ++ ts)=(tokenS s ts).map fun p=>(p.1,ps ++ p.2):=by
  have q:∀ q e k,quoteTok q e k s (ps ++ ts)=(quoteTok q e k s ts).map fun p=>(p.1,ps ++ p.2):=by
    intro q e k
    unfold quoteTok
    cases quotedS q e (s.length + 1) (s.drop 1) [] with
    | none=>rfl
    | some v=>simp
  unfold tokenS
  rw [h,q,q]
  split
  · rfl
  split
  · rfl
  split
  · rfl
  split
  · simp
  split
  · simp
  split
  · rfl
  split
  · rfl
  split
  · unfold nameS; split <;> simp
  · unfold opTok
    split
    · simp
    · split <;> simp
theorem token_grow {ts:List Tok} {r:Bytes} {ts':List Tok} (h:tokenS s ts=some (r,ts')):ts'=ts \/ ∃ k,ts'=ts ++ [k]:=by
  have fin:∀ {a:Bytes} {z:List Tok},some (a,z)=some (r,ts')->(z=ts \/ ∃ k,z=ts ++ [k])->ts'=ts \/ ∃ k,ts'=ts ++ [k]:=by
    intro a z h h2
    simp only [Option.some.injEq,Prod.mk.injEq] at h
    rw [<- h.2]; exact h2
  have q:∀ q e k,quoteTok q e k s ts=some (r,ts')->ts'=ts \/ ∃ k,ts'=ts ++ [k]:=by
    intro q e k h
    unfold quoteTok at h
    split at h
    · cases h
    · exact fin h (.inr ⟨_,rfl⟩)
  unfold tokenS at h
  split at h
  · exact fin h (.inl rfl)
  split at h
  · exact fin h (.inl rfl)
  split at h
  · exact fin h (.inl rfl)
  split at h
  · exact fin h (.inr ⟨_,rfl⟩)
  split at h
  · exact fin h (.inr ⟨_,rfl⟩)
  split at h
  · exact q _ _ _ h
  split at h
  · exact q _ _ _ h
  split at h
  · unfold nameS at h
    split at h
    · cases h
    · exact fin h (.inr ⟨_,rfl⟩)
  · unfold opTok at h
    split at h
    · exact fin h (.inr ⟨_,rfl⟩)
    · split at h
      · exact fin h (.inr ⟨_,rfl⟩)
      · cases h
theorem operand_last (ps ts:List Tok) (k:Tok):operandS (ps ++ (ts ++ [k]))=operandS (ts ++ [k]):=by
  unfold operandS
  rw [<- List.append_assoc,List.getLast?_concat,List.getLast?_concat]
theorem lexU_ahead:∀ (f:Nat) (s:Bytes) (ps ts:List Tok),operandS (ps ++ ts)=operandS ts->lexU f s (ps ++ ts)=(lexU f s ts).map (ps ++ ·)
  | 0,_,_,_,_=>rfl
  | f + 1,s,ps,ts,h=>by
    rw [lexU,lexU,token_ahead ps ts h]
    by_cases hs:s=[]
    · rw [if_pos hs,if_pos hs]; rfl
    rw [if_neg hs,if_neg hs]
    cases ht:tokenS s ts with
    | none=>rfl
    | some v =>
      obtain ⟨s',ts'⟩:=v
      simp only [Option.map_some]
      refine lexU_ahead f s' ps ts' ?_
      rcases token_grow ht with rfl | ⟨k,rfl⟩
      · exact h
      · exact operand_last ps ts k
theorem lexU_join:∀ (f:Nat) (s:Bytes) (ts:List Tok),NoTail s->s.length + t.length + 1 < f->lexU f (s ++ 10 :: t) ts=match lexU f s ts with
    | none=>none
    | some a=>(lexU f t []).map ((a ++ [(kNl,[])]) ++ ·)
  | 0,s,ts,_,h=>absurd h (Nat.not_lt_zero _)
  | f + 1,s,ts,hn,h=>by
    by_cases hs:s=[]
    · subst hs
      have e1:lexU (f + 1) [] ts=some ts:=by rw [lexU,if_pos rfl]
      have e2:tokenS (10 :: t) ts=some (t,ts ++ [(kNl,[])]):=by
        unfold tokenS
        have e0:(10 :: t).getD 0 0=10:=rfl
        rw [e0,if_neg (by decide),if_neg (by simp [Lib.hasPrefix,List.isPrefixOf]),if_neg (by decide),if_pos (by decide)]
        rfl
      rw [e1,List.nil_append,lexU,if_neg (by simp),e2]
      simp only [List.length_nil] at h
      have:=lexU_ahead f t (ts ++ [(kNl,[])]) [] (by
        rw [List.append_nil]
        unfold operandS
        rw [List.getLast?_concat]
        rfl)
      rw [List.append_nil] at this
      simp only
      rw [this,lexU_fuel f (f + 1) t [] (by omega) (by omega)]
    · rw [lexU,if_neg (by simp [hs]),token_ten hs hn,lexU,if_neg hs]
      cases ht:tokenS s ts with
      | none=>rfl
      | some v =>
        obtain ⟨s',ts'⟩:=v
        have h1:=token_le hs ht
        simp only [Option.map_some]
        rw [lexU_join f s' ts' (hn.suffix (token_suffix ht)) (by omega)]
        rw [lexU_fuel f (f + 1) t [] (by omega) (by omega)]
theorem lex_join (hn:NoTail s) (hs:s.length <= 2000) (ht:t.length <= 2000):lexS (s ++ 10 :: t)=match lexS s with
    | none=>none
    | some a=>(lexS t).map ((a ++ [(kNl,[])]) ++ ·):=by
  have hl:(s ++ 10 :: t).length=s.length + (t.length + 1):=by simp
  rw [lexS_U (f:=s.length + t.length + 2) (by omega) (by omega),lexU_join _ _ _ hn (by omega),lexS_U (s:=s) (f:=s.length + t.length + 2) (by omega) (by omega),lexS_U (s:=t) (f:=s.length + t.length + 2) (by omega) (by omega)]
end Go.AD.Lx

set_option linter.unusedVariables false
set_option linter.unusedSimpArgs false
set_option maxRecDepth 100000
namespace Go.AD.Lx
theorem okL_some {α:Type} {m:R α} {a:α} (h:okL m=some a):∃ t,m=.ok a t:=by
  cases m with
  | out=>cases h
  | wrong=>cases h
  | ok b t=>cases h; exact ⟨t,rfl⟩
theorem bnd_ok {α β:Type} {m:R α} {k:α->List Tok->R β} {b:β} {t:List Tok} (h:bnd m k=.ok b t):∃ a r,m=.ok a r/\k a r=.ok b t:=by
  cases m with
  | out=>cases h
  | wrong=>cases h
  | ok a r=>exact ⟨a,r,rfl,h⟩
def ItemOk (x:NTree):Prop:=okN x/\fineS x 1 (whereOf x)=true/\(x.op=oRule->x.kids.length=2)
theorem items_step {n f:Nat} {l:List NTree} {ts:List Tok} {A:List NTree} {t:List Tok} (hne:ts ≠ []) (h:itemsL (recN n) (f + 1) l ts=.ok A t):∃ x us,itemS (recN n) ts=.ok x us/\fineS x.1 1 (whereOf x.1)=true/\itemsL (recN n) f (l ++ [x.1]) (endsS us)=.ok A t:=by
  rw [itemsL,if_neg hne] at h
  obtain ⟨x,us,hi,h⟩:=bnd_ok h
  split at h
  · rename_i hf
    split at h
    · exact ⟨x,us,hi,hf,h⟩
    · cases h
  · cases h
mutual
def depthN:NTree->Nat
  | .mk _ _ kids=>depthNs kids + 1
def depthNs:List NTree->Nat
  | []=>0
  | n :: l=>max (depthN n) (depthNs l)
end
mutual
theorem fine_depth:∀ (n:NTree) (d:Nat) (w:WhereS),fineS n d w=true->d + depthN n <= 201
  | .mk op text kids,d,w,h=>by
    rw [fineS] at h
    split at h
    · cases h
    · rename_i hc
      rw [depthN]
      have hd:d <= 200:=by
        rcases Nat.lt_or_ge 200 d with h | h
        · exact absurd (.inl h) hc
        · exact h
      have:=fines_depth kids _ _ d w hd h
      omega
theorem fines_depth:∀ (l:List NTree) (i:Nat) (lp:Int) (d:Nat) (w:WhereS),d <= 200->finesS l i lp d w=true->d + 1 + depthNs l <= 201
  | [],i,lp,d,w,hd,h=>by rw [depthNs]; omega
  | n :: l,i,lp,d,w,hd,h=>by
    rw [finesS] at h
    split at h
    · rename_i h1
      have:=fine_depth n _ _ h1
      have:=fines_depth l _ _ d w hd h
      rw [depthNs]; omega
    · cases h
end
mutual
theorem fine_deeper:∀ (n:NTree) (d:Nat) (w:WhereS),fineS n d w=true->d + depthN n <= 200->fineS n (d + 1) w=true
  | .mk op text kids,d,w,h,hd=>by
    rw [fineS] at h ⊢
    rw [depthN] at hd
    split at h
    · cases h
    · rename_i hc
      rw [if_neg (fun hh=>hh.elim (fun hh=>by omega) (fun hh=>hc (.inr hh)))]
      exact fines_deeper kids _ _ d w h (by omega)
theorem fines_deeper:∀ (l:List NTree) (i:Nat) (lp:Int) (d:Nat) (w:WhereS),finesS l i lp d w=true->d + 1 + depthNs l <= 200->finesS l i lp (d + 1) w=true
  | [],i,lp,d,w,h,hd=>by rw [finesS]
  | n :: l,i,lp,d,w,h,hd=>by
    rw [finesS] at h ⊢
    rw [depthNs] at hd
    split at h
    · rename_i h1
      rw [if_pos (fine_deeper n _ _ h1 (by omega))]
      exact fines_deeper l _ _ d w h (by omega)
    · cases h
end
theorem depthNs_mem:∀ {l:List NTree} {i:Nat} (h:i < l.length),depthN l[i] <= depthNs l
  | n :: l,0,_=>by rw [depthNs]; exact Nat.le_max_left ..
  | n :: l,i + 1,h=>by rw [depthNs]; exact Nat.le_trans (depthNs_mem (l:=l) (i:=i) (by simpa using h)) (Nat.le_max_right ..)
theorem depthN_kids (n:NTree):depthN n=depthNs n.kids + 1:=by cases n; rw [depthN]; rfl
open Go.Proofs RowKit
theorem nc (a:List NTree) {i:Nat} (h:i < a.length) (k:Nat) (hk:k < 3):(flatN a)[i * 3 + k]?=(nodeCells a[i])[k]?:=by
  have e:=flatN_get a i h
  rw [<- e,List.getElem?_take,if_pos hk,List.getElem?_drop]
theorem nc0 {a:List NTree} {i:Nat} (h:i < a.length):(flatN a)[i * 3]?=some (.str a[i].op):=by
  have:=nc a h 0 (by decide)
  rw [nodeCells_eq] at this
  exact this
end Go.AD.Lx

set_option linter.unusedVariables false
set_option linter.unusedSimpArgs false
set_option maxRecDepth 100000
namespace Go.AD.Lx
def lSpecial:Bytes:=[32,78,70,32,78,82,32,70,78,82,32,70,83,32,79,70,83,32,79,82,83,32,82,83,32,70,73,76,69,78,65,77,69,32,83,85,66,83,69,80,32,67,79,78,86,70,77,84,32,79,70,77,84,32,82,83,84,65,82,84,32,82,76,69,78,71,84,72,32]
def specialB (n:Bytes):Bool:=listedS lSpecial n
def sGsub:Bytes:=[103,115,117,98]
def sSplit:Bytes:=[115,112,108,105,116]
def sMatch:Bytes:=[109,97,116,99,104]
def sInt:Bytes:=[105,110,116]
def sIndex:Bytes:=[105,110,100,101,120]
def sNF:Bytes:=[78,70]
def sNR:Bytes:=[78,82]
def sFNR:Bytes:=[70,78,82]
def cSum:Bytes:=[115,117,109]
def cSums:Bytes:=[115,117,109,115]
def cLast:Bytes:=[108,97,115,116]
def cMax:Bytes:=[109,97,120]
def cMin:Bytes:=[109,105,110]
def changesB (n:NTree):Bool:=(n.op == oAssign) || (n.op == oPre) || (n.op == oPost) || (n.op == kBuilt) && ((n.text == sSub) || (n.text == sGsub))
def pureF:Nat->List NTree->Bool
  | 0,_=>true
  | m + 1,l=>l.all fun n=>!changesB n && pureF m n.kids
def all2 (p:NTree->NTree->Bool):List NTree->List NTree->Bool
  | a :: la,b :: lb=>p a b && all2 p la lb
  | _,_=>true
def sameF:Nat->NTree->NTree->Bool
  | 0,_,_=>true
  | m + 1,a,b=>(a.op == b.op) && (a.text == b.text) && (a.kids.length == b.kids.length) && all2 (sameF m) a.kids b.kids
def numericF:Nat->NTree->Bool
  | 0,_=>false
  | m + 1,n=>if n.op=kNum \/ n.op=kEre \/ n.op=oUnary then true
    else if n.op=oBin then !(n.text == oCat)
    else if n.op=oVar then (n.text == sNF) || (n.text == sNR) || (n.text == sFNR)
    else if n.op=kBuilt then (n.text == sLength) || (n.text == sInt) || (n.text == sIndex)
    else if n.op=oCond then decide (n.kids.length=3) && (numericF m (n.kids.getD 1 noneN) && numericF m (n.kids.getD 2 noneN))
    else if n.op=oGroup then decide (n.kids.length=1) && numericF m (n.kids.getD 0 noneN)
    else false
def innerF:Nat->NTree->NTree
  | 0,n=>n
  | m + 1,n=>if n.op=oGroup/\n.kids.length=1 then innerF m (n.kids.getD 0 noneN) else n
structure FormS where
  cls:Bytes
  to:NTree
  by_:List NTree
def z0S:NTree:=.mk [] [] []
def form0:FormS:=⟨[],z0S,[]⟩
def variableB (n:NTree):Bool:=(n.op == oVar) && !specialB n.text
def addsB (n:NTree):Bool:=!(n.op == oAssign) || (n.text == [43,61]) || (n.text == [45,61])
def changedF (m:Nat) (n:NTree):FormS × Bool :=
  if (!(n.op == oAssign) && !(n.op == oPre) && !(n.op == oPost)) || decide (n.kids.length=0) then (form0,false)
  else
    let to:=n.kids.getD 0 noneN
    let c:=if variableB to && addsB n then cSum else if variableB to && (n.text == [61]) then cLast else if (to.op == oElem) && (addsB n && pureF m n.kids) then cSums else []
    (⟨c,to,n.kids.drop 1⟩,!(c == []))
def mostF (m:Nat) (c s:NTree):FormS × Bool :=
  let c:=innerF m c
  let s:=if s.op=oBlock/\s.kids.length=1 then s.kids.getD 0 noneN else s
  if c.op ≠ oBin \/ c.kids.length ≠ 2 \/ s.op ≠ oExpr \/ s.kids.length ≠ 1 then (form0,false)
  else
    let e:=c.kids.getD 0 noneN
    let v:=c.kids.getD 1 noneN
    let k:=if c.text=[62] then cMax else if c.text=[60] then cMin else []
    if k=[] \/ variableB v=false \/ pureF m [e]=false \/ (numericF m e=false/\(innerF m e).op ≠ oField) \/ sameF m (s.kids.getD 0 noneN) (.mk oAssign [61] [v,e])=false then (form0,false)
    else (⟨k,v,[e]⟩,true)
def ofF (m:Nat) (n:NTree):FormS × Bool :=
  if n.op=oExpr/\n.kids.length=1 then changedF m (n.kids.getD 0 noneN)
  else if n.op=oIf/\n.kids.length=2 then mostF m (n.kids.getD 0 noneN) (n.kids.getD 1 noneN)
  else (form0,false)
structure FdS where
  classes:List (Bytes × Bytes)
  asked:List Bytes
  bad:Bool
def assocG (l:List (Bytes × Bytes)) (k:Bytes):Option Bytes:=(l.find? fun p=>p.1 == k).map (·.2)
def assocP:List (Bytes × Bytes)->Bytes->Bytes->List (Bytes × Bytes)
  | [],k,v=>[(k,v)]
  | p :: l,k,v=>if p.1=k then (k,v) :: l else p :: assocP l k v
def insB (l:List Bytes) (k:Bytes):List Bytes:=if k ∈ l then l else l ++ [k]
def ask1 (n:NTree) (st:FdS):FdS :=
  if n.op=oCall \/ n.op=wIn \/ n.op=oElem then { st with bad:=true }
  else if n.op=oVar then { st with asked:=insB st.asked n.text }
  else if n.op=kBuilt then { st with bad:=st.bad || (n.text == sSplit) || (n.text == sMatch) || (changesB n && (decide (n.kids.length=3) && !((n.kids.getD 2 noneN).op == oField))) }
  else if (n.op=oAssign \/ n.op=oPre \/ n.op=oPost)/\0 < n.kids.length then { st with bad:=st.bad || (!((n.kids.getD 0 noneN).op == oField) && (!((n.kids.getD 0 noneN).op == oVar) || !((n.kids.getD 0 noneN).text == sNF))) }
  else st
def askF:Nat->List NTree->FdS->FdS
  | 0,_,st=>st
  | m + 1,l,st=>l.foldl (fun st n=>askF m n.kids (ask1 n st)) st
def updateF (m:Nat) (x:FormS) (st:FdS):FdS :=
  let b:=st.bad || (match assocG st.classes x.to.text with | some c=>!(c == x.cls) | none=>false) || specialB x.to.text
  askF m x.to.kids (askF m x.by_ { st with classes:=assocP st.classes x.to.text x.cls,bad:=b })
def stepF (m:Nat) (rec:List NTree->FdS->FdS) (n:NTree) (st:FdS):FdS :=
  if (ofF m n).2=true then updateF m (ofF m n).1 st
  else if n.op=oExit \/ n.op=oDelete \/ n.op=oForin then { st with bad:=true }
  else if n.op=oPrint \/ n.op=oPrintf then askF m n.kids { st with bad:=st.bad || !(n.text == []) }
  else if n.op=oExpr then askF m n.kids st
  else if (n.op=oIf \/ n.op=oWhile)/\0 < n.kids.length then rec (n.kids.drop 1) (askF m [n.kids.getD 0 noneN] st)
  else if n.op=oDo/\n.kids.length=2 then askF m [n.kids.getD 1 noneN] (rec [n.kids.getD 0 noneN] st)
  else if n.op=oFor/\n.kids.length=4 then rec [n.kids.getD 0 noneN,n.kids.getD 2 noneN,n.kids.getD 3 noneN] (askF m [n.kids.getD 1 noneN] st)
  else rec n.kids st
def statementF (m:Nat):Nat->List NTree->FdS->FdS
  | 0,_,st=>st
  | g + 1,l,st=>l.foldl (fun st n=>stepF m (statementF m g) n st) st
def itemsF (m:Nat):List NTree->FdS->Option FdS
  | [],st=>some st
  | n :: l,st=>if n.op=oRange then none else if n.op=oRule/\n.kids.length=2 then itemsF m l (statementF m m [n.kids.getD 1 noneN] (askF m [n.kids.getD 0 noneN] st)) else itemsF m l st
def sortS (l:List Bytes):List Bytes:=l.mergeSort fun x y=>decide (x <= y)
def findF (m:Nat) (l:List NTree):Option (List (Bytes × Bytes)):=match itemsF m l ⟨[],[],false⟩ with
  | none=>none
  | some st=>if (st.bad || (sortS (st.classes.map (·.1))).any fun k=>decide (k ∈ st.asked))=true then none else some ((sortS (st.classes.map (·.1))).map fun k=>(k,(assocG st.classes k).getD []))
end Go.AD.Lx

set_option linter.unusedVariables false
set_option maxRecDepth 100000
namespace Go.AD
open Go.Proofs.Tryz
def an22:An:={ mu:=[],cut:=[],loop:=[] }
def S22 (env:Env) (name0_a:AV) (s:AS) (K:AV->AS->Prop) (X:PV->AS->Prop):Prop :=
 (lock binD prog .add 9 (.pv (.str [32])) name0_a fun t4 =>
 (lock binD prog .add 9 t4 (.pv (.str [32])) fun t5 =>
 (env 24 [(.pv (.str [32,78,70,32,78,82,32,70,78,82,32,70,83,32,79,70,83,32,79,82,83,32,82,83,32,70,73,76,69,78,65,77,69,32,83,85,66,83,69,80,32,67,79,78,86,70,77,84,32,79,70,77,84,32,82,83,84,65,82,84,32,82,76,69,78,71,84,72,32])),t5] s (fun t6 s1 =>
 (retV (t6) s1 K)) (panV X))))
theorem S22_eq (env:Env) (name0_a:AV) (s:AS) (K:AV->AS->Prop) (X:PV->AS->Prop):S22 env name0_a s K X=bodyD prog env an22 f22 [name0_a] s K X:=by
  unfold S22
  kernel_rfl
theorem S22_ok:(match f22.body with | some c=>okCode an22 prog f22.ntmps c | none=>false)=true:=by kernel_rfl
def an88:An:={ mu:=[],cut:=[(5,[1,4,5])],loop:=[] }
def J88_5 (env:Env)  (n1_j5 t4_j5 t5_j5:AV) (s:AS) (K:AV->AS->Prop) (X:PV->AS->Prop):Prop :=
 (condD t5_j5
 (retV ((.pv (.bool true))) s K)
 (lock binD prog .eql 9 t4_j5 (.pv (.str [98,117,105,108,116])) fun t10 =>
 (condD t10
 (lock fieldAddrD prog 50 n1_j5 1 fun t11 =>
 (lock loadD prog s 9 t11 fun t12 =>
 (lock binD prog .eql 9 t12 (.pv (.str [115,117,98])) fun t13 =>
 (guardD t13 false
 (lock fieldAddrD prog 50 n1_j5 1 fun t15 =>
 (lock loadD prog s 9 t15 fun t16 =>
 (lock binD prog .eql 9 t16 (.pv (.str [103,115,117,98])) fun t17 =>
 (retV (t17) s K))))
 (retV ((.pv (.bool true))) s K)))))
 (retV ((.pv (.bool false))) s K))))
def S88 (env:Env) (n0_a:AV) (s:AS) (K:AV->AS->Prop) (X:PV->AS->Prop):Prop :=
 (lock boxD s n0_a fun t1 s1 =>
 (lock fieldAddrD prog 50 t1 0 fun t3 =>
 (lock loadD prog s1 9 t3 fun t4 =>
 (lock binD prog .eql 9 t4 (.pv (.str [97,115,115,105,103,110])) fun t6 =>
 (condD t6
 (J88_5 env  (t1) (t4) (t6) s1 K X)
 (lock binD prog .eql 9 t4 (.pv (.str [112,114,101])) fun t7 =>
 (condD t7
 (J88_5 env  (t1) (t4) (t7) s1 K X)
 (lock binD prog .eql 9 t4 (.pv (.str [112,111,115,116])) fun t8 =>
 (J88_5 env  (t1) (t4) (t8) s1 K X)))))))))
theorem S88_eq (env:Env) (n0_a:AV) (s:AS) (K:AV->AS->Prop) (X:PV->AS->Prop):S88 env n0_a s K X=bodyD prog env an88 f88 [n0_a] s K X:=by
  unfold S88
  kernel_rfl
theorem S88_ok:(match f88.body with | some c=>okCode an88 prog f88.ntmps c | none=>false)=true:=by kernel_rfl
def an166:An:={ mu:=[],cut:=[],loop:=[] }
def S166 (env:Env) (n0_a:AV) (s:AS) (K:AV->AS->Prop) (X:PV->AS->Prop):Prop :=
 (lock boxD s n0_a fun t1 s1 =>
 (lock fieldAddrD prog 50 t1 0 fun t3 =>
 (lock loadD prog s1 9 t3 fun t4 =>
 (lock binD prog .eql 9 t4 (.pv (.str [118,97,114])) fun t5 =>
 (guardD t5 true
 (lock fieldAddrD prog 50 t1 1 fun t7 =>
 (lock loadD prog s1 9 t7 fun t8 =>
 (env 22 [t8] s1 (fun t9 s2 =>
 (unD .not t9 fun t10 =>
 (retV (t10) s2 K))) (panV X))))
 (retV ((.pv (.bool false))) s1 K))))))
theorem S166_eq (env:Env) (n0_a:AV) (s:AS) (K:AV->AS->Prop) (X:PV->AS->Prop):S166 env n0_a s K X=bodyD prog env an166 f166 [n0_a] s K X:=by
  unfold S166
  kernel_rfl
theorem S166_ok:(match f166.body with | some c=>okCode an166 prog f166.ntmps c | none=>false)=true:=by kernel_rfl
def an169:An:={ mu:=[],cut:=[(5,[1,4,5])],loop:=[] }
def J169_5 (env:Env)  (n1_j5 t4_j5 t5_j5:AV) (s:AS) (K:AV->AS->Prop) (X:PV->AS->Prop):Prop :=
 (condD t5_j5
 (retV ((.pv (.bool true))) s K)
 (lock binD prog .eql 9 t4_j5 (.pv (.str [98,105,110])) fun t10 =>
 (condD t10
 (lock fieldAddrD prog 50 n1_j5 1 fun t11 =>
 (lock loadD prog s 9 t11 fun t12 =>
 (lock binD prog .neq 9 t12 (.pv (.str [99,97,116])) fun t13 =>
 (retV (t13) s K))))
 (lock binD prog .eql 9 t4_j5 (.pv (.str [118,97,114])) fun t15 =>
 (condD t15
 (lock fieldAddrD prog 50 n1_j5 1 fun t16 =>
 (lock loadD prog s 9 t16 fun t17 =>
 (lock binD prog .eql 9 t17 (.pv (.str [78,70])) fun t18 =>
 (guardD t18 false
 (lock fieldAddrD prog 50 n1_j5 1 fun t20 =>
 (lock loadD prog s 9 t20 fun t21 =>
 (lock binD prog .eql 9 t21 (.pv (.str [78,82])) fun t22 =>
 (guardD t22 false
 (lock fieldAddrD prog 50 n1_j5 1 fun t25 =>
 (lock loadD prog s 9 t25 fun t26 =>
 (lock binD prog .eql 9 t26 (.pv (.str [70,78,82])) fun t27 =>
 (retV (t27) s K))))
 (retV ((.pv (.bool true))) s K)))))
 (retV ((.pv (.bool true))) s K)))))
 (lock binD prog .eql 9 t4_j5 (.pv (.str [98,117,105,108,116])) fun t30 =>
 (condD t30
 (lock fieldAddrD prog 50 n1_j5 1 fun t31 =>
 (lock loadD prog s 9 t31 fun t32 =>
 (lock binD prog .eql 9 t32 (.pv (.str [108,101,110,103,116,104])) fun t33 =>
 (guardD t33 false
 (lock fieldAddrD prog 50 n1_j5 1 fun t35 =>
 (lock loadD prog s 9 t35 fun t36 =>
 (lock binD prog .eql 9 t36 (.pv (.str [105,110,116])) fun t37 =>
 (guardD t37 false
 (lock fieldAddrD prog 50 n1_j5 1 fun t40 =>
 (lock loadD prog s 9 t40 fun t41 =>
 (lock binD prog .eql 9 t41 (.pv (.str [105,110,100,101,120])) fun t42 =>
 (retV (t42) s K))))
 (retV ((.pv (.bool true))) s K)))))
 (retV ((.pv (.bool true))) s K)))))
 (lock binD prog .eql 9 t4_j5 (.pv (.str [99,111,110,100])) fun t45 =>
 (condD t45
 (lock fieldAddrD prog 50 n1_j5 2 fun t46 =>
 (lock loadD prog s 23 t46 fun t47 =>
 (lock lenD prog 23 t47 fun t48 =>
 (lock binD prog .eql 3 t48 (.pv (.int .i64 3)) fun t49 =>
 (guardD t49 true
 (lock fieldAddrD prog 50 n1_j5 2 fun t51 =>
 (lock loadD prog s 23 t51 fun t52 =>
 (lock indexAddrD prog 23 t52 (.pv (.int .i64 1)) fun t53 =>
 (lock loadD prog s 50 t53 fun t54 =>
 (env 169 [t54] s (fun t55 s2 =>
 (guardD t55 true
 (lock fieldAddrD prog 50 n1_j5 2 fun t58 =>
 (lock loadD prog s2 23 t58 fun t59 =>
 (lock indexAddrD prog 23 t59 (.pv (.int .i64 2)) fun t60 =>
 (lock loadD prog s2 50 t60 fun t61 =>
 (env 169 [t61] s2 (fun t62 s3 =>
 (retV (t62) s3 K)) (panV X))))))
 (retV ((.pv (.bool false))) s2 K))) (panV X))))))
 (retV ((.pv (.bool false))) s K))))))
 (lock binD prog .eql 9 t4_j5 (.pv (.str [103,114,111,117,112])) fun t65 =>
 (condD t65
 (lock fieldAddrD prog 50 n1_j5 2 fun t66 =>
 (lock loadD prog s 23 t66 fun t67 =>
 (lock lenD prog 23 t67 fun t68 =>
 (lock binD prog .eql 3 t68 (.pv (.int .i64 1)) fun t69 =>
 (guardD t69 true
 (lock fieldAddrD prog 50 n1_j5 2 fun t71 =>
 (lock loadD prog s 23 t71 fun t72 =>
 (lock indexAddrD prog 23 t72 (.pv (.int .i64 0)) fun t73 =>
 (lock loadD prog s 50 t73 fun t74 =>
 (env 169 [t74] s (fun t75 s4 =>
 (retV (t75) s4 K)) (panV X))))))
 (retV ((.pv (.bool false))) s K))))))
 (retV ((.pv (.bool false))) s K))))))))))))
def S169 (env:Env) (n0_a:AV) (s:AS) (K:AV->AS->Prop) (X:PV->AS->Prop):Prop :=
 (lock boxD s n0_a fun t1 s1 =>
 (lock fieldAddrD prog 50 t1 0 fun t3 =>
 (lock loadD prog s1 9 t3 fun t4 =>
 (lock binD prog .eql 9 t4 (.pv (.str [110,117,109])) fun t6 =>
 (condD t6
 (J169_5 env  (t1) (t4) (t6) s1 K X)
 (lock binD prog .eql 9 t4 (.pv (.str [101,114,101])) fun t7 =>
 (condD t7
 (J169_5 env  (t1) (t4) (t7) s1 K X)
 (lock binD prog .eql 9 t4 (.pv (.str [117,110,97,114,121])) fun t8 =>
 (J169_5 env  (t1) (t4) (t8) s1 K X)))))))))
theorem S169_eq (env:Env) (n0_a:AV) (s:AS) (K:AV->AS->Prop) (X:PV->AS->Prop):S169 env n0_a s K X=bodyD prog env an169 f169 [n0_a] s K X:=by
  unfold S169
  kernel_rfl
theorem S169_ok:(match f169.body with | some c=>okCode an169 prog f169.ntmps c | none=>false)=true:=by kernel_rfl
def an168:An:={ mu:=[],cut:=[(2,[1,2])],loop:=[(1,[1,2])] }
def J168_2 (env:Env) (I1:Nat->List AV->AS->Prop) (m1:Nat) (n1_j2 t2_j2:AV) (s:AS) (K:AV->AS->Prop) (X:PV->AS->Prop):Prop :=
 (lock fieldAddrD prog 50 n1_j2 2 fun t12 =>
 (lock loadD prog s 23 t12 fun t13 =>
 (lock indexAddrD prog 23 t13 (.pv (.int .i64 0)) fun t14 =>
 (lock loadD prog s 50 t14 fun t15 =>
 (lock storeD prog s 50 n1_j2 t15 fun s4 =>
 (∃ m',m' < m1/\I1 m' [n1_j2,t2_j2] s4))))))
def L168_1 (env:Env) (I1:Nat->List AV->AS->Prop) (m1:Nat) (n1_l1 t2_l1:AV) (s:AS) (K:AV->AS->Prop) (X:PV->AS->Prop):Prop :=
 (lock fieldAddrD prog 50 n1_l1 0 fun t3 =>
 (lock loadD prog s 9 t3 fun t4 =>
 (lock binD prog .eql 9 t4 (.pv (.str [103,114,111,117,112])) fun t5 =>
 (guardD t5 true
 (lock fieldAddrD prog 50 n1_l1 2 fun t7 =>
 (lock loadD prog s 23 t7 fun t8 =>
 (lock lenD prog 23 t8 fun t9 =>
 (lock binD prog .eql 3 t9 (.pv (.int .i64 1)) fun t10 =>
 (condD t10
 (J168_2 env I1 m1 (n1_l1) (t2_l1) s K X)
 (lock loadD prog s 50 n1_l1 fun t16 =>
 (lock storeD prog s 50 t2_l1 t16 fun s5 =>
 (lock loadD prog s5 50 t2_l1 fun r0 =>
 (retV (r0) s5 K)))))))))
 (lock loadD prog s 50 n1_l1 fun t16 =>
 (lock storeD prog s 50 t2_l1 t16 fun s6 =>
 (lock loadD prog s6 50 t2_l1 fun r0 =>
 (retV (r0) s6 K))))))))
theorem L168_1_eq (env:Env) (I1:Nat->List AV->AS->Prop) (m1:Nat) (n1_l1 t2_l1:AV) (s:AS) (K:AV->AS->Prop) (X:PV->AS->Prop):L168_1 env I1 m1 n1_l1 t2_l1 s K X=wpD prog env an168 (subC (bodyC f168) [1,0,0,0]) (contQ prog env an168 (bodyC f168) [1,0,0,0] [(I1,m1)] (rootQ prog f168 K X)) [(1,n1_l1),(2,t2_l1)] s:=by
  unfold L168_1
  kernel_rfl
theorem lp168_1 {α:Type} {env:Env}  {n1_l1 t2_l1:AV} {s:AS} {K:AV->AS->Prop} {X:PV->AS->Prop} (μ:α->AS->Nat) (I:α->AS->Prop) (a0:α) (h0:I a0 s)
 (h:∀ a s,I a s->L168_1 env  (Inv (fun a=>[n1_l1,t2_l1]) μ I) (μ a s) n1_l1 t2_l1 s K X) :
 ∃ I1:Nat->List AV->AS->Prop,(∃ m,I1 m [n1_l1,t2_l1] s)/\∀ (m:Nat) (x0 x1:AV),∀ s,I1 m [x0,x1] s ->
 L168_1 env  I1 m x0 x1 s K X:=by
  refine ⟨Inv (fun a=>[n1_l1,t2_l1]) μ I,⟨_,a0,rfl,rfl,h0⟩,?_⟩
  rintro m x0 x1 s' ⟨a,hv,rfl,hI⟩
  simp only [List.cons.injEq,and_true] at hv
  obtain ⟨rfl,rfl⟩:=hv
  exact h a s' hI
def S168 (env:Env) (n0_a:AV) (s:AS) (K:AV->AS->Prop) (X:PV->AS->Prop):Prop :=
 (lock boxD s n0_a fun t1 s1 =>
 (lock allocD prog s1 50 fun t2 s2 =>
 (∃ I1:Nat->List AV->AS->Prop,(∃ m,I1 m [t1,t2] s2)/\∀ (m1:Nat) (n1_l1 t2_l1:AV),∀ s3,I1 m1 [n1_l1,t2_l1] s3 ->
 (L168_1 env I1 m1 n1_l1 t2_l1 s3 K X))))
theorem S168_eq (env:Env) (n0_a:AV) (s:AS) (K:AV->AS->Prop) (X:PV->AS->Prop):S168 env n0_a s K X=bodyD prog env an168 f168 [n0_a] s K X:=by
  unfold S168
  simp only [L168_1_eq]
  kernel_rfl
theorem S168_ok:(match f168.body with | some c=>okCode an168 prog f168.ntmps c | none=>false)=true:=by kernel_rfl
def an167:An:={ mu:=[],cut:=[],loop:=[] }
def S167 (env:Env) (l0_a:AV) (s:AS) (K:AV->AS->Prop) (X:PV->AS->Prop):Prop :=
 (env 98 [l0_a,(.pv (.func 186))] s (fun t4 s1 =>
 (unD .not t4 fun t5 =>
 (retV (t5) s1 K))) (panV X))
theorem S167_eq (env:Env) (l0_a:AV) (s:AS) (K:AV->AS->Prop) (X:PV->AS->Prop):S167 env l0_a s K X=bodyD prog env an167 f167 [l0_a] s K X:=by
  unfold S167
  kernel_rfl
theorem S167_ok:(match f167.body with | some c=>okCode an167 prog f167.ntmps c | none=>false)=true:=by kernel_rfl
def an186:An:={ mu:=[],cut:=[],loop:=[] }
def S186 (env:Env) (n0_a:AV) (s:AS) (K:AV->AS->Prop) (X:PV->AS->Prop):Prop :=
 (lock boxD s n0_a fun t1 s1 =>
 (lock loadD prog s1 50 t1 fun t3 =>
 (env 88 [t3] s1 (fun t4 s2 =>
 (guardD t4 false
 (lock fieldAddrD prog 50 t1 2 fun t6 =>
 (lock loadD prog s2 23 t6 fun t7 =>
 (env 167 [t7] s2 (fun t8 s3 =>
 (unD .not t8 fun t9 =>
 (retV (t9) s3 K))) (panV X))))
 (retV ((.pv (.bool true))) s2 K))) (panV X))))
theorem S186_eq (env:Env) (n0_a:AV) (s:AS) (K:AV->AS->Prop) (X:PV->AS->Prop):S186 env n0_a s K X=bodyD prog env an186 f186 [n0_a] s K X:=by
  unfold S186
  kernel_rfl
theorem S186_ok:(match f186.body with | some c=>okCode an186 prog f186.ntmps c | none=>false)=true:=by kernel_rfl
def an98:An:={ mu:=[],cut:=[],loop:=[] }
def S98 (env:Env) (s0_a f1_a:AV) (s:AS) (K:AV->AS->Prop) (X:PV->AS->Prop):Prop :=
 (env 141 [s0_a,f1_a] s (fun t7 s1 =>
 (lock binD prog .geq 3 t7 (.pv (.int .i64 0)) fun t8 =>
 (retV (t8) s1 K))) (panV X))
theorem S98_eq (env:Env) (s0_a f1_a:AV) (s:AS) (K:AV->AS->Prop) (X:PV->AS->Prop):S98 env s0_a f1_a s K X=bodyD prog env an98 f98 [s0_a,f1_a] s K X:=by
  unfold S98
  kernel_rfl
theorem S98_ok:(match f98.body with | some c=>okCode an98 prog f98.ntmps c | none=>false)=true:=by kernel_rfl
def an141:An:={ mu:=[],cut:=[],loop:=[(2,[0,1,7,8])] }
def L141_2 (env:Env) (I2:Nat->List AV->AS->Prop) (m2:Nat) (s0_l2 f1_l2 t7_l2 t8_l2:AV) (s:AS) (K:AV->AS->Prop) (X:PV->AS->Prop):Prop :=
 (lock binD prog .lss 3 t8_l2 t7_l2 fun t9 =>
 (condD t9
 (lock indexAddrD prog 23 s0_l2 t8_l2 fun t14 =>
 (lock loadD prog s 50 t14 fun t15 =>
 (callD env f1_l2 [t15] s (fun t16 s2 =>
 (condD t16
 (retV (t8_l2) s2 K)
 (lock binD prog .add 3 t8_l2 (.pv (.int .i64 1)) fun t18 =>
 (∃ m',m' < m2/\I2 m' [s0_l2,f1_l2,t7_l2,t18] s2)))) (panV X))))
 (retV ((.pv (.int .i64 (-1)))) s K)))
theorem L141_2_eq (env:Env) (I2:Nat->List AV->AS->Prop) (m2:Nat) (s0_l2 f1_l2 t7_l2 t8_l2:AV) (s:AS) (K:AV->AS->Prop) (X:PV->AS->Prop):L141_2 env I2 m2 s0_l2 f1_l2 t7_l2 t8_l2 s K X=wpD prog env an141 (subC (bodyC f141) [1,0,1,0,0]) (contQ prog env an141 (bodyC f141) [1,0,1,0,0] [(I2,m2)] (rootQ prog f141 K X)) [(0,s0_l2),(1,f1_l2),(7,t7_l2),(8,t8_l2)] s:=by
  unfold L141_2
  kernel_rfl
theorem lp141_2 {α:Type} {env:Env}  {s0_l2 f1_l2 t7_l2:AV} {s:AS} {K:AV->AS->Prop} {X:PV->AS->Prop} (μ:α->AS->Nat) (I:α->AS->Prop) (et8_l2:α->AV) (a0:α) (h0:I a0 s)
 (h:∀ a s,I a s->L141_2 env  (Inv (fun a=>[s0_l2,f1_l2,t7_l2,et8_l2 a]) μ I) (μ a s) s0_l2 f1_l2 t7_l2 (et8_l2 a) s K X) :
 ∃ I2:Nat->List AV->AS->Prop,(∃ m,I2 m [s0_l2,f1_l2,t7_l2,et8_l2 a0] s)/\∀ (m:Nat) (x0 x1 x2 x3:AV),∀ s,I2 m [x0,x1,x2,x3] s ->
 L141_2 env  I2 m x0 x1 x2 x3 s K X:=by
  refine ⟨Inv (fun a=>[s0_l2,f1_l2,t7_l2,et8_l2 a]) μ I,⟨_,a0,rfl,rfl,h0⟩,?_⟩
  rintro m x0 x1 x2 x3 s' ⟨a,hv,rfl,hI⟩
  simp only [List.cons.injEq,and_true] at hv
  obtain ⟨rfl,rfl,rfl,rfl⟩:=hv
  exact h a s' hI
def S141 (env:Env) (s0_a f1_a:AV) (s:AS) (K:AV->AS->Prop) (X:PV->AS->Prop):Prop :=
 (lock lenD prog 23 s0_a fun t7 =>
 (∃ I2:Nat->List AV->AS->Prop,(∃ m,I2 m [s0_a,f1_a,t7,(.pv (.int .i64 0))] s)/\∀ (m2:Nat) (s0_l2 f1_l2 t7_l2 t8_l2:AV),∀ s1,I2 m2 [s0_l2,f1_l2,t7_l2,t8_l2] s1 ->
 (L141_2 env I2 m2 s0_l2 f1_l2 t7_l2 t8_l2 s1 K X)))
theorem S141_eq (env:Env) (s0_a f1_a:AV) (s:AS) (K:AV->AS->Prop) (X:PV->AS->Prop):S141 env s0_a f1_a s K X=bodyD prog env an141 f141 [s0_a,f1_a] s K X:=by
  unfold S141
  simp only [L141_2_eq]
  kernel_rfl
theorem S141_ok:(match f141.body with | some c=>okCode an141 prog f141.ntmps c | none=>false)=true:=by kernel_rfl
def an187:An:={ mu:=[],cut:=[],loop:=[(4,[1,2,15,16,17])] }
def L187_4 (env:Env) (I4:Nat->List AV->AS->Prop) (m4:Nat) (s21_l4 eq2_l4 t15_l4 t16_l4 t17_l4:AV) (s:AS) (K:AV->AS->Prop) (X:PV->AS->Prop):Prop :=
 (lock binD prog .lss 3 t17_l4 t16_l4 fun t18 =>
 (condD t18
 (lock indexAddrD prog 23 t15_l4 t17_l4 fun t20 =>
 (lock loadD prog s 50 t20 fun t21 =>
 (lock allocD prog s 50 fun t8 s2 =>
 (lock storeD prog s2 50 t8 t21 fun s3 =>
 (lock indexAddrD prog 23 s21_l4 t17_l4 fun t24 =>
 (lock loadD prog s3 50 t24 fun t25 =>
 (lock allocD prog s3 50 fun t9 s4 =>
 (lock storeD prog s4 50 t9 t25 fun s5 =>
 (lock loadD prog s5 50 t8 fun t27 =>
 (lock loadD prog s5 50 t9 fun t28 =>
 (callD env eq2_l4 [t27,t28] s5 (fun t29 s6 =>
 (unD .not t29 fun t30 =>
 (condD t30
 (retV ((.pv (.bool false))) s6 K)
 (lock binD prog .add 3 t17_l4 (.pv (.int .i64 1)) fun t31 =>
 (∃ m',m' < m4/\I4 m' [s21_l4,eq2_l4,t15_l4,t16_l4,t31] s6))))) (panV X))))))))))))
 (retV ((.pv (.bool true))) s K)))
theorem L187_4_eq (env:Env) (I4:Nat->List AV->AS->Prop) (m4:Nat) (s21_l4 eq2_l4 t15_l4 t16_l4 t17_l4:AV) (s:AS) (K:AV->AS->Prop) (X:PV->AS->Prop):L187_4 env I4 m4 s21_l4 eq2_l4 t15_l4 t16_l4 t17_l4 s K X=wpD prog env an187 (subC (bodyC f187) [1,1,0,1,0,0]) (contQ prog env an187 (bodyC f187) [1,1,0,1,0,0] [(I4,m4)] (rootQ prog f187 K X)) [(1,s21_l4),(2,eq2_l4),(15,t15_l4),(16,t16_l4),(17,t17_l4)] s:=by
  unfold L187_4
  kernel_rfl
theorem lp187_4 {α:Type} {env:Env}  {s21_l4 eq2_l4 t15_l4 t16_l4:AV} {s:AS} {K:AV->AS->Prop} {X:PV->AS->Prop} (μ:α->AS->Nat) (I:α->AS->Prop) (et17_l4:α->AV) (a0:α) (h0:I a0 s)
 (h:∀ a s,I a s->L187_4 env  (Inv (fun a=>[s21_l4,eq2_l4,t15_l4,t16_l4,et17_l4 a]) μ I) (μ a s) s21_l4 eq2_l4 t15_l4 t16_l4 (et17_l4 a) s K X) :
 ∃ I4:Nat->List AV->AS->Prop,(∃ m,I4 m [s21_l4,eq2_l4,t15_l4,t16_l4,et17_l4 a0] s)/\∀ (m:Nat) (x0 x1 x2 x3 x4:AV),∀ s,I4 m [x0,x1,x2,x3,x4] s ->
 L187_4 env  I4 m x0 x1 x2 x3 x4 s K X:=by
  refine ⟨Inv (fun a=>[s21_l4,eq2_l4,t15_l4,t16_l4,et17_l4 a]) μ I,⟨_,a0,rfl,rfl,h0⟩,?_⟩
  rintro m x0 x1 x2 x3 x4 s' ⟨a,hv,rfl,hI⟩
  simp only [List.cons.injEq,and_true] at hv
  obtain ⟨rfl,rfl,rfl,rfl,rfl⟩:=hv
  exact h a s' hI
def S187 (env:Env) (s10_a s21_a eq2_a:AV) (s:AS) (K:AV->AS->Prop) (X:PV->AS->Prop):Prop :=
 (lock lenD prog 23 s10_a fun t11 =>
 (lock lenD prog 23 s21_a fun t13 =>
 (lock binD prog .neq 3 t11 t13 fun t14 =>
 (condD t14
 (retV ((.pv (.bool false))) s K)
 (lock lenD prog 23 s10_a fun t16 =>
 (∃ I4:Nat->List AV->AS->Prop,(∃ m,I4 m [s21_a,eq2_a,s10_a,t16,(.pv (.int .i64 0))] s)/\∀ (m4:Nat) (s21_l4 eq2_l4 t15_l4 t16_l4 t17_l4:AV),∀ s1,I4 m4 [s21_l4,eq2_l4,t15_l4,t16_l4,t17_l4] s1 ->
 (L187_4 env I4 m4 s21_l4 eq2_l4 t15_l4 t16_l4 t17_l4 s1 K X)))))))
theorem S187_eq (env:Env) (s10_a s21_a eq2_a:AV) (s:AS) (K:AV->AS->Prop) (X:PV->AS->Prop):S187 env s10_a s21_a eq2_a s K X=bodyD prog env an187 f187 [s10_a,s21_a,eq2_a] s K X:=by
  unfold S187
  simp only [L187_4_eq]
  kernel_rfl
theorem S187_ok:(match f187.body with | some c=>okCode an187 prog f187.ntmps c | none=>false)=true:=by kernel_rfl
def an170:An:={ mu:=[],cut:=[],loop:=[] }
def S170 (env:Env) (a0_a b1_a:AV) (s:AS) (K:AV->AS->Prop) (X:PV->AS->Prop):Prop :=
 (lock boxD s a0_a fun t2 s1 =>
 (lock boxD s1 b1_a fun t3 s2 =>
 (lock fieldAddrD prog 50 t2 0 fun t5 =>
 (lock loadD prog s2 9 t5 fun t6 =>
 (lock fieldAddrD prog 50 t3 0 fun t7 =>
 (lock loadD prog s2 9 t7 fun t8 =>
 (lock binD prog .eql 9 t6 t8 fun t9 =>
 (guardD t9 true
 (lock fieldAddrD prog 50 t2 1 fun t11 =>
 (lock loadD prog s2 9 t11 fun t12 =>
 (lock fieldAddrD prog 50 t3 1 fun t13 =>
 (lock loadD prog s2 9 t13 fun t14 =>
 (lock binD prog .eql 9 t12 t14 fun t15 =>
 (guardD t15 true
 (lock fieldAddrD prog 50 t2 2 fun t18 =>
 (lock loadD prog s2 23 t18 fun t19 =>
 (lock fieldAddrD prog 50 t3 2 fun t20 =>
 (lock loadD prog s2 23 t20 fun t21 =>
 (env 187 [t19,t21,(.pv (.func 170))] s2 (fun t22 s3 =>
 (retV (t22) s3 K)) (panV X))))))
 (retV ((.pv (.bool false))) s2 K)))))))
 (retV ((.pv (.bool false))) s2 K)))))))))
theorem S170_eq (env:Env) (a0_a b1_a:AV) (s:AS) (K:AV->AS->Prop) (X:PV->AS->Prop):S170 env a0_a b1_a s K X=bodyD prog env an170 f170 [a0_a,b1_a] s K X:=by
  unfold S170
  kernel_rfl
theorem S170_ok:(match f170.body with | some c=>okCode an170 prog f170.ntmps c | none=>false)=true:=by kernel_rfl
end Go.AD
