import Derived.Test.YtjgjmpophpifgaaGreatDoorM19
import Derived.Test.YtjgjmpophpifgaaGreatDoorG17
import Derived.Shelf.SlIter.Nil
import Derived.Shelf.SortM.Plain
import Derived.Shelf.SortM.SortNone
import Derived.Ground.GgzProg
import Derived.Ground.SlgmProg
import Derived.Test.YtjgjmpophpifgaaGreatDoorChecked
set_option linter.unusedVariables false
set_option linter.unusedSimpArgs false
set_option maxRecDepth 100000
namespace Go.AD.Lx
open Go.Proofs RowKit
def mapEsF:Nat->List (Bytes × AV)->List ME
  | _,[]=>[]
  | i,p :: l=>([p.1],p.2,i) :: mapEsF (i + 1) l
def mapEs (l:List (Bytes × AV)):List ME:=mapEsF 0 l
def aGet (l:List (Bytes × AV)) (k:Bytes):Option AV:=(l.find? fun p=>p.1 == k).map (·.2)
def aPut:List (Bytes × AV)->Bytes->AV->List (Bytes × AV)
  | [],k,v=>[(k,v)]
  | p :: l,k,v=>if p.1=k then (k,v) :: l else p :: aPut l k v
theorem mapEsF_get:∀ (i:Nat) (l:List (Bytes × AV)) (k:Bytes),mapGet (mapEsF i l) [k]=aGet l k
  | i,[],k=>rfl
  | i,p :: l,k=>by
    rw [mapEsF,mapGet]
    unfold aGet
    rw [List.find?_cons]
    by_cases h:p.1=k
    · rw [if_pos (by rw [h]),show (p.1 == k)=true from beq_iff_eq.2 h]; rfl
    · rw [if_neg (fun e=>h (by cases e; rfl)),show (p.1 == k)=false from beq_eq_false_iff_ne.2 h]
      exact mapEsF_get (i + 1) l k
theorem mapEsF_set:∀ (i:Nat) (l:List (Bytes × AV)) (k:Bytes) (v:AV),match mapSet (mapEsF i l) [k] v with
    | some es=>es=mapEsF i (aPut l k v)/\(aPut l k v).length=l.length
    | none=>mapEsF i l ++ [([k],v,i + l.length)]=mapEsF i (aPut l k v)/\(aPut l k v).length=l.length + 1
  | i,[],k,v=>⟨rfl,rfl⟩
  | i,p :: l,k,v=>by
    rw [mapEsF,mapSet,aPut]
    by_cases h:p.1=k
    · rw [if_pos (show ([p.1],p.2,i).1=[k] by rw [h]),if_pos h]
      exact ⟨rfl,rfl⟩
    · rw [if_neg (show ¬ ([p.1],p.2,i).1=[k] from fun e=>h (by cases e; rfl)),if_neg h]
      have ih:=mapEsF_set (i + 1) l k v
      cases hm:mapSet (mapEsF (i + 1) l) [k] v with
      | some es =>
        rw [hm] at ih
        exact ⟨by rw [mapEsF,ih.1],by rw [List.length_cons,ih.2,List.length_cons]⟩
      | none =>
        rw [hm] at ih
        refine ⟨?_,by rw [List.length_cons,ih.2,List.length_cons]⟩
        rw [mapEsF,<- ih.1,List.cons_append,List.length_cons]
        have:i + (l.length + 1)=i + 1 + l.length:=by omega
        rw [this]
section
variable {env:Env} {args:List AV} {σ0 σ τ:AS} {K:AV->AS->Prop} {X:PV->AS->Prop} {L Y M:Objs}
def mapA (id:Nat) (l:List (Bytes × AV)):Nat × AObj:=(id,.mapO 1 (mapEs l) l.length)
theorem keyT:keyTy PS 9=some 1:=by kernel_rfl
theorem mapUpd {t kt et:TypeId} (ht:mapTy PS t=some (kt,et)) (hk:keyTy PS kt=some 1) {A B:Objs} {id:Nat} {l:List (Bytes × AV)} {k:Bytes} {v:AV} {KS:AS->Prop} (hS:Sep σ0 σ (A ++ mapA id l :: B))
    (hK:∀ σ',Sep σ0 σ' (A ++ mapA id (aPut l k v) :: B)->KS σ'):mapUpdateD PS σ t (.amap id) (.pv (.str k)) v KS:=by
  have hg:σ id=some (.mapO 1 (mapEs l) l.length):=hS.get (by simp [mapA])
  unfold mapUpdateD
  rw [ht]
  simp only [keyOf,hg]
  refine ⟨hk,rfl,?_⟩
  have:=mapEsF_set 0 l k v
  unfold mapEs at *
  cases hm:mapSet (mapEsF 0 l) [k] v with
  | some es =>
    rw [hm] at this
    simp only
    refine hK _ ?_
    have h2:=Sep.set hS (.mapO 1 es l.length)
    unfold mapA mapEs
    rw [this.2,<- this.1]
    exact h2
  | none =>
    rw [hm] at this
    simp only
    refine hK _ ?_
    have h2:=Sep.set hS (.mapO 1 (mapEsF 0 l ++ [([k],v,l.length)]) (l.length + 1))
    unfold mapA mapEs
    rw [this.2,<- this.1,Nat.zero_add]
    exact h2
theorem mapLook {t kt et:TypeId} (ht:mapTy PS t=some (kt,et)) (hk:keyTy PS kt=some 1) {z:AV} (hz:zeroV PS et=some z) {id n:Nat} {l:List (Bytes × AV)} {k:Bytes} {ok:Bool} {K:AV->Prop} (hg:σ id=some (.mapO 1 (mapEs l) n)) :
    lookupD PS σ t (.amap id) (.pv (.str k)) ok K=K (match aGet l k with | some v=>okV ok v true | none=>okV ok z false):=by
  unfold lookupD
  rw [ht]
  simp only [keyOf,hg]
  have:=mapEsF_get 0 l k
  unfold mapEs
  rw [this,hz]
  have h1:keyTy PS kt=some ([k]:MK).length:=hk
  have h2:(1=([k]:MK).length)=True:=eq_true rfl
  rw [eq_true h1,h2]
  simp only [true_and]
  cases aGet l k <;> rfl
def FObj (p c a:Nat) (st:FdS):Objs:=[(p,.cells [.amap c,.amap a,.pv (.bool st.bad)] none),mapA c (st.classes.map fun q=>(q.1,.pv (.str q.2))),mapA a (st.asked.map fun k=>(k,.pv (.bool true)))]
structure FAt (σ0 σ:AS) (p c a:Nat) (st:FdS) (L:Objs):Prop where
  sep:Sep σ0 σ (FObj p c a st ++ L)
variable {p c a:Nat} {st:FdS}
theorem FAt.get (h:FAt σ0 σ p c a st L):σ p=some (.cells [.amap c,.amap a,.pv (.bool st.bad)] none):=h.sep.get (by simp [FObj])
theorem FAt.sub (h:FAt σ0 σ p c a st L):σ0.sub σ:=h.sep.sub
theorem FAt.up (h:FAt σ0 σ p c a st L) {σ':AS} (hs:σ.sub σ'):FAt σ0 σ' p c a st L:=⟨upS h.sep hs⟩
theorem FAt.part {L':Objs} (h:FAt σ0 σ p c a st L) (hs:L'.Sublist L):FAt σ0 σ p c a st L':=⟨h.sep.sublist ((List.Sublist.refl _).append hs)⟩
theorem FAt.alloc (h:FAt σ0 σ p c a st L) {t:Nat} (ht:σ t=none) (o:AObj):FAt σ0 (σ.set t o) p c a st ((t,o) :: L):=⟨(h.sep.alloc ht o).perm List.perm_middle.symm⟩
theorem FAt.at (h:FAt σ0 σ p c a st L) {i:Nat} {o:AObj} (hi:(i,o) ∈ L):σ i=some o:=h.sep.get (List.mem_append_right _ hi)
theorem FAt.setBad {b:Bool} {KS:AS->Prop} (h:FAt σ0 σ p c a st L) (hK:∀ σ',FAt σ0 σ' p c a { st with bad:=b } L->KS σ'):storeD PS σ 4 (.addr p 2) (.pv (.bool b)) KS:=by
  simp only [T.stp4,h.get,stM_cells,Nat.zero_add,List.set_cons_succ,List.set_cons_zero]
  refine ⟨by simp,hK _ ⟨?_⟩⟩
  exact h.sep.set1 _
theorem mapTB:mapTy PS 33=some (9,4):=by kernel_rfl
theorem mapTS:mapTy PS 94=some (9,9):=by kernel_rfl
theorem insB_map (l:List Bytes) (k:Bytes):(insB l k).map (fun k=>((k,.pv (.bool true)):Bytes × AV))=aPut (l.map fun k=>(k,.pv (.bool true))) k (.pv (.bool true)):=by
  unfold insB
  induction l with
  | nil=>rfl
  | cons x l ih =>
    rw [List.map_cons,aPut]
    by_cases h:x=k
    · subst h
      rw [if_pos (List.mem_cons_self ..),if_pos rfl]
      rfl
    · rw [if_neg (show ¬ (x,AV.pv (.bool true)).1=k from h),<- ih]
      by_cases hm:k ∈ l
      · rw [if_pos (List.mem_cons_of_mem _ hm),if_pos hm]; rfl
      · rw [if_neg (fun hh=>by rcases List.mem_cons.1 hh with hh | hh; exact h hh.symm; exact hm hh),if_neg hm]; rfl
theorem assocP_map (l:List (Bytes × Bytes)) (k v:Bytes):(assocP l k v).map (fun q=>((q.1,.pv (.str q.2)):Bytes × AV))=aPut (l.map fun q=>(q.1,.pv (.str q.2))) k (.pv (.str v)):=by
  induction l with
  | nil=>rfl
  | cons x l ih =>
    rw [List.map_cons,aPut,assocP]
    by_cases h:x.1=k
    · rw [if_pos h,if_pos h]; rfl
    · rw [if_neg h,if_neg h,List.map_cons,ih]
theorem assocG_map (l:List (Bytes × Bytes)) (k:Bytes):aGet (l.map fun q=>(q.1,.pv (.str q.2))) k=(assocG l k).map fun v=>.pv (.str v):=by
  unfold aGet assocG
  induction l with
  | nil=>rfl
  | cons x l ih =>
    rw [List.map_cons,List.find?_cons,List.find?_cons]
    cases hx:(x.1 == k) with
    | true=>rfl
    | false=>exact ih
theorem FAt.ask {KS:AS->Prop} {k:Bytes} (h:FAt σ0 σ p c a st L) (hK:∀ σ',FAt σ0 σ' p c a { st with asked:=insB st.asked k } L->KS σ'):mapUpdateD PS σ 33 (.amap a) (.pv (.str k)) (.pv (.bool true)) KS:=by
  refine mapUpd mapTB keyT (A:=[_,_]) (B:=L) h.sep (fun σ' h2=>hK σ' ⟨?_⟩)
  unfold FObj
  rw [insB_map]
  exact h2
theorem FAt.put {KS:AS->Prop} {k v:Bytes} (h:FAt σ0 σ p c a st L) (hK:∀ σ',FAt σ0 σ' p c a { st with classes:=assocP st.classes k v } L->KS σ'):mapUpdateD PS σ 94 (.amap c) (.pv (.str k)) (.pv (.str v)) KS:=by
  refine mapUpd mapTS keyT (A:=[_]) (B:=_ :: L) h.sep (fun σ' h2=>hK σ' ⟨?_⟩)
  unfold FObj
  rw [assocP_map]
  exact h2
def T_fAsk (m:Nat):Tr:=fun args σ K _=>∃ (σ0:AS) (p c a:Nat) (st:FdS) (L:Objs) (l:List NTree),args=[.addr p 0,.pv (.lst l.length (flatN l))]/\FAt σ0 σ p c a st L/\depthNs l < m/\l.length <= 1000000/\okXs l /\
  ∀ σ',FAt σ0 σ' p c a (askF m l st) L->K (.tuple []) σ'
theorem fld2 {K:AV->Prop} {p:Nat}:fieldAddrD PS 96 (.addr p 0) 2 K=K (.addr p 2):=T.fa96_2
theorem ask_call {m:Nat} (h:env 39=T_fAsk m) {p c a:Nat} {st:FdS} {l:List NTree} (hF:FAt σ0 σ p c a st L) (h1:depthNs l < m) (h2:l.length <= 1000000) (h3:okXs l) (hK:∀ σ',FAt σ0 σ' p c a (askF m l st) L->K (.tuple []) σ'):env 39 [.addr p 0,.pv (.lst l.length (flatN l))] σ K X:=by
  rw [h]; exact ⟨σ0,p,c,a,st,L,l,rfl,hF,h1,h2,h3,hK⟩
theorem T_fAsk_ok {m:Nat} (h1:env 39=T_fAsk m) (h2:env 88=T_NodeB changesB) (h:T_fAsk (m + 1) args σ K X):bodyD PS env an39 Tryz.f39 args σ K X:=by
  obtain ⟨σ0,p,c,a,st,L,l,rfl,hF,hd,hl,hok,hK⟩:=h
  rw [<- S39_eq env,S39]
  simp only [lock_eq,T.lnl23]
  refine lp39_1 (fun (q:Nat × FdS) _=>l.length - q.1) (fun q τ=>FAt σ0 τ p c a q.2 L/\q.1 <= l.length/\(l.drop q.1).foldl (fun st n=>askF m n.kids (ask1 n st)) q.2=askF (m + 1) l st) (fun q=>.pv (.int .i64 (q.1:Nat))) (0,st) ⟨hF,Nat.zero_le _,by rw [List.drop_zero]; rfl⟩ ?_
  clear hF
  rintro ⟨i,s⟩ τ ⟨hF,hi,hq⟩
  simp only at hF hi hq
  unfold L39_1
  simp (disch:=omega) only [lock_eq,go_sem]
  refine iteI (fun g=>?_) (fun g=>?_)
  · simp only [node_ix g,ldK g,kidD g]
    have hokn:=okXs_mem hok i g
    have hdn:=depthNs_mem g
    rw [List.drop_eq_getElem_cons g,List.foldl_cons] at hq
    generalize l[i]=n at hokn hdn hq ⊢
    obtain ⟨htx,hkl,hkx⟩:=okX_kids hokn
    refine alloc_of T.zo50 rfl (fun t5 ht5=>?_)
    have hF:=hF.alloc ht5 (.cells zeroN (some 50))
    refine storeBox (A:=FObj p c a s) (B:=L) hF.sep (fun σ3 hS3=>?_)
    have hF3:FAt σ0 σ3 p c a s (boxV t5 (some 50) n :: L):=⟨hS3⟩
    clear hS3 hF
    have hgn:∀ {σ':AS} {s':FdS},FAt σ0 σ' p c a s' (boxV t5 (some 50) n :: L)->σ' t5=some (.cells [.pv (.str n.op),.pv (.str n.text),.pv (.lst n.kids.length (flatN n.kids))] (some 50)):=fun h=>h.at (by simp [boxV])
    have j18:∀ (s':FdS) (σ':AS),s'=ask1 n s->FAt σ0 σ' p c a s' (boxV t5 (some 50) n :: L) ->
        J39_18 env (Inv (fun (q:Nat × FdS)=>[.addr p 0,AV.pv (.lst l.length (flatN l)),.pv (.int .i64 (l.length:Nat)),.pv (.int .i64 (q.1:Nat))]) (fun q _=>l.length - q.1) (fun q τ=>FAt σ0 τ p c a q.2 L/\q.1 <= l.length/\(l.drop q.1).foldl (fun st n=>askF m n.kids (ask1 n st)) q.2=askF (m + 1) l st)) (l.length - i) (.addr p 0) (.addr t5 0) (.pv (.lst l.length (flatN l))) (.pv (.int .i64 (l.length:Nat))) (.pv (.int .i64 (i:Nat))) σ' K X:=by
      rintro s' σ' rfl hF'
      unfold J39_18
      simp (disch:=omega) only [lock_eq,T.fa50_2,T.ld23,hgn hF',ldM_cells,Nat.zero_add,List.getElem?_cons_zero,List.getElem?_cons_succ,someEx]
      refine ask_call h1 hF' (by have:=depthN_kids n; omega) hkl hkx (fun σ5 hF5=>?_)
      simp (disch:=omega) only [go_sem]
      refine back (i + 1,askF m n.kids (ask1 n s)) rfl (by simp only; omega) ⟨hF5.part (List.sublist_cons_self ..),g,?_⟩
      simp only
      exact hq
    have bad18:∀ (b:Bool) (σ':AS),{ s with bad:=b }=ask1 n s->FAt σ0 σ' p c a s (boxV t5 (some 50) n :: L)->storeD PS σ' 4 (.addr p 2) (.pv (.bool b)) fun σ4 =>
        J39_18 env (Inv (fun (q:Nat × FdS)=>[.addr p 0,AV.pv (.lst l.length (flatN l)),.pv (.int .i64 (l.length:Nat)),.pv (.int .i64 (q.1:Nat))]) (fun q _=>l.length - q.1) (fun q τ=>FAt σ0 τ p c a q.2 L/\q.1 <= l.length/\(l.drop q.1).foldl (fun st n=>askF m n.kids (ask1 n st)) q.2=askF (m + 1) l st)) (l.length - i) (.addr p 0) (.addr t5 0) (.pv (.lst l.length (flatN l))) (.pv (.int .i64 (l.length:Nat))) (.pv (.int .i64 (i:Nat))) σ4 K X :=
      fun b σ' e hF'=>hF'.setBad fun σ4 hF4=>j18 _ σ4 e hF4
    have badB:∀ (B:Bool),ask1 n s={ s with bad:=B }->∀ (b:Bool) (σ':AS),b=B->FAt σ0 σ' p c a s (boxV t5 (some 50) n :: L)->storeD PS σ' 4 (.addr p 2) (.pv (.bool b)) fun σ4 =>
        J39_18 env (Inv (fun (q:Nat × FdS)=>[.addr p 0,AV.pv (.lst l.length (flatN l)),.pv (.int .i64 (l.length:Nat)),.pv (.int .i64 (q.1:Nat))]) (fun q _=>l.length - q.1) (fun q τ=>FAt σ0 τ p c a q.2 L/\q.1 <= l.length/\(l.drop q.1).foldl (fun st n=>askF m n.kids (ask1 n st)) q.2=askF (m + 1) l st)) (l.length - i) (.addr p 0) (.addr t5 0) (.pv (.lst l.length (flatN l))) (.pv (.int .i64 (l.length:Nat))) (.pv (.int .i64 (i:Nat))) σ4 K X :=
      fun B e b σ' hb hF'=>bad18 b σ' (by rw [hb,e]) hF'
    have ix:∀ (i:Nat) (h:i < n.kids.length) (K:AV->Prop),indexAddrD PS 23 (.pv (.lst n.kids.length (flatN n.kids))) (.pv (.int .i64 (i:Nat))) K=K (.elemP (flatN n.kids) (i * 3)):=fun i h K=>node_ix h
    have j15:∀ b:Bool,(n.op=oCall \/ n.op=wIn \/ n.op=oElem)=False->(n.op=oVar)=False->(n.op=kBuilt)=False->(b=true ↔ (n.op=oAssign \/ n.op=oPre \/ n.op=oPost)) ->
        J39_15 env (Inv (fun (q:Nat × FdS)=>[.addr p 0,AV.pv (.lst l.length (flatN l)),.pv (.int .i64 (l.length:Nat)),.pv (.int .i64 (q.1:Nat))]) (fun q _=>l.length - q.1) (fun q τ=>FAt σ0 τ p c a q.2 L/\q.1 <= l.length/\(l.drop q.1).foldl (fun st n=>askF m n.kids (ask1 n st)) q.2=askF (m + 1) l st)) (l.length - i) (.addr p 0) (.addr t5 0) (.pv (.lst l.length (flatN l))) (.pv (.int .i64 (l.length:Nat))) (.pv (.int .i64 (i:Nat))) (.pv (.bool b)) σ3 K X:=by
      intro b n1 n2 n3 hb
      have e0:ask1 n s=(if (n.op=oAssign \/ n.op=oPre \/ n.op=oPost)/\0 < n.kids.length then { s with bad:=s.bad || (!((n.kids.getD 0 noneN).op == oField) && (!((n.kids.getD 0 noneN).op == oVar) || !((n.kids.getD 0 noneN).text == sNF))) } else s):=by
        unfold ask1
        simp only [n1,n2,n3,if_false]
      unfold J39_15
      simp (disch:=omega) only [lock_eq,cond_bool,T.fa50_2,T.ld23,hgn hF3,ldM_cells,Nat.zero_add,List.getElem?_cons_zero,List.getElem?_cons_succ,someEx,T.lnl23,bin_gtr]
      refine iteI (fun g1=>?_) (fun g1=>j18 _ _ (by rw [e0,if_neg (fun h=>g1 (hb.2 h.1))]) hF3)
      refine iteI (fun g2=>?_) (fun g2=>j18 _ _ (by rw [e0,if_neg (fun h=>g2 (by simpa using h.2))]) hF3)
      have i0:0 < n.kids.length:=by simpa using g2
      rw [if_pos ⟨hb.1 g1,i0⟩] at e0
      have x0:∀ K:AV->Prop,indexAddrD PS 23 (.pv (.lst n.kids.length (flatN n.kids))) (.pv (.int .i64 0)) K=K (.elemP (flatN n.kids) (0 * 3)):=fun K=>node_ix (i:=0) i0
      simp only [x0,ldK i0]
      generalize n.kids.getD 0 noneN=k at e0 ⊢
      refine alloc_of T.zo50 rfl (fun t6 ht6=>?_)
      have hF6:=hF3.alloc ht6 (.cells zeroN (some 50))
      refine storeBox (A:=FObj p c a s) (B:=_ :: L) hF6.sep (fun σ15 hS15=>?_)
      have hF15:FAt σ0 σ15 p c a s (boxV t6 (some 50) k :: boxV t5 (some 50) n :: L):=⟨hS15⟩
      have hgk:σ15 t6=some (.cells [.pv (.str k.op),.pv (.str k.text),.pv (.lst k.kids.length (flatN k.kids))] (some 50)):=hF15.at (by simp [boxV])
      have hF':=hF15.part (List.sublist_cons_self ..)
      simp (disch:=omega) only [nil_addr,fld2,T.ld4,hF15.get,T.fa50_0,T.fa50_1,T.ld9,hgk,ldM_cells,Nat.zero_add,List.getElem?_cons_zero,List.getElem?_cons_succ,someEx,bin_sneq,guard_false,guard_true]
      refine iteI (fun g3=>badB _ e0 _ _ (by rw [g3]; rfl) hF') (fun g3=>?_)
      rw [Bool.not_eq_true] at g3
      refine iteI (fun g4=>?_) (fun g4=>badB _ e0 _ _ (by
        rw [Bool.not_eq_true] at g4
        rw [g3,show (!(k.op == oField))=false from g4]; rfl) hF')
      refine iteI (fun g5=>badB _ e0 _ _ (by rw [g3,show (!(k.op == oField))=true from g4,show (!(k.op == oVar))=true from g5]; rfl) hF') (fun g5=>badB _ e0 _ _ (by
        rw [Bool.not_eq_true] at g5
        rw [g3,show (!(k.op == oField))=true from g4,show (!(k.op == oVar))=false from g5]; rfl) hF')
    have j7:∀ b:Bool,(b=true ↔ (n.op=oCall \/ n.op=wIn \/ n.op=oElem)) ->
        J39_7 env (Inv (fun (q:Nat × FdS)=>[.addr p 0,AV.pv (.lst l.length (flatN l)),.pv (.int .i64 (l.length:Nat)),.pv (.int .i64 (q.1:Nat))]) (fun q _=>l.length - q.1) (fun q τ=>FAt σ0 τ p c a q.2 L/\q.1 <= l.length/\(l.drop q.1).foldl (fun st n=>askF m n.kids (ask1 n st)) q.2=askF (m + 1) l st)) (l.length - i) (.addr p 0) (.addr t5 0) (.pv (.lst l.length (flatN l))) (.pv (.int .i64 (l.length:Nat))) (.pv (.int .i64 (i:Nat))) (.pv (.str n.op)) (.pv (.bool b)) σ3 K X:=by
      intro b hb
      unfold J39_7
      simp (disch:=omega) only [lock_eq,cond_bool,nil_addr,fld2,bin_seql]
      refine iteI (fun g1=>?_) (fun g1=>?_)
      · refine bad18 _ _ ?_ hF3
        unfold ask1
        rw [if_pos (hb.1 g1)]
      have n1:(n.op=oCall \/ n.op=wIn \/ n.op=oElem)=False:=eq_false (fun h=>g1 (hb.2 h))
      refine iteI (fun g2=>?_) (fun g2=>?_)
      · have g2:n.op=oVar:=by simpa [oVar] using g2
        simp (disch:=omega) only [T.fa96_1,T.ld33,hF3.get,T.fa50_1,T.ld9,hgn hF3,ldM_cells,Nat.zero_add,List.getElem?_cons_zero,List.getElem?_cons_succ,someEx]
        refine hF3.ask (fun σ6 hF6=>j18 _ σ6 ?_ hF6)
        unfold ask1
        simp only [n1,if_false]
        rw [if_pos g2]
      have n2:(n.op=oVar)=False:=eq_false (by simpa [oVar] using g2)
      refine iteI (fun g3=>?_) (fun g3=>?_)
      · have g3:n.op=kBuilt:=by simpa [kBuilt] using g3
        have e0:ask1 n s={ s with bad:=s.bad || (n.text == sSplit) || (n.text == sMatch) || (changesB n && (decide (n.kids.length=3) && !((n.kids.getD 2 noneN).op == oField))) }:=by
          unfold ask1
          simp only [n1,n2,if_false]
          rw [if_pos g3]
        simp (disch:=omega) only [T.ld4,hF3.get,T.fa50_1,T.ld9,hgn hF3,ldM_cells,Nat.zero_add,List.getElem?_cons_zero,List.getElem?_cons_succ,someEx,bin_seql,guard_false]
        refine iteI (fun g4=>badB _ e0 _ _ (by rw [g4]; rfl) hF3) (fun g4=>?_)
        rw [Bool.not_eq_true] at g4
        refine iteI (fun g5=>badB _ e0 _ _ (by rw [g4,show (n.text == sSplit)=true from g5]; rfl) hF3) (fun g5=>?_)
        rw [Bool.not_eq_true] at g5
        refine iteI (fun g6=>badB _ e0 _ _ (by rw [g4,show (n.text == sSplit)=false from g5,show (n.text == sMatch)=true from g6]; rfl) hF3) (fun g6=>?_)
        rw [Bool.not_eq_true] at g6
        refine loadBox (v:=some 50) (hgn hF3) ?_
        refine changes_call h2 hokn (fun σ7 hs7=>?_)
        have hF7:=hF3.up hs7
        simp (disch:=omega) only [T.fa50_2,T.ld23,hgn hF7,ldM_cells,Nat.zero_add,List.getElem?_cons_zero,List.getElem?_cons_succ,someEx,guard_true,T.lnl23,bin_eql]
        refine iteI (fun g7=>?_) (fun g7=>badB _ e0 _ _ (by
          rw [Bool.not_eq_true] at g7
          rw [g4,show (n.text == sSplit)=false from g5,show (n.text == sMatch)=false from g6,g7]; rfl) hF7)
        refine iteI (fun g8=>?_) (fun g8=>badB _ e0 _ _ (by
          have:¬ n.kids.length=3:=fun e=>g8 (by rw [e]; rfl)
          rw [g4,show (n.text == sSplit)=false from g5,show (n.text == sMatch)=false from g6,g7,decide_eq_false this]; rfl) hF7)
        have hl3:n.kids.length=3:=by
          have:=eq_of_beq g8
          omega
        have i2:2 < n.kids.length:=by omega
        have x2:∀ K:AV->Prop,indexAddrD PS 23 (.pv (.lst n.kids.length (flatN n.kids))) (.pv (.int .i64 2)) K=K (.elemP (flatN n.kids) (2 * 3)):=fun K=>node_ix (i:=2) i2
        simp (disch:=omega) only [x2,T.fe50_0,T.le9,Nat.add_zero,nc0 i2,someEx,bin_sneq]
        refine badB _ e0 _ _ ?_ hF7
        rw [g4,show (n.text == sSplit)=false from g5,show (n.text == sMatch)=false from g6,g7,decide_eq_true hl3,kidD i2]; rfl
      have n3:(n.op=kBuilt)=False:=eq_false (by simpa [kBuilt] using g3)
      refine iteI (fun g4=>j15 _ n1 n2 n3 ⟨fun _=>.inl (by simpa [oAssign] using g4),fun _=>g4⟩) (fun g4=>?_)
      refine iteI (fun g5=>j15 _ n1 n2 n3 ⟨fun _=>.inr (.inl (by simpa [oPre] using g5)),fun _=>g5⟩) (fun g5=>j15 _ n1 n2 n3 ⟨fun e=>.inr (.inr (by simpa [oPost] using e)),fun h=>?_⟩)
      rcases h with h | h | h
      · exact absurd (by rw [h]; rfl) g4
      · exact absurd (by rw [h]; rfl) g5
      · rw [h]; rfl
    simp (disch:=omega) only [T.fa50_0,T.ld9,hgn hF3,ldM_cells,Nat.zero_add,List.getElem?_cons_zero,List.getElem?_cons_succ,someEx,bin_seql,cond_bool]
    refine iteI (fun g1=>j7 _ ⟨fun _=>.inl (by simpa [oCall] using g1),fun _=>g1⟩) (fun g1=>?_)
    refine iteI (fun g2=>j7 _ ⟨fun _=>.inr (.inl (by simpa [wIn] using g2)),fun _=>g2⟩) (fun g2=>j7 _ ⟨fun e=>.inr (.inr (by simpa [oElem] using e)),fun h=>?_⟩)
    rcases h with h | h | h
    · exact absurd (by rw [h]; rfl) g1
    · exact absurd (by rw [h]; rfl) g2
    · rw [h]; rfl
  · refine retV_self (hK _ ?_)
    have e:l.drop i=[]:=List.drop_of_length_le (by omega)
    rw [e,List.foldl_nil] at hq
    rw [hq] at hF
    exact hF
end
end Go.AD.Lx

namespace Go.Proofs
open Go.RowKit Go.Maps Go.Sort Go.Shelf
shelf_lay_g SlLaysZ.n7 Ggz 7 at Tryz 42 as Tryz.keys42
shelf_lay_g SlLaysZ.n6 Ggz 6 at Tryz 41 as Tryz.sorted41
shelf_lay_g SlLaysM.n6 Slgm 6 at Tryz 25 as Tryz.sort25
theorem Tryz.sorts41 (m:Nat):AnyZ.SortsIn Tryz.prog Tryz.sorted41_ren Fence.wide m :=
  ⟨fun blk off cap ss W hH hblk hsz=>callsIn_wide.2 (AnyM.slices_Sort_string Tryz.sort25 blk off cap ss W hH hblk hsz),
   fun p cap W=>callsIn_wide.2 (AnyM.slices_Sort_string_none Tryz.sort25 p cap W)⟩
theorem Tryz.maps_Keys_42 (mb:Option Nat) (W:World):CallsIn Fence.wide 5 Tryz.prog 42 #[.map mb] W fun e w'=>e=.returned (.func (.func 92) #[] #[.pointer (some ⟨W.heap.size,0,none⟩)])/\w'=W.alloc (.cells #[.map mb] 94) :=
  AnyZ.keys_in Tryz.keys42 Fence.wide 5 trivial rfl mb W
set_option maxHeartbeats 1000000 in
theorem Tryz.slices_Sorted_keys_41_42 {H:Type} (b nn:Nat) (D0:DataW H) (R:Value->Option (DataW H × List MemPlace)) (w:World) (hown:w.ownsMap Tryz.prog 9 R b nn D0) (hmax:Maps.size D0 <= maxLen) (hbytes:Maps.size D0 * 16 <= 140737488355328) :
    CallsIn Fence.wide 5 Tryz.prog 41 #[.func (.func 92) #[] #[.pointer (some ⟨w.heap.size,0,none⟩)]] (w.alloc (.cells #[.map (some b)] 94)) fun e w'=>∃ (v:Value) (ss:List (List UInt8)),e=.returned v/\ss.Perm (strKeys D0) /\
      w'.ownsRow (w.alloc (.cells #[.map (some b)] 94)).heap.size 9 1 v ss.length ((ss.mergeSort (fun x y=>decide (x <= y))).map encStr)/\(v=.slice none 0 0 ↔ ss=[])/\Below (w.alloc (.cells #[.map (some b)] 94)).heap.size (w.alloc (.cells #[.map (some b)] 94)) w':=by
  have hbl:=hown.lt
  have hseq:SeqGives Fence.wide 2 Tryz.prog 92 #[.pointer (some ⟨w.heap.size,0,none⟩)] encStr (fun ss=>ss.Perm (strKeys D0)) (Maps.size D0) (w.alloc (.cells #[.map (some b)] 94)) :=
    AnyZ.keys_gives (ρ:=Tryz.keys42_ren) { Tryz.keys42 with } Fence.wide _ trivial rfl (by omega) w.heap.size b nn D0 _ (by simp) (by simp) (by
      obtain ⟨es,clock,hb,Ft,hs,hD⟩:=hown
      exact ⟨es,clock,(Below.heap_alloc _ _ b hbl).trans hb,Ft,hs,hD⟩)
  exact AnyZ.sorted_in Tryz.sorted41 Fence.wide 5 trivial trivial trivial trivial rfl (by omega) (Tryz.sorts41 _) (enters_of Tryz.func25 (by kernel_rfl) rfl) 92 #[.pointer (some ⟨w.heap.size,0,none⟩)] trivial (enters_of Tryz.func92 (by kernel_rfl) rfl) _ _ hmax hbytes _ hseq
set_option maxHeartbeats 1000000 in
theorem Tryz.slices_Sorted_keys_nil_41_42 (w:World) :
    CallsIn Fence.wide 5 Tryz.prog 41 #[.func (.func 92) #[] #[.pointer (some ⟨w.heap.size,0,none⟩)]] (w.alloc (.cells #[.map none] 94)) fun e w'=>∃ (v:Value) (ss:List (List UInt8)),e=.returned v/\ss=[] /\
      w'.ownsRow (w.alloc (.cells #[.map none] 94)).heap.size 9 1 v ss.length ((ss.mergeSort (fun x y=>decide (x <= y))).map encStr)/\(v=.slice none 0 0 ↔ ss=[])/\Below (w.alloc (.cells #[.map none] 94)).heap.size (w.alloc (.cells #[.map none] 94)) w':=by
  have hseq:SeqGives Fence.wide 2 Tryz.prog 92 #[.pointer (some ⟨w.heap.size,0,none⟩)] encStr (fun ss:List (List UInt8)=>ss=[]) 0 (w.alloc (.cells #[.map none] 94)) :=
    AnyZ.keys_gives_nil (ρ:=Tryz.keys42_ren) { Tryz.keys42 with } Fence.wide _ trivial rfl w.heap.size _ (by simp) (by simp)
  exact AnyZ.sorted_in Tryz.sorted41 Fence.wide 5 trivial trivial trivial trivial rfl (by omega) (Tryz.sorts41 _) (enters_of Tryz.func25 (by kernel_rfl) rfl) 92 #[.pointer (some ⟨w.heap.size,0,none⟩)] trivial (enters_of Tryz.func92 (by kernel_rfl) rfl) _ 0 (Nat.zero_le _) (by omega) _ hseq
end Go.Proofs

set_option linter.unusedVariables false
set_option linter.unusedSimpArgs false
set_option maxRecDepth 100000
namespace Go.AD.Lx
open Go.Proofs RowKit Go.Maps
section
variable {w0 w w':World} {ρ:Gh} {σ:AS}
theorem belowFrom (H:RelH w0 ρ σ w) (hb:Below w.heap.size w w'):Below w0.heap.size w0 w' :=
  H.below.trans ⟨hb.os,hb.tape,hb.output,hb.size,fun k hk=>hb.block k (Nat.lt_of_lt_of_le hk H.le_size)⟩
theorem RelH.grew (H:RelH w0 ρ σ w) (hb:Below w.heap.size w w'):RelH w0 ρ σ w':=by
  refine RelH.keep H (Gh.le_refl ρ) (belowFrom H hb) ?_ ?_ H.bound
  · intro b o v hv
    exact (hb.cell (p:=⟨b,o,none⟩) (H.imm_lt hv)).trans (H.imm _ _ _ hv)
  · intro id o b ho hbl
    exact ⟨hb.block b (H.blk_lt ho hbl),fun _=>rfl,fun _=>rfl⟩
theorem RelH.rowIn (H:RelH w0 ρ σ w) (hb:Below w.heap.size w w') {g:Nat} (hg:w.heap.size <= g) {cur:Array Value} {e:TypeId} {fz:Nat × Nat} (hw:w'.heap[g]?=some (.cells cur e fz)) (vs:List Value) (hvs:∀ (i:Nat) v,vs[i]?=some v->cur[i]?=some v) :
    ρ.le (ρ.ext g 0 vs)/\RelH w0 (ρ.ext g 0 vs) σ w':=by
  have hle:ρ.le (ρ.ext g 0 vs):=Gh.le_ext fun o' v hv=>absurd (H.imm_lt hv) (by omega)
  refine ⟨hle,RelH.keep H hle (belowFrom H hb) ?_ ?_ H.bound⟩
  · intro b o v hv
    rcases Gh.ext_inv hv with ⟨rfl,h1,h2,h3⟩ | hv
    · rw [cell_of_row _ _ o cur e fz hw]
      exact hvs o v (by simpa using h3)
    · exact (hb.cell (p:=⟨b,o,none⟩) (H.imm_lt hv)).trans (H.imm _ _ _ hv)
  · intro id o b ho hbl
    have:=H.blk_lt ho hbl
    exact ⟨hb.block b this,fun p=>Gh.ext_other ρ _ _ _ (by omega) p,fun _=>rfl⟩
end
def T_mKeys:Tr:=fun args σ K _=>∃ id,args=[.amap id]/\∀ t,σ t=none->K (.clo 92 [] [.addr t 0]) (σ.set t (.cells [.amap id] (some 94)))
theorem F_mKeys:SoundF PS 42 T_mKeys:=by
  rintro w0 hS ρ σ w args us K X H hr ⟨id,rfl,hK⟩
  obtain ⟨u,us',rfl,hu,hr⟩:=hr.uncons
  obtain rfl:us'=[]:=hr.nil_inv
  cases hu with
  | amap _ b m hl =>
    refine ⟨Tryz.call42 _ w,?_⟩
    refine (callsIn_wide.1 (Tryz.maps_Keys_42 (some b) w)).mono fun e W' ⟨he,hW⟩=>?_
    subst he hW
    obtain ⟨t,ρ',g1,g2,g3,g4,g5⟩:=H.newCells #[.map (some b)] 94 (0,0) (nofz_zero _) [.amap id] (Nat.le_refl _) (.cons (.amap id b m hl) (.nil ρ)) rfl (some 94) (fun t ht=>by cases ht; exact ⟨rfl,rfl⟩)
    refine ⟨ρ',_,g3,g5,_,?_,hK t g1⟩
    refine .clo 92 [] [.addr t 0] [] [.pointer (some ⟨w.heap.size,0,none⟩)] rfl (fun i h=>absurd h (by simp)) rfl (fun i h=>?_)
    obtain rfl:i=0:=by simp at h; exact h
    exact .addr t 0 w.heap.size 0 1 g4
def Rz:Value->Option (DataW Unit × List MemPlace):=fun _=>some (.lit (.bool false),[])
def T_mSorted:Tr:=fun args σ K _=>∃ (t id n:Nat) (l:List (Bytes × AV)),args=[.clo 92 [] [.addr t 0]]/\σ t=some (.cells [.amap id] (some 94))/\σ id=some (.mapO 1 (mapEs l) n)/\l.length=n/\n <= 1000000/\(l.map (·.1)).Nodup/\(∀ p ∈ l,p.1.length <= 1000000) /\
  K (.pv (.lst n ((sortS (l.map (·.1))).map .str))) σ
theorem strU:PS.underlying 9=some .string:=by kernel_rfl
theorem mapEsF_at:∀ (i:Nat) (l:List (Bytes × AV)) (j:Nat) (h:j < l.length),(mapEsF i l)[j]?=some ([l[j].1],l[j].2,i + j)
  | i,p :: l,0,h=>rfl
  | i,p :: l,j + 1,h=>by
    rw [mapEsF,List.getElem?_cons_succ,mapEsF_at (i + 1) l j (by simpa using h)]
    simp only [List.getElem_cons_succ]
    have:i + 1 + j=i + (j + 1):=by omega
    rw [this]
theorem mapEsF_len:∀ (i:Nat) (l:List (Bytes × AV)),(mapEsF i l).length=l.length
  | i,[]=>rfl
  | i,p :: l=>by rw [mapEsF,List.length_cons,mapEsF_len (i + 1) l,List.length_cons]
theorem keyStr {s:Bytes} (hs:s.length <= 1000000):Go.keyOf PS 9 (.string ⟨s.toArray⟩)=some (.string s):=by
  have:s.length <= maxLen:=Nat.le_trans hs (by decide)
  simp [Go.keyOf,strU,mapKey,ByteArray.size,this]
theorem mapObj {w0 w:World} {ρ:Gh} {σ:AS} (H:RelH w0 ρ σ w) {id n:Nat} {l:List (Bytes × AV)} (hid:σ id=some (.mapO 1 (mapEs l) n)) (hn:l.length=n) (hb:n <= 1000000) (hnd:(l.map (·.1)).Nodup) (hlen:∀ p ∈ l,p.1.length <= 1000000) :
    ∃ bm mm D0,ρ.loc id=some (bm,0,mm)/\w.ownsMap PS 9 Rz bm n D0/\(l.map (·.1)).Perm (strKeys D0):=by
  obtain ⟨bm,mm,us,hloc,hB,hw,hi,hk,hlu,hrel⟩:=H.obj id _ hid
  have hln:(mapEs l).length=l.length:=mapEsF_len 0 l
  have hat:∀ (j:Nat) (h:j < l.length) (h2:j < us.length),us[j].key=.string ⟨l[j].1.toArray⟩/\us[j].born=j:=by
    intro j h h2
    have e1:(mapEs l)[j]?=some ([l[j].1],l[j].2,j):=by
      have:=mapEsF_at 0 l j h
      rwa [Nat.zero_add] at this
    obtain ⟨g1,g2,g3⟩:=hrel j _ us[j] e1 (List.getElem?_eq_getElem h2)
    exact ⟨relStr g1,g3⟩
  have hul:us.length=l.length:=by rw [hlu,hln]
  have ekeys:us.map (fun u=>u.key)=(l.map (·.1)).map fun s=>Value.string ⟨s.toArray⟩:=by
    apply List.ext_getElem (by simp [hul])
    intro j h1 h2
    simp only [List.getElem_map]
    exact (hat j (by simpa using h2) (by simpa using h1)).1
  have eborn:us.map (fun u=>u.born)=List.range us.length:=by
    apply List.ext_getElem (by simp)
    intro j h1 h2
    simp only [List.getElem_map,List.getElem_range]
    exact (hat j (by have:=h1; simp at this; omega) (by simpa using h1)).2
  have hrd:∀ (j:Nat) (h:j < l.length) (h2:j < us.length),Go.WideElems.rd PS 9 Rz us[j]=some (.string l[j].1,.lit (.bool false)):=by
    intro j h h2
    exact Go.WideElems.rd_mk (born:=us[j].born) (by show Go.keyOf PS 9 us[j].key=_; rw [(hat j h h2).1]; exact keyStr (hlen _ (List.getElem_mem h))) (show Rz us[j].val=some (.lit (.bool false),[]) from rfl)
  have hrg:us.map (Go.WideElems.rg PS 9 Rz)=l.map fun p=>(Lit.string p.1,.lit (.bool false)):=by
    apply List.ext_getElem (by simp [hul])
    intro j h1 h2
    simp only [List.getElem_map]
    exact Go.WideElems.rg_of (hrd j (by simpa using h2) (by simpa using h1))
  refine ⟨bm,mm,.map ((us.map (Go.WideElems.rg PS 9 Rz)).foldr DataW.insert []),hloc,⟨us.toArray,n,hw,⟨?_,⟨?_,?_,?_⟩,?_⟩,?_,rfl⟩,?_⟩
  · show us.length <= maxLen
    exact Nat.le_trans (by omega) (show 1000000 <= maxLen by decide)
  · intro x hx
    obtain ⟨j,hj,rfl⟩:=List.getElem_of_mem hx
    have hj:j < us.length:=hj
    show us[j].born < n
    rw [(hat j (by omega) hj).2]; omega
  · show (us.map fun u=>u.born).Nodup
    rw [eborn]; exact List.nodup_range
  · show (us.map fun u=>u.key).Nodup
    rw [ekeys]
    refine List.pairwise_map.2 (hnd.imp fun {a b} hne e=>hne ?_)
    simpa using e
  · intro x hx
    obtain ⟨j,hj,rfl⟩:=List.getElem_of_mem hx
    have hj:j < us.length:=hj
    exact ⟨_,hrd j (by omega) hj⟩
  · show us.length <= n
    omega
  · refine List.Perm.symm ?_
    show ((us.map (Go.WideElems.rg PS 9 Rz)).foldr DataW.insert []).map (fun p=>strOf p.1) |>.Perm _
    refine ((Go.WideShapes.sorted_perm _).map _).trans ?_
    rw [hrg,List.map_map]
    exact List.Perm.refl _
theorem sortS_len (l:List Bytes):(sortS l).length=l.length:=List.length_mergeSort l
set_option maxHeartbeats 1000000 in
theorem F_mSorted:SoundF PS 41 T_mSorted:=by
  rintro w0 hS ρ σ w args us K X H hr ⟨t,id,n,l,rfl,ht,hid,hn,hb,hnd,hlen,hK⟩
  obtain ⟨u,us',rfl,hu,hr⟩:=hr.uncons
  obtain rfl:us'=[]:=hr.nil_inv
  obtain ⟨bm,mm,D0,hloc,hown,hperm⟩:=mapObj H hid hn hb hnd hlen
  obtain ⟨b1,o1,m1,cur,e1,fz,hloc1,hB,hw,hfz,hcs,hle,hok,hrel,hi1,hvar⟩:=H.obj t _ ht
  obtain ⟨rfl,rfl,hsz⟩:=hvar _ rfl
  have hcell:w.cell? ⟨b1,0,none⟩=some (.map (some bm)):=by
    rw [cell_of_row w b1 0 cur _ fz hw]
    obtain ⟨v,vs',hv,hv1,_⟩:=hrel.uncons
    cases hv1 with
    | amap _ b' m' hl' =>
      rw [hloc] at hl'
      cases hl'
      have hc:cur.toList[0]?=some (.map (some bm)):=by
        rw [List.drop_zero] at hv
        have:(cur.toList.take [AV.amap id].length)[0]?=some (.map (some bm)):=by rw [hv]; rfl
        rwa [List.getElem?_take_of_lt (by simp)] at this
      simpa using hc
  have hu:u=.func (.func 92) #[] #[.pointer (some ⟨b1,0,none⟩)]:=by
    cases hu with
    | clo f first cap vs cs hl hr hl' hr' =>
      have e0:vs=[]:=List.eq_nil_of_length_eq_zero hl
      subst e0
      match cs,hl' with
      | [c],_ =>
        have:=hr' 0 (by simp)
        have hc:RelV ρ (.addr t 0) c:=this
        cases hc with
        | addr _ _ b' o' m' hl2 =>
          rw [hloc1] at hl2
          cases hl2
          rfl
  subst hu
  have hlt:b1 < w.heap.size:=World.block_lt_of_cell? w _ hcell
  have hsize:=hown.size_le
  have hseq:=AnyZ.keys_gives (ρ:=Tryz.keys42_ren) { Tryz.keys42 with } Fence.wide 2 trivial rfl (by omega) b1 bm n D0 w hlt hcell hown
  have hc:=AnyZ.sorted_in Tryz.sorted41 Fence.wide 5 trivial trivial trivial trivial rfl (by omega) (Tryz.sorts41 _) (enters_of Tryz.func25 (by kernel_rfl) rfl) 92 #[.pointer (some ⟨b1,0,none⟩)] trivial (enters_of Tryz.func92 (by kernel_rfl) rfl) _ _ (Nat.le_trans hsize (Nat.le_trans hb (by decide))) (by omega) _ hseq
  refine ⟨Tryz.call41 _ w,?_⟩
  refine (callsIn_wide.1 hc).mono ?_
  rintro e W' ⟨v,ss,rfl,hss,hrow,hnil,hbel⟩
  have hpp:ss.Perm (l.map (·.1)):=hss.trans hperm.symm
  have esort:ss.mergeSort (fun x y=>decide (x <= y))=sortS (l.map (·.1)):=mergeSort_of_perm hpp
  have hsl:ss.length=n:=by rw [hpp.length_eq,List.length_map,hn]
  rw [esort,hsl] at hrow
  have hlenS:(sortS (l.map (·.1))).length=n:=by rw [sortS_len,List.length_map,hn]
  generalize sortS (l.map (·.1))=xs at hK hrow hlenS
  obtain ⟨_,⟨rfl,h0⟩ | ⟨g,cap,cur2,rfl,hg,hwg,hnc,hcap,hcs2,htake⟩⟩:=hrow
  · subst h0
    obtain rfl:xs=[]:=List.eq_nil_of_length_eq_zero hlenS
    refine ⟨ρ,σ,Gh.le_refl ρ,RelH.grew H hbel,_,?_,hK⟩
    exact .pv (.lst 0 [] none 0 0 0 [] (Nat.le_refl _) (.inl rfl) rfl (fun i h=>absurd h (by simp)) (fun i h=>absurd h (by simp)))
  · have hvs:∀ (i:Nat) v,(xs.map encStr)[i]?=some v->cur2[i]?=some v:=by
      intro i v hv
      rw [<- htake] at hv
      have hi:=(List.getElem?_eq_some_iff.1 hv).1
      rw [List.getElem?_take_of_lt (by simp at hi; omega)] at hv
      simpa using hv
    obtain ⟨hle2,H2⟩:=RelH.rowIn H hbel hg hwg (xs.map encStr) hvs
    refine ⟨_,σ,hle2,H2,_,?_,hK⟩
    refine .pv (.lst n _ _ cap g 0 (xs.map encStr) hnc (.inr rfl) (by simp) (Gh.ext_at ρ g 0 _) (fun i h=>?_))
    have h:i < xs.length:=by simpa using h
    simp only [List.getElem_map,List.getD_eq_getElem?_getD,List.getElem?_map,List.getElem?_eq_getElem h,Option.map_some,Option.getD_some]
    exact .str _
end Go.AD.Lx

set_option linter.unusedVariables false
set_option linter.unusedSimpArgs false
set_option maxRecDepth 100000
namespace Go.AD.Lx
open Go.Proofs RowKit
section
variable {env:Env} {args:List AV} {σ0 σ τ:AS} {K:AV->AS->Prop} {X:PV->AS->Prop} {L Y M:Objs} {p c a:Nat} {st:FdS}
structure FormR (x:FormS) (tk tb:AV):Prop where
  kids:toPV tk=some (.lst x.to.kids.length (flatN x.to.kids))
  by_:toPV tb=some (.lst x.by_.length (flatN x.by_))
def formCells (x:FormS) (tk tb:AV):List AV:=[.pv (.str x.cls),.pv (.str x.to.op),.pv (.str x.to.text),tk,tb]
theorem FormR.ok {x:FormS} {tk tb:AV} (h:FormR x tk tb):(formCells x tk tb).all AV.cellOk=true:=by
  show (true && (true && (true && (tk.cellOk && (tb.cellOk && true)))))=true
  rw [(toPV_ok h.kids).2,(toPV_ok h.by_).2]; rfl
structure FormOk (m:Nat) (x:FormS):Prop where
  text:x.to.text.length <= 1000000
  kl:x.to.kids.length <= 1000000
  bl:x.by_.length <= 1000000
  kd:depthNs x.to.kids < m
  bd:depthNs x.by_ < m
  kx:okXs x.to.kids
  bx:okXs x.by_
theorem askW_call {m:Nat} (h:env 39=Tr.wk (T_fAsk m)) {p c a:Nat} {st:FdS} {v:AV} {l:List NTree} (hv:toPV v=some (.lst l.length (flatN l))) (hF:FAt σ0 σ p c a st L) (h1:depthNs l < m) (h2:l.length <= 1000000) (h3:okXs l)
    (hK:∀ σ',FAt σ0 σ' p c a (askF m l st) L->K (.tuple []) σ'):env 39 [.addr p 0,v] σ K X:=by
  rw [h]
  exact ⟨[.addr p 0,.pv (.lst l.length (flatN l))],⟨.inl rfl,.inr ⟨_,hv,rfl⟩,trivial⟩,σ0,p,c,a,st,L,l,rfl,hF,h1,h2,h3,hK⟩
def T_fUpdate (m:Nat):Tr:=fun args σ K _=>∃ (σ0:AS) (p c a:Nat) (st:FdS) (L:Objs) (x:FormS) (tk tb:AV),args=[.addr p 0,.agg (formCells x tk tb)]/\FormR x tk tb/\FormOk m x/\FAt σ0 σ p c a st L /\
  ∀ σ',FAt σ0 σ' p c a (updateF m x st) L->K (.tuple []) σ'
theorem zStr:zeroV PS 9=some (.pv (.str [])):=by kernel_rfl
theorem T_fUpdate_ok {m:Nat} (h1:env 39=Tr.wk (T_fAsk m)) (h2:env 22=T_nSpecial) (h:T_fUpdate m args σ K X):bodyD PS env an90 Tryz.f90 args σ K X:=by
  obtain ⟨σ0,p,c,a,st,L,x,tk,tb,rfl,hR,hO,hF,hK⟩:=h
  rw [<- S90_eq env,S90]
  simp only [lock_eq]
  refine ⟨hR.ok,fun t3 ht3=>?_⟩
  have hF:=hF.alloc ht3 (.cells (AV.agg (formCells x tk tb)).cells none)
  show nilD (.addr p 0) _
  generalize (σ.set t3 (.cells (AV.agg (formCells x tk tb)).cells none))=σ1 at hF ⊢
  have hgx:∀ {σ':AS} {s':FdS},FAt σ0 σ' p c a s' ((t3,.cells (AV.agg (formCells x tk tb)).cells none) :: L)->σ' t3=some (.cells [.pv (.str x.cls),.pv (.str x.to.op),.pv (.str x.to.text),tk,tb] none):=fun h=>h.at (by simp [AV.cells,formCells])
  have j3:∀ (b:Bool) (σ3:AS),b=(st.bad || (match assocG st.classes x.to.text with | some c=>!(c == x.cls) | none=>false) || specialB x.to.text)->FAt σ0 σ3 p c a st ((t3,.cells (AV.agg (formCells x tk tb)).cells none) :: L) ->
      storeD PS σ3 4 (.addr p 2) (.pv (.bool b)) fun σ4=>J90_3 env (.addr p 0) (.addr t3 0) σ4 K X:=by
    intro b σ3 hb hF3
    refine hF3.setBad (fun σ4 hF4=>?_)
    unfold J90_3
    simp (disch:=omega) only [lock_eq,nil_addr,T.fa96_0,T.ld94,hF4.get,T.fa131_0,T.fa131_1,T.fa131_2,T.fa50_1,T.ld9,hgx hF4,ldM_cells,Nat.zero_add,Nat.add_zero,List.getElem?_cons_zero,List.getElem?_cons_succ,Nat.reduceAdd,someEx]
    refine hF4.put (fun σ5 hF5=>?_)
    simp (disch:=omega) only [T.ld23,hgx hF5,ldM_cells,List.getElem?_cons_zero,List.getElem?_cons_succ,someEx]
    refine askW_call h1 hR.by_ hF5 hO.bd hO.bl hO.bx (fun σ6 hF6=>?_)
    simp (disch:=omega) only [T.fa131_1,T.fa50_2,T.ld23,hgx hF6,ldM_cells,Nat.zero_add,List.getElem?_cons_zero,List.getElem?_cons_succ,Nat.reduceAdd,someEx]
    refine askW_call h1 hR.kids hF6 hO.kd hO.kl hO.kx (fun σ7 hF7=>?_)
    refine retV_self (hK _ ?_)
    have hF8:=hF7.part (List.sublist_cons_self ..)
    rw [hb] at hF8
    exact hF8
  have hgc:σ1 c=some (.mapO 1 (mapEs (st.classes.map fun q=>(q.1,.pv (.str q.2)))) (st.classes.map fun q=>((q.1,.pv (.str q.2)):Bytes × AV)).length):=hF.sep.get (by simp [FObj,mapA])
  simp (disch:=omega) only [nil_addr,T.fa96_0,fld2,T.ld94,T.ld4,hF.get,T.fa131_0,T.fa131_1,T.fa50_1,T.ld9,hgx hF,ldM_cells,Nat.zero_add,Nat.add_zero,List.getElem?_cons_zero,List.getElem?_cons_succ,Nat.reduceAdd,someEx]
  rw [mapLook mapTS keyT zStr hgc,assocG_map]
  cases hg:assocG st.classes x.to.text with
  | none =>
    rw [hg] at j3
    simp (disch:=omega) only [Option.map_none,okV,ext_tuple,List.getElem?_cons_zero,List.getElem?_cons_succ,someEx,if_true,guard_false,guard_true,Bool.false_eq_true,if_false]
    refine iteI (fun g1=>j3 _ _ (by rw [g1]; rfl) hF) (fun g1=>?_)
    rw [Bool.not_eq_true] at g1
    rw [h2]
    exact ⟨x.to.text,rfl,hO.text,j3 _ _ (by rw [g1]; rfl) hF⟩
  | some c0 =>
    rw [hg] at j3
    simp (disch:=omega) only [Option.map_some,okV,ext_tuple,List.getElem?_cons_zero,List.getElem?_cons_succ,someEx,if_true,guard_false,guard_true,bin_sneq]
    refine iteI (fun g1=>j3 _ _ (by rw [g1]; rfl) hF) (fun g1=>?_)
    rw [Bool.not_eq_true] at g1
    refine iteI (fun g2=>j3 _ _ (by rw [g1]; simp only [g2]; rfl) hF) (fun g2=>?_)
    rw [Bool.not_eq_true] at g2
    rw [h2]
    exact ⟨x.to.text,rfl,hO.text,j3 _ _ (by rw [g1]; simp only [g2]; rfl) hF⟩
end
end Go.AD.Lx

set_option linter.unusedVariables false
set_option linter.unusedSimpArgs false
set_option maxRecDepth 100000
namespace Go.AD.Lx
open Go.Proofs RowKit
section
variable {env:Env} {args:List AV} {σ0 σ τ:AS} {K:AV->AS->Prop} {X:PV->AS->Prop} {L Y M:Objs}
theorem ldForm {t:Nat} {v:Option TypeId} {a b c d e:AV} {K:AV->Prop} (hg:σ t=some (.cells [a,b,c,d,e] v)) (hK:K (.agg [a,b,c,d,e])):loadD PS σ 131 (.addr t 0) K:=by
  rw [load_addrA T.hT131 T.ag131 hg,T.sz131]
  exact ⟨Nat.le_refl _,hK⟩
theorem stForm {A B:Objs} {t:Nat} {v:Option TypeId} {a b c d e a' b' c' d' e':AV} {KS:AS->Prop} (hS:Sep σ0 σ (A ++ (t,.cells [a,b,c,d,e] v) :: B)) (hok:[a',b',c',d',e'].all AV.cellOk=true)
    (hK:∀ σ',Sep σ0 σ' (A ++ (t,.cells [a',b',c',d',e'] v) :: B)->KS σ'):storeD PS σ 131 (.addr t 0) (.agg [a',b',c',d',e']) KS:=by
  have hg:σ t=some (.cells [a,b,c,d,e] v):=hS.get (by simp)
  rw [storeD]
  simp only [hg]
  refine ⟨T.hT131,by rw [T.sz131]; rfl,hok,Nat.le_refl _,?_⟩
  exact hK _ (Sep.set hS _)
def zeroFm:List AV:=[.pv (.str []),.pv (.str []),.pv (.str []),.nilS,.nilS]
theorem bldForm0 {K:AV->Prop}:buildD PS 131 [] K=K (.agg zeroFm):=by
  simp [buildD,buildFill,go_sem,zeroFm]
def FormA (K:AV->AS->Prop) (σ:AS) (r:FormS × Bool):Prop:=∀ (σ':AS) (a b c d e:AV),σ.sub σ'->[a,b,c,d,e].all AV.cellOk=true->(r.2=true->∃ tk tb,[a,b,c,d,e]=formCells r.1 tk tb/\FormR r.1 tk tb)->K (.tuple [.agg [a,b,c,d,e],.pv (.bool r.2)]) σ'
theorem FormA.none {r:FormS × Bool} {a b c d e:AV} {σ':AS} (h:FormA K σ r) (hr:r.2=false) (hs:σ.sub σ') (hok:[a,b,c,d,e].all AV.cellOk=true):K (.tuple [.agg [a,b,c,d,e],.pv (.bool false)]) σ':=by
  have:=h σ' a b c d e hs hok (fun e=>by rw [hr] at e; cases e)
  rw [hr] at this
  exact this
theorem FormA.some {r:FormS × Bool} {x:FormS} {tk tb:AV} {σ':AS} {b:Bool} (h:FormA K σ r) (hr:r=(x,b)) (hs:σ.sub σ') (hf:FormR x tk tb):K (.tuple [.agg (formCells x tk tb),.pv (.bool b)]) σ':=by
  subst hr
  exact h σ' _ _ _ _ _ hs hf.ok (fun _=>⟨tk,tb,rfl,hf⟩)
def T_fChanged (m:Nat):Tr:=fun args σ K _=>∃ n:NTree,args=[nodeAV n]/\depthN n <= m/\okX n/\FormA K σ (changedF m n)
theorem flatN_drop1 (l:List NTree):flatN (l.drop 1)=(flatN l).drop 3:=by
  cases l with
  | nil=>rfl
  | cons x l =>
    have:=nodeCells_len x
    rw [List.drop_succ_cons,List.drop_zero,flatN,<- this,List.drop_left]
theorem sliceN1 {l:List NTree} (h:0 < l.length) {K:AV->Prop}:sliceD PS 23 (.pv (.lst l.length (flatN l))) (some (.pv (.int .i64 1))) none K=K (.pv (.lst (l.drop 1).length (flatN (l.drop 1)))):=by
  have e1:(flatN l).take (l.length * 3)=flatN l:=List.take_of_length_le (by rw [flatN_len]; exact Nat.le_refl _)
  have e2:(0:Int) <= 1/\(1:Int) <= (l.length:Int):=by omega
  simp only [sliceD,T.el23,T.sz50,cutAt,flatN_drop1,List.length_drop]
  have e3:(inf PS 50).isSome=true:=T.iS50
  simp only [e3,e2,e1,true_and,Int.toNat_one,Nat.one_mul]
theorem bldForm2 {op text:Bytes} {l b:List NTree} {K:AV->Prop}:buildD PS 131 [(1,nodeAV (.mk op text l)),(2,.pv (.lst b.length (flatN b)))] K=K (.agg (formCells ⟨[],.mk op text l,b⟩ (.pv (.lst l.length (flatN l))) (.pv (.lst b.length (flatN b))))):=by
  rw [nodeAV_eq]
  simp [buildD,buildFill,go_sem,formCells,AV.cells,AV.cellOk,setAll,NTree.op,NTree.text,NTree.kids]
theorem ldTo {f:Nat} {v:Option TypeId} {cl:AV} {k:NTree} {tb:AV} {K:AV->Prop} (hg:σ f=some (.cells [cl,.pv (.str k.op),.pv (.str k.text),.pv (.lst k.kids.length (flatN k.kids)),tb] v)) (hK:K (nodeAV k)):loadD PS σ 50 (.addr f 1) K:=by
  rw [load_addrA T.hT50 T.ag50 hg,T.sz50]
  refine ⟨by show 1 + 3 <= 5; decide,?_⟩
  rw [nodeAV_eq] at hK
  exact hK
def chObjs (f t2 t1:Nat) (cl:Bytes) (k n:NTree) (b:List NTree) (r:List AV):Objs:=[(f,.cells [.pv (.str cl),.pv (.str k.op),.pv (.str k.text),.pv (.lst k.kids.length (flatN k.kids)),.pv (.lst b.length (flatN b))] (some 131)),(t2,.cells r (some 131)),boxV t1 none n]
theorem T_fChanged_ok {m:Nat} (h1:env 166=T_NodeB variableB) (h2:env 167=T_fPure m) (h:T_fChanged m args σ K X):bodyD PS env an134 Tryz.f134 args σ K X:=by
  obtain ⟨n,rfl,hd,hok,hK⟩:=h
  rw [<- S134_eq env,S134]
  simp only [lock_eq]
  refine box_N ?_
  intro t1 σ1 hS
  refine alloc_of T.zo131 rfl (fun t2 ht2=>?_)
  have hS:Sep σ (σ1.set t2 (.cells [.pv (.str []),.pv (.str []),.pv (.str []),.nilS,.nilS] (some 131))) [(t2,.cells zeroFm (some 131)),boxV t1 none n]:=hS.alloc ht2 _
  generalize (σ1.set t2 (.cells [.pv (.str []),.pv (.str []),.pv (.str []),.nilS,.nilS] (some 131)))=σ2 at hS ⊢
  obtain ⟨htx,hkl,hkx⟩:=okX_kids hok
  have hdk:=depthN_kids n
  have hg2:σ2 t1=some (.cells [.pv (.str n.op),.pv (.str n.text),.pv (.lst n.kids.length (flatN n.kids))] none):=hS.get (by simp [boxV])
  have j11:∀ (cl:Bytes) (k:NTree) (f:Nat) (τ:AS),Sep σ τ (chObjs f t2 t1 cl k n (n.kids.drop 1) zeroFm)->changedF m n=(⟨cl,k,n.kids.drop 1⟩,!(cl == []))->J134_11 env (.addr t2 0) (.addr f 0) τ K X:=by
    intro cl k f τ hS hc
    unfold J134_11
    simp only [lock_eq]
    refine ⟨fun bs vs τ'=>match bs,vs with
      | [b0,b1,b2,b3,b4,b5],[t79,t80,t81,t82,t3]=>(b0=true->t79=.agg (formCells ⟨cl,k,n.kids.drop 1⟩ (.pv (.lst k.kids.length (flatN k.kids))) (.pv (.lst (n.kids.drop 1).length (flatN (n.kids.drop 1))))))/\(b1=true->t80=.addr f 0)/\(b2=true->t81=.pv (.str cl))/\(b3=true->t82=.pv (.bool (!(cl == []))))/\(b5=true->t3=.pv (.bool (!(cl == [])))) /\
          Sep σ τ' (chObjs f t2 t1 cl k n (n.kids.drop 1) (if b4=true then formCells ⟨cl,k,n.kids.drop 1⟩ (.pv (.lst k.kids.length (flatN k.kids))) (.pv (.lst (n.kids.drop 1).length (flatN (n.kids.drop 1)))) else zeroFm))
      | _,_=>False,⟨nofun,nofun,nofun,nofun,nofun,hS⟩,?_⟩
    intro b0 b1 b2 b3 b4 b5 t79 t80 t81 t82 t3 τ' hI
    obtain ⟨h0,h1,h2,h3,h5,hS'⟩:=hI
    have hgf:τ' f=some (.cells [.pv (.str cl),.pv (.str k.op),.pv (.str k.text),.pv (.lst k.kids.length (flatN k.kids)),.pv (.lst (n.kids.drop 1).length (flatN (n.kids.drop 1)))] (some 131)):=hS'.get (by simp [chObjs])
    refine ⟨⟨fun hb hd=>?_,fun hb hd=>?_,fun hb hd=>?_,fun hb hd=>?_,fun hb hd=>?_,fun hb hd=>?_,trivial⟩,fun hall=>?_⟩
    · refine ldForm hgf ?_
      exact ⟨fun _=>rfl,h1,h2,h3,h5,hS'⟩
    · rw [T.fa131_0]
      exact ⟨h0,fun _=>rfl,h2,h3,h5,hS'⟩
    · obtain rfl:=h1 hd.1
      rw [T.ld9,hgf,ldM_cells]
      exact ⟨_,rfl,h0,h1,fun _=>rfl,h3,h5,hS'⟩
    · obtain rfl:=h2 hd.1
      rw [bin_sneq]
      exact ⟨h0,h1,h2,fun _=>rfl,h5,hS'⟩
    · obtain rfl:=h0 hd.1
      subst hb
      refine stForm (A:=[_]) (B:=[_]) (show Sep σ τ' ([(f,_)] ++ (t2,.cells [.pv (.str []),.pv (.str []),.pv (.str []),.nilS,.nilS] (some 131)) :: [boxV t1 none n]) from hS') rfl (fun σ10 hS10=>?_)
      exact ⟨h0,h1,h2,h3,h5,hS10⟩
    · exact ⟨h0,h1,h2,h3,fun _=>h3 hd.1,hS'⟩
    · simp only [Bool.and_eq_true,and_true] at hall
      obtain ⟨e0,e1,e2,e3,e4,e5⟩:=hall
      subst e4
      have hg2:τ' t2=some (.cells [.pv (.str cl),.pv (.str k.op),.pv (.str k.text),.pv (.lst k.kids.length (flatN k.kids)),.pv (.lst (n.kids.drop 1).length (flatN (n.kids.drop 1)))] (some 131)):=hS'.get (by simp [chObjs,formCells])
      refine ldForm hg2 ?_
      obtain rfl:=h5 e5
      refine retV_self ?_
      exact hK.some hc hS'.sub ⟨rfl,rfl⟩
  have setC:∀ (cl:Bytes) (k:NTree) (f:Nat) (τ:AS),Sep σ τ (chObjs f t2 t1 [] k n (n.kids.drop 1) zeroFm)->changedF m n=(⟨cl,k,n.kids.drop 1⟩,!(cl == []))->storeD PS τ 9 (.addr f 0) (.pv (.str cl)) fun σ'=>J134_11 env (.addr t2 0) (.addr f 0) σ' K X:=by
    intro cl k f τ hS hc
    have hgf:τ f=some (.cells [.pv (.str []),.pv (.str k.op),.pv (.str k.text),.pv (.lst k.kids.length (flatN k.kids)),.pv (.lst (n.kids.drop 1).length (flatN (n.kids.drop 1)))] (some 131)):=hS.get (by simp [chObjs])
    simp only [T.stp9,hgf,stM_cells,List.set_cons_zero]
    exact ⟨by simp,j11 cl k f _ (hS.set1 _) hc⟩
  have fin0:changedF m n=(form0,false)->∀ (τ:AS),Sep σ τ [(t2,.cells zeroFm (some 131)),boxV t1 none n]->buildD PS 131 [] fun t25=>storeD PS τ 131 (.addr t2 0) t25 fun σ3=>loadD PS σ3 131 (.addr t2 0) fun r0=>retV (.tuple [r0,.pv (.bool false)]) σ3 K:=by
    intro hc τ hS
    rw [bldForm0]
    refine stForm (A:=[]) (B:=[_]) (show Sep σ τ ([] ++ (t2,.cells [.pv (.str []),.pv (.str []),.pv (.str []),.nilS,.nilS] (some 131)) :: [boxV t1 none n]) from hS) rfl (fun σ3 hS3=>?_)
    refine ldForm (v:=some 131) (hS3.get (List.mem_cons_self ..)) ?_
    exact retV_self (hK.none (by rw [hc]) hS3.sub rfl)
  have j3:(!(n.op == oAssign) && !(n.op == oPre) && !(n.op == oPost))=false->0 < n.kids.length->J134_3 env (.addr t1 0) (.addr t2 0) σ2 K X:=by
    intro hop hpos
    have i0:0 < n.kids.length:=hpos
    have hto:=kidOk hok i0
    have hdto:=kidDepth (n:=n) i0
    have ec:changedF m n=(let to:=n.kids.getD 0 noneN
      let c:=if variableB to && addsB n then cSum else if variableB to && (n.text == [61]) then cLast else if (to.op == oElem) && (addsB n && pureF m n.kids) then cSums else []
      (⟨c,to,n.kids.drop 1⟩,!(c == []))):=by
      unfold changedF
      rw [if_neg]
      rw [hop,Bool.false_or,decide_eq_true_eq]
      omega
    have hldk:∀ (τ:AS) (K:AV->Prop),loadD PS τ 50 (.elemP (flatN n.kids) 0) K=K (nodeAV (n.kids.getD 0 noneN)):=fun τ K=>ldK (i:=0) i0 τ K
    have hixk:∀ K:AV->Prop,indexAddrD PS 23 (.pv (.lst n.kids.length (flatN n.kids))) (.pv (.int .i64 0)) K=K (.elemP (flatN n.kids) 0):=fun K=>node_ix (i:=0) i0
    generalize n.kids.getD 0 noneN=k at hto hdto ec hldk
    simp only at ec
    have hgf:∀ {f:Nat} {τ:AS},Sep σ τ (chObjs f t2 t1 [] k n (n.kids.drop 1) zeroFm)->τ f=some (.cells [.pv (.str []),.pv (.str k.op),.pv (.str k.text),.pv (.lst k.kids.length (flatN k.kids)),.pv (.lst (n.kids.drop 1).length (flatN (n.kids.drop 1)))] (some 131)):=fun h=>h.get (by simp [chObjs])
    have hgn':∀ {f:Nat} {τ:AS},Sep σ τ (chObjs f t2 t1 [] k n (n.kids.drop 1) zeroFm)->τ t1=some (.cells [.pv (.str n.op),.pv (.str n.text),.pv (.lst n.kids.length (flatN n.kids))] none):=fun h=>h.get (by simp [chObjs,boxV])
    have j8:∀ (b:Bool) (f:Nat) (τ:AS),Sep σ τ (chObjs f t2 t1 [] k n (n.kids.drop 1) zeroFm)->(variableB k && addsB n)=false->b=(variableB k && (n.text == [61]))->J134_8 env (.addr t1 0) (.addr t2 0) (.addr f 0) (.pv (.bool (addsB n))) (.pv (.bool b)) τ K X:=by
      intro b f τ hS hv hb
      rw [hv] at ec
      unfold J134_8
      simp (disch:=omega) only [lock_eq,cond_bool,T.fa131_0,T.fa131_1,T.fa50_0,T.fa50_2,T.ld9,T.ld23,hgf hS,hgn' hS,ldM_cells,Nat.zero_add,Nat.add_zero,List.getElem?_cons_zero,List.getElem?_cons_succ,someEx,bin_seql,guard_true]
      refine iteI (fun g1=>setC _ k f τ hS (by rw [ec,<- hb,g1]; rfl)) (fun g1=>?_)
      rw [Bool.not_eq_true] at g1
      rw [<- hb,g1] at ec
      refine iteI (fun g2=>?_) (fun g2=>j11 _ k f τ hS (by
        rw [Bool.not_eq_true] at g2
        rw [ec,show (k.op == oElem)=false from g2]; rfl))
      refine iteI (fun g3=>?_) (fun g3=>j11 _ k f τ hS (by
        rw [Bool.not_eq_true] at g3
        rw [ec,show (k.op == oElem)=true from g2,g3]; rfl))
      rw [h2]
      refine ⟨n.kids,rfl,by omega,hkl,hkx,fun σ13 hs13=>?_⟩
      have hS13:=upS hS hs13
      simp only [cond_bool]
      refine iteI (fun g4=>setC _ k f σ13 hS13 (by rw [ec,show (k.op == oElem)=true from g2,g3,g4]; rfl)) (fun g4=>j11 _ k f σ13 hS13 (by
        rw [Bool.not_eq_true] at g4
        rw [ec,show (k.op == oElem)=true from g2,g3,g4]; rfl))
    have j6:∀ (b:Bool) (f:Nat) (τ:AS),Sep σ τ (chObjs f t2 t1 [] k n (n.kids.drop 1) zeroFm)->b=(variableB k && addsB n)->J134_6 env (.addr t1 0) (.addr t2 0) (.addr f 0) (.pv (.bool (addsB n))) (.pv (.bool b)) τ K X:=by
      intro b f τ hS hb
      unfold J134_6
      simp (disch:=omega) only [lock_eq,cond_bool,T.fa131_0,T.fa131_1,Nat.zero_add,Nat.add_zero]
      refine iteI (fun g1=>setC _ k f τ hS (by rw [ec,<- hb,g1]; rfl)) (fun g1=>?_)
      rw [Bool.not_eq_true] at g1
      refine ldTo (hgf hS) ?_
      refine nodeB_call h1 hto (fun σ11 hs11=>?_)
      have hS11:=upS hS hs11
      simp (disch:=omega) only [guard_true,T.fa50_1,T.ld9,hgn' hS11,ldM_cells,Nat.zero_add,List.getElem?_cons_zero,List.getElem?_cons_succ,someEx,bin_seql]
      refine iteI (fun g2=>j8 _ f σ11 hS11 (by rw [<- hb,g1]) (by rw [g2]; rfl)) (fun g2=>j8 _ f σ11 hS11 (by rw [<- hb,g1]) (by
        rw [Bool.not_eq_true] at g2
        rw [g2]; rfl))
    have j5:∀ (f:Nat) (τ:AS) (b:Bool),Sep σ τ (chObjs f t2 t1 [] k n (n.kids.drop 1) zeroFm)->b=addsB n->J134_5 env (.addr t1 0) (.addr t2 0) (.addr f 0) (.pv (.bool b)) τ K X:=by
      rintro f τ b hS rfl
      unfold J134_5
      simp (disch:=omega) only [lock_eq,T.fa131_1,Nat.zero_add]
      refine ldTo (hgf hS) ?_
      refine nodeB_call h1 hto (fun σ7 hs7=>?_)
      have hS7:=upS hS hs7
      simp only [guard_true]
      refine iteI (fun g2=>j6 _ f σ7 hS7 (by rw [g2]; rfl)) (fun g2=>j6 _ f σ7 hS7 (by
        rw [Bool.not_eq_true] at g2
        rw [g2]; rfl))
    have jN:∀ (f:Nat) (τ:AS),Sep σ τ (chObjs f t2 t1 [] k n (n.kids.drop 1) zeroFm)->fieldAddrD PS 50 (.addr t1 0) 0 fun t34=>loadD PS τ 9 t34 fun t35=>binD PS .neq 9 t35 (.pv (.str [97,115,115,105,103,110])) fun t36 =>
        guardD t36 false (fieldAddrD PS 50 (.addr t1 0) 1 fun t38=>loadD PS τ 9 t38 fun t39=>binD PS .eql 9 t39 (.pv (.str [43,61])) fun t40 =>
          guardD t40 false (fieldAddrD PS 50 (.addr t1 0) 1 fun t43=>loadD PS τ 9 t43 fun t44=>binD PS .eql 9 t44 (.pv (.str [45,61])) fun t45=>J134_5 env (.addr t1 0) (.addr t2 0) (.addr f 0) t45 τ K X)
            (J134_5 env (.addr t1 0) (.addr t2 0) (.addr f 0) (.pv (.bool true)) τ K X)) (J134_5 env (.addr t1 0) (.addr t2 0) (.addr f 0) (.pv (.bool true)) τ K X):=by
      intro f τ hS
      simp (disch:=omega) only [T.fa50_0,T.fa50_1,T.ld9,hgn' hS,ldM_cells,Nat.zero_add,List.getElem?_cons_zero,List.getElem?_cons_succ,someEx,bin_sneq,bin_seql,guard_false]
      refine iteI (fun g1=>j5 f τ _ hS (by unfold addsB; rw [show (!(n.op == oAssign))=true from g1]; rfl)) (fun g1=>?_)
      rw [Bool.not_eq_true] at g1
      refine iteI (fun g2=>j5 f τ _ hS (by unfold addsB; rw [show (!(n.op == oAssign))=false from g1,show (n.text == [43,61])=true from g2]; rfl)) (fun g2=>j5 f τ _ hS (by
        rw [Bool.not_eq_true] at g2
        unfold addsB; rw [show (!(n.op == oAssign))=false from g1,show (n.text == [43,61])=false from g2]; rfl))
    unfold J134_3
    simp only [lock_eq]
    refine ⟨fun bs vs τ'=>match bs,vs with
      | [b0,b1,b2,b3,b4,b5,b6,b7,b8,b9],[t26,t27,t28,t29,t30,t31,t32,t33,t4] =>
          (b0=true->t26=.addr t1 2)/\(b1=true->t27=.pv (.lst n.kids.length (flatN n.kids)))/\(b2=true->t28=.elemP (flatN n.kids) 0)/\(b3=true->t29=nodeAV k)/\(b4=true->t30=.addr t1 2)/\(b5=true->t31=.pv (.lst n.kids.length (flatN n.kids))) /\
          (b6=true->t32=.pv (.lst (n.kids.drop 1).length (flatN (n.kids.drop 1))))/\(b7=true->t33=.agg (formCells ⟨[],k,n.kids.drop 1⟩ (.pv (.lst k.kids.length (flatN k.kids))) (.pv (.lst (n.kids.drop 1).length (flatN (n.kids.drop 1)))))) /\
          (b8=false->Sep σ τ' [(t2,.cells zeroFm (some 131)),boxV t1 none n]) /\
          (b8=true->∃ f,t4=.addr f 0/\Sep σ τ' [(f,.cells (if b9=true then formCells ⟨[],k,n.kids.drop 1⟩ (.pv (.lst k.kids.length (flatN k.kids))) (.pv (.lst (n.kids.drop 1).length (flatN (n.kids.drop 1)))) else zeroFm) (some 131)),(t2,.cells zeroFm (some 131)),boxV t1 none n])/\(b9=true->b8=true)
      | _,_=>False,⟨nofun,nofun,nofun,nofun,nofun,nofun,nofun,nofun,fun _=>hS,nofun,nofun⟩,?_⟩
    intro b0 b1 b2 b3 b4 b5 b6 b7 b8 b9 t26 t27 t28 t29 t30 t31 t32 t33 t4 τ' hI
    obtain ⟨h0,h1,h2,h3,h4,h5,h6,h7,h8,h9,h10⟩:=hI
    have hgn:τ' t1=some (.cells [.pv (.str n.op),.pv (.str n.text),.pv (.lst n.kids.length (flatN n.kids))] none):=by
      cases b8 with
      | false=>exact (h8 rfl).get (by simp [boxV])
      | true=>obtain ⟨f,_,hS⟩:=h9 rfl; exact hS.get (by simp [boxV])
    refine ⟨⟨fun hb hd=>?_,fun hb hd=>?_,fun hb hd=>?_,fun hb hd=>?_,fun hb hd=>?_,fun hb hd=>?_,fun hb hd=>?_,fun hb hd=>?_,fun hb hd=>?_,fun hb hd=>?_,trivial⟩,fun hall=>?_⟩
    · rw [T.fa50_2]
      exact ⟨fun _=>rfl,h1,h2,h3,h4,h5,h6,h7,h8,h9,h10⟩
    · obtain rfl:=h0 hd.1
      rw [T.ld23,hgn,ldM_cells]
      exact ⟨_,rfl,h0,fun _=>rfl,h2,h3,h4,h5,h6,h7,h8,h9,h10⟩
    · obtain rfl:=h1 hd.1
      rw [hixk]
      exact ⟨h0,h1,fun _=>rfl,h3,h4,h5,h6,h7,h8,h9,h10⟩
    · obtain rfl:=h2 hd.1
      rw [hldk]
      exact ⟨h0,h1,h2,fun _=>rfl,h4,h5,h6,h7,h8,h9,h10⟩
    · rw [T.fa50_2]
      exact ⟨h0,h1,h2,h3,fun _=>rfl,h5,h6,h7,h8,h9,h10⟩
    · obtain rfl:=h4 hd.1
      rw [T.ld23,hgn,ldM_cells]
      exact ⟨_,rfl,h0,h1,h2,h3,h4,fun _=>rfl,h6,h7,h8,h9,h10⟩
    · obtain rfl:=h5 hd.1
      rw [sliceN1 i0]
      exact ⟨h0,h1,h2,h3,h4,h5,fun _=>rfl,h7,h8,h9,h10⟩
    · obtain rfl:=h3 hd.1
      obtain rfl:=h6 hd.2.1
      cases k with
      | mk op text kl =>
        rw [bldForm2]
        exact ⟨h0,h1,h2,h3,h4,h5,h6,fun _=>rfl,h8,h9,h10⟩
    · subst hb
      refine alloc_of T.zo131 rfl (fun f hf=>?_)
      refine ⟨h0,h1,h2,h3,h4,h5,h6,h7,nofun,fun _=>⟨f,rfl,?_⟩,fun _=>rfl⟩
      have hS3:=(h8 rfl).alloc hf (.cells zeroFm (some 131))
      cases b9 with
      | false=>exact hS3
      | true=>exact absurd (h10 rfl) (by decide)
    · obtain ⟨f,rfl,hS3⟩:=h9 hd.1
      obtain rfl:=h7 hd.2.1
      subst hb
      have hb8:b8=true:=hd.1
      subst hb8
      refine stForm (A:=[]) (B:=[_,_]) (show Sep σ τ' ([] ++ (f,.cells [.pv (.str []),.pv (.str []),.pv (.str []),.nilS,.nilS] (some 131)) :: [_,_]) from hS3) rfl (fun σ6 hS6=>?_)
      exact ⟨h0,h1,h2,h3,h4,h5,h6,h7,nofun,fun _=>⟨f,rfl,hS6⟩,fun _=>rfl⟩
    · simp only [Bool.and_eq_true,and_true] at hall
      obtain ⟨e0,e1,e2,e3,e4,e5,e6,e7,e8,e9⟩:=hall
      subst e8 e9
      obtain ⟨f,rfl,hS3⟩:=h9 rfl
      have hS3:Sep σ τ' (chObjs f t2 t1 [] k n (n.kids.drop 1) zeroFm):=hS3
      exact jN f τ' hS3
  simp (disch:=omega) only [T.fa50_0,T.fa50_2,T.ld9,T.ld23,hg2,ldM_cells,Nat.zero_add,List.getElem?_cons_zero,List.getElem?_cons_succ,someEx,bin_sneq,guard_true,guard_false,T.lnl23,bin_eql,cond_bool]
  have go:∀ b:Bool,(!(n.op == oAssign) && !(n.op == oPre) && !(n.op == oPost))=false->(if ((n.kids.length:Int) == 0)=true then buildD PS 131 [] fun t25=>storeD PS σ2 131 (.addr t2 0) t25 fun σ3=>loadD PS σ3 131 (.addr t2 0) fun r0=>retV (.tuple [r0,.pv (.bool false)]) σ3 K else J134_3 env (.addr t1 0) (.addr t2 0) σ2 K X):=by
    intro _ hb
    refine iteI (fun g=>fin0 ?_ _ hS) (fun g=>j3 hb ?_)
    · have:n.kids.length=0:=by
        have:=eq_of_beq g
        omega
      unfold changedF
      rw [if_pos (by rw [hb,Bool.false_or]; exact decide_eq_true this)]
    · rcases Nat.eq_zero_or_pos n.kids.length with h | h
      · exact absurd (by rw [h]; rfl) g
      · exact h
  refine iteI (fun g1=>?_) (fun g1=>go true (by
    rw [Bool.not_eq_true] at g1
    rw [show (!(n.op == oAssign))=false from g1]; rfl))
  refine iteI (fun g2=>?_) (fun g2=>go true (by
    rw [Bool.not_eq_true] at g2
    rw [show (!(n.op == oAssign))=true from g1,show (!(n.op == oPre))=false from g2]; rfl))
  refine iteI (fun g3=>fin0 ?_ _ hS) (fun g3=>go true (by
    rw [Bool.not_eq_true] at g3
    rw [show (!(n.op == oAssign))=true from g1,show (!(n.op == oPre))=true from g2,show (!(n.op == oPost))=false from g3]; rfl))
  unfold changedF
  rw [if_pos (by rw [show (!(n.op == oAssign))=true from g1,show (!(n.op == oPre))=true from g2,show (!(n.op == oPost))=true from g3]; rfl)]
end
end Go.AD.Lx
