import Derived.Test.YtjgjmpophpifgaaGreatDoorM21
set_option linter.unusedVariables false
set_option linter.unusedSimpArgs false
set_option maxRecDepth 100000
set_option maxHeartbeats 4000000
namespace Go.AD.Lx
open Go.Proofs RowKit
theorem innerF_depth:∀ (m:Nat) (n:NTree),depthN (innerF m n) <= depthN n
  | 0,n=>Nat.le_refl _
  | m + 1,n=>by
    rw [innerF]
    split
    · rename_i h
      have:=innerF_depth m (n.kids.getD 0 noneN)
      have:=kidDepth (n:=n) (i:=0) (by omega)
      omega
    · exact Nat.le_refl _
theorem innerF_ok:∀ (m:Nat) (n:NTree),okX n->okX (innerF m n)
  | 0,n,h=>h
  | m + 1,n,h=>by
    rw [innerF]
    split
    · rename_i hh
      exact innerF_ok m _ (kidOk h (by omega))
    · exact h
def ordK (t:Bytes):Bytes:=if t=[62] then cMax else if t=[60] then cMin else []
def mostH (m:Nat) (k:Bytes) (e v s:NTree):FormS × Bool :=
  if k=[] \/ variableB v=false \/ pureF m [e]=false \/ (numericF m e=false/\(innerF m e).op ≠ oField) \/ sameF m s (.mk oAssign [61] [v,e])=false then (form0,false)
  else (⟨k,v,[e]⟩,true)
def mostG (m:Nat) (c s:NTree):FormS × Bool :=
  if c.op ≠ oBin \/ c.kids.length ≠ 2 \/ s.op ≠ oExpr \/ s.kids.length ≠ 1 then (form0,false)
  else mostH m (ordK c.text) (c.kids.getD 0 noneN) (c.kids.getD 1 noneN) (s.kids.getD 0 noneN)
theorem mostF_eq (m:Nat) (c s:NTree):mostF m c s=mostG m (innerF m c) (if s.op=oBlock/\s.kids.length=1 then s.kids.getD 0 noneN else s):=rfl
section
variable {env:Env} {args:List AV} {σ0 σ τ:AS} {K:AV->AS->Prop} {X:PV->AS->Prop} {L Y M:Objs}
def T_fMost (m:Nat):Tr:=fun args σ K _=>∃ c s:NTree,args=[nodeAV c,nodeAV s]/\depthN c < m/\depthN s < m/\okX c/\okX s/\FormA K σ (mostF m c s)
theorem inner_call {m:Nat} (h:env 168=T_fInner m) {n:NTree} (h1:depthN n < m) (h2:okX n) (hK:∀ σ',σ.sub σ'->K (nodeAV (innerF m n)) σ'):env 168 [nodeAV n] σ K X:=by
  rw [h]; exact ⟨n,rfl,h1,h2,hK⟩
theorem pure_call {m:Nat} (h:env 167=Tr.wk (T_fPure m)) {n:NTree} (h1:depthN n + 1 < m + 1) (h2:okX n) (hK:∀ σ',σ.sub σ'->K (.pv (.bool (pureF m [n]))) σ'):env 167 [.full 1 (flatN [n])] σ K X:=by
  rw [h]
  refine ⟨[.pv (.lst 1 (flatN [n]))],⟨.inr ⟨_,rfl,rfl⟩,trivial⟩,[n],rfl,?_,by simp,⟨h2,trivial⟩,hK⟩
  have:depthNs [n]=max (depthN n) 0:=by simp [depthNs]
  omega
theorem same_call {m:Nat} (h:env 170=T_fSame m) {a v e:NTree} (h1:depthN a < m) (hv:depthN v + 1 < m) (he:depthN e + 1 < m) (xa:okX a) (xv:okX v) (xe:okX e) (hK:∀ σ',σ.sub σ'->K (.pv (.bool (sameF m a (.mk oAssign [61] [v,e])))) σ') :
    env 170 [nodeAV a,.agg [.pv (.str oAssign),.pv (.str [61]),.full 2 (flatN [v,e])]] σ K X:=by
  rw [h]
  refine ⟨a,.mk oAssign [61] [v,e],_,rfl,rfl,h1,?_,xa,?_,hK⟩
  · rw [depthN_kids]
    have:depthNs [v,e]=max (depthN v) (max (depthN e) 0):=by simp [depthNs]
    simp only [NTree.kids]
    omega
  · rw [okX]; exact ⟨by decide,by simp,xv,xe,trivial⟩
theorem guardNot {b:Bool} {A B:Prop} (h1:b=true->A) (h2:b=false->B):guardD (.pv (.bool (!b))) false A B:=by
  cases b with
  | true=>exact h1 rfl
  | false=>exact h2 rfl
theorem guardNot2 {b:Bool} {A B:Prop} (h1:b=false->A) (h2:b=true->B):guardD (.pv (.bool (!b))) true A B:=by
  cases b with
  | true=>exact h2 rfl
  | false=>exact h1 rfl
theorem condNot {b:Bool} {A B:Prop} (h1:b=false->A) (h2:b=true->B):condD (.pv (.bool (!b))) A B:=by
  cases b with
  | true=>exact h2 rfl
  | false=>exact h1 rfl
theorem guardNil {k:Bytes} {A B:Prop} (h1:k ≠ []->A) (h2:k=[]->B):guardD (.pv (.bool (k == []))) false A B:=by
  cases k with
  | nil=>exact h2 rfl
  | cons x l=>exact h1 (by simp)
theorem opNe {a b:Bytes} {A B:Prop} (h1:a=b->A) (h2:a ≠ b->B):guardD (.pv (.bool (!(a == b)))) false A B:=by
  by_cases h:a=b
  · rw [show (a == b)=true from beq_iff_eq.2 h]; exact h1 h
  · rw [show (a == b)=false from beq_eq_false_iff_ne.2 h]; exact h2 h
theorem fldN0 {n:NTree} {K:AV->Prop}:fieldD PS 50 (nodeAV n) 0 K=K (.pv (.str n.op)):=by
  rw [nodeAV_eq]
  simp [fieldD,T.fo50_0,partD,T.hT9,T.ag9]
theorem bldAssign {v e:NTree} {K:AV->Prop}:buildD PS 50 [(0,.pv (.str [97,115,115,105,103,110])),(1,.pv (.str [61])),(2,.full 2 (flatN [v,e]))] K=K (.agg [.pv (.str oAssign),.pv (.str [61]),.full 2 (flatN [v,e])]):=by
  simp [buildD,buildFill,go_sem,AV.cells,AV.cellOk,setAll,oAssign]
theorem bldFormE {k:Bytes} {v e:NTree} {K:AV->Prop}:buildD PS 131 [(0,.pv (.str k)),(1,nodeAV v),(2,.full 1 (flatN [e]))] K=K (.agg (formCells ⟨k,v,[e]⟩ (.pv (.lst v.kids.length (flatN v.kids))) (.full 1 (flatN [e])))):=by
  rw [nodeAV_eq]
  simp [buildD,buildFill,go_sem,formCells,AV.cells,AV.cellOk,setAll,NTree.op,NTree.text,NTree.kids]
def ordL:List (Bytes × AV):=aPut (aPut [] [62] (.pv (.str [109,97,120]))) [60] (.pv (.str [109,105,110]))
theorem aGet_ord (t:Bytes):aGet ordL t=(if t=[62] then some (.pv (.str cMax)) else if t=[60] then some (.pv (.str cMin)) else none):=by
  unfold ordL
  by_cases h:t=[62]
  · subst h; rfl
  · by_cases h2:t=[60]
    · subst h2; rfl
    · rw [if_neg h,if_neg h2]
      have e1:(([62]:Bytes) == t)=false:=beq_eq_false_iff_ne.2 (fun e=>h e.symm)
      have e2:(([60]:Bytes) == t)=false:=beq_eq_false_iff_ne.2 (fun e=>h2 e.symm)
      simp [aGet,aPut,e1,e2]
theorem lookK {σ:AS} {mid n:Nat} {t:Bytes} {K:AV->Prop} (hg:σ mid=some (.mapO 1 (mapEs ordL) n)):lookupD PS σ 94 (.amap mid) (.pv (.str t)) false K=K (.pv (.str (ordK t))):=by
  rw [mapLook mapTS keyT zStr hg,aGet_ord]
  unfold ordK
  by_cases h:t=[62]
  · rw [if_pos h,if_pos h]; rfl
  · rw [if_neg h,if_neg h]
    by_cases h2:t=[60]
    · rw [if_pos h2,if_pos h2]; rfl
    · rw [if_neg h2,if_neg h2]; rfl
def twoO (b6 b7 s6 s7:Bool) (f6 f7:Nat) (e v:NTree) (B:Objs):Objs:=(if b7=true then [(f7,.cells (if s7=true then [.pv (.str v.op),.pv (.str v.text),.pv (.lst v.kids.length (flatN v.kids))] else zeroN) (some 50))] else []) ++ ((if b6=true then [(f6,.cells (if s6=true then [.pv (.str e.op),.pv (.str e.text),.pv (.lst e.kids.length (flatN e.kids))] else zeroN) (some 50))] else []) ++ B)
def mostQ (mid f6 f7 t4 t3 t2:Nat) (e v s c:NTree):Objs:=[mapA mid ordL,boxV f7 (some 50) v,boxV f6 (some 50) e,(t4,.cells zeroFm (some 131)),boxV t3 none s,boxV t2 none c]
end
end Go.AD.Lx

set_option linter.unusedVariables false
set_option linter.unusedSimpArgs false
set_option maxRecDepth 100000
namespace Go.AD.Lx
open Go.Proofs RowKit
section
variable {env:Env} {args:List AV} {σ0 σ τ:AS} {K:AV->AS->Prop} {X:PV->AS->Prop} {L Y M:Objs}
def T_fOf (m:Nat):Tr:=fun args σ K _=>∃ n:NTree,args=[nodeAV n]/\depthN n <= m/\okX n/\FormA K σ (ofF m n)
theorem FormA.intro {r:FormS × Bool} (h:∀ (σ':AS) (a b c d e:AV),σ.sub σ'->[a,b,c,d,e].all AV.cellOk=true->(r.2=true->∃ tk tb,[a,b,c,d,e]=formCells r.1 tk tb/\FormR r.1 tk tb)->K (.tuple [.agg [a,b,c,d,e],.pv (.bool r.2)]) σ'):FormA K σ r:=h
theorem extr0 {x y:AV} {K:AV->Prop}:extractD (.tuple [x,y]) 0 K=K x:=rfl
theorem extr1 {x y:AV} {K:AV->Prop}:extractD (.tuple [x,y]) 1 K=K y:=rfl
theorem T_fOf_ok {m:Nat} (h1:env 134=T_fChanged m) (h2:env 135=T_fMost m) (h:T_fOf m args σ K X):bodyD PS env an89 Tryz.f89 args σ K X:=by
  obtain ⟨n,rfl,hd,hn,hK⟩:=h
  rw [<- S89_eq env,S89]
  simp only [lock_eq]
  refine box_N ?_
  intro t1 σ1 hS
  refine alloc_of T.zo131 rfl (fun t2 ht2=>?_)
  have hS:Sep σ (σ1.set t2 (.cells [.pv (.str []),.pv (.str []),.pv (.str []),.nilS,.nilS] (some 131))) [(t2,.cells zeroFm (some 131)),boxV t1 none n]:=hS.alloc ht2 (.cells zeroFm (some 131))
  generalize (σ1.set t2 (.cells [.pv (.str []),.pv (.str []),.pv (.str []),.nilS,.nilS] (some 131)))=σ2 at hS ⊢
  obtain ⟨htx,hkl,hkx⟩:=okX_kids hn
  have hg:σ2 t1=some (.cells [.pv (.str n.op),.pv (.str n.text),.pv (.lst n.kids.length (flatN n.kids))] none):=hS.get (by simp [boxV])
  have no:(ofF m n).2=false->buildD PS 131 [] fun t42=>storeD PS σ2 131 (.addr t2 0) t42 fun σ8=>loadD PS σ8 131 (.addr t2 0) fun r0=>retV (.tuple [r0,.pv (.bool false)]) σ8 K:=by
    intro hr
    rw [bldForm0]
    refine stForm (A:=[]) (B:=[_]) hS rfl (fun σ3 hS3=>?_)
    refine ldForm (v:=some 131) (hS3.get (List.mem_cons_self ..)) ?_
    exact retV_self (hK.none hr hS3.sub rfl)
  have j4:∀ b:Bool,¬ (n.op=oExpr/\n.kids.length=1)->(b=true ↔ n.op=oIf/\n.kids.length=2)->J89_4 env (.addr t1 0) (.addr t2 0) (.pv (.bool b)) σ2 K X:=by
    intro b n1 hb
    unfold J89_4
    simp only [lock_eq,cond_bool]
    refine iteI (fun g=>?_) (fun g=>no (by unfold ofF; rw [if_neg n1,if_neg (fun h=>g (hb.2 h))]))
    have g:=hb.1 g
    have er:ofF m n=mostF m (n.kids.getD 0 noneN) (n.kids.getD 1 noneN):=by unfold ofF; rw [if_neg n1,if_pos g]
    rw [er] at hK
    have i0:0 < n.kids.length:=by omega
    have i1:1 < n.kids.length:=by omega
    have hd0:=kidDepth (n:=n) i0
    have hd1:=kidDepth (n:=n) i1
    have x0:=kidOk hn i0
    have x1:=kidOk hn i1
    have ix0:∀ K:AV->Prop,indexAddrD PS 23 (.pv (.lst n.kids.length (flatN n.kids))) (.pv (.int .i64 0)) K=K (.elemP (flatN n.kids) (0 * 3)):=fun K=>node_ix (i:=0) i0
    have ix1:∀ K:AV->Prop,indexAddrD PS 23 (.pv (.lst n.kids.length (flatN n.kids))) (.pv (.int .i64 1)) K=K (.elemP (flatN n.kids) (1 * 3)):=fun K=>node_ix (i:=1) i1
    have ld0:=fun (τ:AS) (K:AV->Prop)=>ldK i0 τ K
    have ld1:=fun (τ:AS) (K:AV->Prop)=>ldK i1 τ K
    generalize n.kids.getD 0 noneN=k0 at *
    generalize n.kids.getD 1 noneN=k1 at *
    clear no er
    generalize hR:mostF m k0 k1=R at hK
    refine ⟨fun bs vs τ'=>match bs,vs with
      | [b0,b1,b2,b3,b4,b5,b6,b7,b8,b9,b10,b11,b12],[t31,t32,t33,t34,t35,t36,t37,t38,t39,t40,t41,t3] =>
          (b0=true->t31=.addr t1 2)/\(b1=true->t32=.pv (.lst n.kids.length (flatN n.kids)))/\(b2=true->t33=.elemP (flatN n.kids) (0 * 3))/\(b3=true->t34=nodeAV k0) /\
          (b4=true->t35=.addr t1 2)/\(b5=true->t36=.pv (.lst n.kids.length (flatN n.kids)))/\(b6=true->t37=.elemP (flatN n.kids) (1 * 3))/\(b7=true->t38=nodeAV k1) /\
          ∃ a b c d e:AV,(b8=true->t39=.tuple [.agg [a,b,c,d,e],.pv (.bool R.2)])/\(b8=true->[a,b,c,d,e].all AV.cellOk=true/\(R.2=true->∃ tk tb,[a,b,c,d,e]=formCells R.1 tk tb/\FormR R.1 tk tb)) /\
            (b9=true->t40=.agg [a,b,c,d,e])/\(b10=true->t41=.pv (.bool R.2))/\(b12=true->t3=.pv (.bool R.2))/\(b9=true->b8=true)/\(b10=true->b8=true)/\(b12=true->b8=true)/\(b11=true->b8=true) /\
            Sep σ τ' [(t2,.cells (if b11=true then [a,b,c,d,e] else zeroFm) (some 131)),boxV t1 none n]
      | _,_=>False,⟨nofun,nofun,nofun,nofun,nofun,nofun,nofun,nofun,.undef,.undef,.undef,.undef,.undef,nofun,nofun,nofun,nofun,nofun,nofun,nofun,nofun,nofun,hS⟩,?_⟩
    intro b0 b1 b2 b3 b4 b5 b6 b7 b8 b9 b10 b11 b12 t31 t32 t33 t34 t35 t36 t37 t38 t39 t40 t41 t3 τ' hI
    obtain ⟨h0,h1',h2',h3,h4,h5,h6,h7,a,b',c,d,e,h8,h8',h9,h10,h12,p9,p10,p12,p11,hS'⟩:=hI
    have hgc:τ' t1=some (.cells [.pv (.str n.op),.pv (.str n.text),.pv (.lst n.kids.length (flatN n.kids))] none):=hS'.get (by simp [boxV])
    refine ⟨⟨fun hb hd=>?_,fun hb hd=>?_,fun hb hd=>?_,fun hb hd=>?_,fun hb hd=>?_,fun hb hd=>?_,fun hb hd=>?_,fun hb hd=>?_,fun hb hd=>?_,fun hb hd=>?_,fun hb hd=>?_,fun hb hd=>?_,fun hb hd=>?_,trivial⟩,fun hall=>?_⟩
    · rw [T.fa50_2]
      exact ⟨fun _=>rfl,h1',h2',h3,h4,h5,h6,h7,a,b',c,d,e,h8,h8',h9,h10,h12,p9,p10,p12,p11,hS'⟩
    · obtain rfl:=h0 hd.1
      rw [T.ld23,hgc,ldM_cells]
      exact ⟨_,rfl,h0,fun _=>rfl,h2',h3,h4,h5,h6,h7,a,b',c,d,e,h8,h8',h9,h10,h12,p9,p10,p12,p11,hS'⟩
    · obtain rfl:=h1' hd.1
      rw [ix0]
      exact ⟨h0,h1',fun _=>rfl,h3,h4,h5,h6,h7,a,b',c,d,e,h8,h8',h9,h10,h12,p9,p10,p12,p11,hS'⟩
    · obtain rfl:=h2' hd.1
      rw [ld0]
      exact ⟨h0,h1',h2',fun _=>rfl,h4,h5,h6,h7,a,b',c,d,e,h8,h8',h9,h10,h12,p9,p10,p12,p11,hS'⟩
    · rw [T.fa50_2]
      exact ⟨h0,h1',h2',h3,fun _=>rfl,h5,h6,h7,a,b',c,d,e,h8,h8',h9,h10,h12,p9,p10,p12,p11,hS'⟩
    · obtain rfl:=h4 hd.1
      rw [T.ld23,hgc,ldM_cells]
      exact ⟨_,rfl,h0,h1',h2',h3,h4,fun _=>rfl,h6,h7,a,b',c,d,e,h8,h8',h9,h10,h12,p9,p10,p12,p11,hS'⟩
    · obtain rfl:=h5 hd.1
      rw [ix1]
      exact ⟨h0,h1',h2',h3,h4,h5,fun _=>rfl,h7,a,b',c,d,e,h8,h8',h9,h10,h12,p9,p10,p12,p11,hS'⟩
    · obtain rfl:=h6 hd.1
      rw [ld1]
      exact ⟨h0,h1',h2',h3,h4,h5,h6,fun _=>rfl,a,b',c,d,e,h8,h8',h9,h10,h12,p9,p10,p12,p11,hS'⟩
    · obtain rfl:=h3 hd.1
      obtain rfl:=h7 hd.2.1
      subst hb
      rw [h2]
      refine ⟨k0,k1,rfl,by omega,by omega,x0,x1,fun σ6 a b c d e hs6 hok hr=>?_⟩
      rw [hR] at hr ⊢
      have hS6:=upS hS' hs6
      obtain rfl:b9=false:=by cases b9 with | false=>rfl | true=>cases p9 rfl
      obtain rfl:b10=false:=by cases b10 with | false=>rfl | true=>cases p10 rfl
      obtain rfl:b11=false:=by cases b11 with | false=>rfl | true=>cases p11 rfl
      obtain rfl:b12=false:=by cases b12 with | false=>rfl | true=>cases p12 rfl
      exact ⟨h0,h1',h2',h3,h4,h5,h6,h7,a,b,c,d,e,fun _=>rfl,fun _=>⟨hok,hr⟩,nofun,nofun,nofun,nofun,nofun,nofun,nofun,hS6⟩
    · obtain rfl:=h8 hd.1
      rw [extr0]
      exact ⟨h0,h1',h2',h3,h4,h5,h6,h7,a,b',c,d,e,h8,h8',fun _=>rfl,h10,h12,fun _=>hd.1,p10,p12,p11,hS'⟩
    · obtain rfl:=h8 hd.1
      rw [extr1]
      exact ⟨h0,h1',h2',h3,h4,h5,h6,h7,a,b',c,d,e,h8,h8',h9,fun _=>rfl,h12,p9,fun _=>hd.1,p12,p11,hS'⟩
    · obtain rfl:=h9 hd.1
      subst hb
      refine stForm (A:=[]) (B:=[_]) (show Sep σ τ' ([] ++ (t2,.cells [.pv (.str []),.pv (.str []),.pv (.str []),.nilS,.nilS] (some 131)) :: [boxV t1 none n]) from hS') (h8' hd.2.1).1 (fun σ10 hS10=>?_)
      exact ⟨h0,h1',h2',h3,h4,h5,h6,h7,a,b',c,d,e,h8,h8',h9,h10,h12,p9,p10,p12,fun _=>hd.2.1,hS10⟩
    · obtain rfl:=h10 hd.1
      exact ⟨h0,h1',h2',h3,h4,h5,h6,h7,a,b',c,d,e,h8,h8',h9,h10,fun _=>rfl,p9,p10,fun _=>p10 hd.1,p11,hS'⟩
    · simp only [Bool.and_eq_true,and_true] at hall
      obtain ⟨a0,a1,a2,a3,a4,a5,a6,a7,a8,a9,a10,a11,a12⟩:=hall
      subst a11
      obtain rfl:=h12 a12
      refine ldForm (v:=some 131) (hS'.get (List.mem_cons_self ..)) ?_
      exact retV_self (hK τ' _ _ _ _ _ hS'.sub (h8' a8).1 (h8' a8).2)
  simp (disch:=omega) only [T.fa50_0,T.fa50_2,T.ld9,T.ld23,hg,ldM_cells,Nat.zero_add,List.getElem?_cons_zero,List.getElem?_cons_succ,someEx,bin_seql,guard_true,T.lnl23,bin_eql]
  have j2:∀ b:Bool,(b=true ↔ n.op=oExpr/\n.kids.length=1)->J89_2 env (.addr t1 0) (.addr t2 0) (.pv (.bool b)) σ2 K X:=by
    intro b hb
    unfold J89_2
    simp (disch:=omega) only [lock_eq,cond_bool,T.fa50_0,T.fa50_2,T.ld9,T.ld23,hg,ldM_cells,Nat.zero_add,List.getElem?_cons_zero,List.getElem?_cons_succ,someEx,bin_seql,guard_true,T.lnl23,bin_eql]
    refine iteI (fun g=>?_) (fun g=>?_)
    · have g:=hb.1 g
      have i0:0 < n.kids.length:=by omega
      have er:ofF m n=changedF m (n.kids.getD 0 noneN):=by unfold ofF; rw [if_pos g]
      rw [er] at hK
      have hd0:=kidDepth (n:=n) i0
      have x0:=kidOk hn i0
      have ix0:∀ K:AV->Prop,indexAddrD PS 23 (.pv (.lst n.kids.length (flatN n.kids))) (.pv (.int .i64 0)) K=K (.elemP (flatN n.kids) (0 * 3)):=fun K=>node_ix (i:=0) i0
      rw [ix0,ldK i0,h1]
      refine ⟨_,rfl,by omega,x0,fun σ3 a b c d e hs3 hok hr=>?_⟩
      have hS3:=upS hS hs3
      simp only [extr0,extr1]
      refine stForm (A:=[]) (B:=[_]) hS3 hok (fun σ4 hS4=>?_)
      refine ldForm (v:=some 131) (hS4.get (List.mem_cons_self ..)) ?_
      exact retV_self (hK σ4 _ _ _ _ _ hS4.sub hok hr)
    · have n1:¬ (n.op=oExpr/\n.kids.length=1):=fun h=>g (hb.2 h)
      refine iteI (fun g2=>j4 _ n1 ?_) (fun g2=>j4 _ n1 ?_)
      · have g2:n.op=oIf:=beq_iff_eq.1 g2
        constructor
        · intro h; exact ⟨g2,by have:=eq_of_beq h; omega⟩
        · intro h; rw [h.2]; rfl
      · exact ⟨nofun,fun h=>absurd (beq_iff_eq.2 h.1) g2⟩
  refine iteI (fun g2=>j2 _ ?_) (fun g2=>j2 _ ?_)
  · have g2:n.op=oExpr:=beq_iff_eq.1 g2
    constructor
    · intro h; exact ⟨g2,by have:=eq_of_beq h; omega⟩
    · intro h; rw [h.2]; rfl
  · exact ⟨nofun,fun h=>absurd (beq_iff_eq.2 h.1) g2⟩
end
end Go.AD.Lx

set_option linter.unusedVariables false
set_option linter.unusedSimpArgs false
set_option maxRecDepth 100000
namespace Go.AD.Lx
open Go.Proofs RowKit
theorem depthNs_drop1 (l:List NTree):depthNs (l.drop 1) <= depthNs l:=by
  cases l with
  | nil=>exact Nat.le_refl _
  | cons x l=>rw [List.drop_succ_cons,List.drop_zero,depthNs]; omega
theorem okXs_drop1 {l:List NTree} (h:okXs l):okXs (l.drop 1):=okXs_iff.2 (fun x hx=>okXs_iff.1 h x (List.mem_of_mem_drop hx))
theorem formOk_kid {m:Nat} {n to:NTree} {k:Bytes} {by_:List NTree} (hd:depthN n <= m) (hdt:depthN to < depthN n) (hx:okX to) (hl:by_.length <= 1000000) (hb:depthNs by_ < depthN n) (hbx:okXs by_):FormOk m ⟨k,to,by_⟩:=by
  obtain ⟨ht,hk,hkx⟩:=okX_kids hx
  have:=depthN_kids to
  exact ⟨ht,hk,hl,by simp only; omega,by simp only; omega,hkx,hbx⟩
theorem changedF_ok {m:Nat} {n:NTree} (hd:depthN n <= m) (hx:okX n) (h:(changedF m n).2=true):FormOk m (changedF m n).1:=by
  unfold changedF at h ⊢
  split at h
  · cases h
  · rename_i hn
    rw [if_neg hn]
    have i0:0 < n.kids.length:=by
      rw [Bool.or_eq_true,not_or] at hn
      have:=hn.2
      simp only [decide_eq_true_eq] at this
      omega
    obtain ⟨_,hl,hk⟩:=okX_kids hx
    have h1:=kidDepth (n:=n) i0
    have h2:=depthNs_drop1 n.kids
    have h3:=depthN_kids n
    exact formOk_kid hd h1 (kidOk hx i0) (by rw [List.length_drop]; omega) (by omega) (okXs_drop1 hk)
theorem mostG_ok {m:Nat} {c s:NTree} (hd:depthN c <= m) (hx:okX c) (h:(mostG m c s).2=true):FormOk m (mostG m c s).1:=by
  unfold mostG at h ⊢
  split at h
  · cases h
  · rename_i hn
    rw [if_neg hn]
    have h2:c.kids.length=2:=by
      rw [not_or,not_or] at hn
      exact Decidable.of_not_not hn.2.1
    have i0:0 < c.kids.length:=by omega
    have i1:1 < c.kids.length:=by omega
    unfold mostH at h ⊢
    split at h
    · cases h
    · rename_i hn2
      rw [if_neg hn2]
      have h1:=kidDepth (n:=c) i0
      have h2:=kidDepth (n:=c) i1
      refine formOk_kid hd h2 (kidOk hx i1) (by simp) ?_ ⟨kidOk hx i0,trivial⟩
      have:depthNs [c.kids.getD 0 noneN]=max (depthN (c.kids.getD 0 noneN)) 0:=by simp [depthNs]
      omega
theorem ofF_ok {m:Nat} {n:NTree} (hd:depthN n <= m) (hx:okX n) (h:(ofF m n).2=true):FormOk m (ofF m n).1:=by
  unfold ofF at h ⊢
  split at h
  · rename_i hn
    rw [if_pos hn]
    have i0:0 < n.kids.length:=by omega
    have:=kidDepth (n:=n) i0
    exact changedF_ok (by omega) (kidOk hx i0) h
  · rename_i hn
    rw [if_neg hn]
    split at h
    · rename_i hn2
      rw [if_pos hn2]
      have i0:0 < n.kids.length:=by omega
      have:=kidDepth (n:=n) i0
      rw [mostF_eq] at h ⊢
      have:=innerF_depth m (n.kids.getD 0 noneN)
      exact mostG_ok (by omega) (innerF_ok _ _ (kidOk hx i0)) h
    · cases h
section
variable {env:Env} {args:List AV} {σ0 σ τ:AS} {K:AV->AS->Prop} {X:PV->AS->Prop} {L Y M:Objs}
theorem add1 {i:Nat} (h:i <= 1000000) {K:AV->Prop}:binD PS .add 3 (.pv (.int .i64 (i:Nat))) (.pv (.int .i64 1)) K=K (.pv (.int .i64 ((i + 1:Nat)))):=by
  simp (disch:=omega) only [go_sem]
def T_fStatement (m g:Nat):Tr:=fun args σ K _=>∃ (σ0:AS) (p c a:Nat) (st:FdS) (L:Objs) (l:List NTree),args=[.addr p 0,.pv (.lst l.length (flatN l))]/\FAt σ0 σ p c a st L/\depthNs l < g/\depthNs l < m/\l.length <= 1000000/\okXs l /\
  ∀ σ',FAt σ0 σ' p c a (statementF m g l st) L->K (.tuple []) σ'
theorem stat_call {m g:Nat} (h:env 40=Tr.wk (T_fStatement m g)) {p c a:Nat} {st:FdS} {v:AV} {l:List NTree} (hv:toPV v=some (.lst l.length (flatN l))) (hF:FAt σ0 σ p c a st L) (h1:depthNs l < g) (h1':depthNs l < m) (h2:l.length <= 1000000) (h3:okXs l)
    (hK:∀ σ',FAt σ0 σ' p c a (statementF m g l st) L->K (.tuple []) σ'):env 40 [.addr p 0,v] σ K X:=by
  rw [h]
  exact ⟨[.addr p 0,.pv (.lst l.length (flatN l))],⟨.inl rfl,.inr ⟨_,hv,rfl⟩,trivial⟩,σ0,p,c,a,st,L,l,rfl,hF,h1,h1',h2,h3,hK⟩
theorem depthNs1 (x:NTree):depthNs [x]=depthN x:=by simp [depthNs]
theorem depthNs3 (x y z:NTree):depthNs [x,y,z]=max (depthN x) (max (depthN y) (depthN z)):=by simp [depthNs]
theorem stmt_round {I:Nat->List AV->AS->Prop} {m1 p c a i m g:Nat} {l:List NTree} {s:FdS} (h1:env 89=T_fOf m) (h2:env 90=T_fUpdate m) (h3:env 39=Tr.wk (T_fAsk m)) (h4:env 40=Tr.wk (T_fStatement m g))
    (gi:i < l.length) (hl:l.length <= 1000000) (hd:depthNs l < g + 1) (hdm:depthNs l < m) (hok:okXs l) (hF:FAt σ0 τ p c a s L)
    (hnext:∀ τ',FAt σ0 τ' p c a (stepF m (statementF m g) l[i] s) L->∃ m',m' < m1/\I m' [.addr p 0,.pv (.lst l.length (flatN l)),.pv (.int .i64 (l.length:Nat)),.pv (.int .i64 ((i + 1:Nat)))] τ') :
    L40_1 env I m1 (.addr p 0) (.pv (.lst l.length (flatN l))) (.pv (.int .i64 (l.length:Nat))) (.pv (.int .i64 (i:Nat))) τ K X:=by
  unfold L40_1
  simp (disch:=omega) only [lock_eq,go_sem,add1]
  rw [if_pos gi]
  simp only [node_ix gi,ldK gi,kidD gi]
  have hokn:=okXs_mem hok i gi
  have hdn:=depthNs_mem gi
  generalize l[i]=n at hokn hdn hnext ⊢
  obtain ⟨htx,hkl,hkx⟩:=okX_kids hokn
  have hdk:=depthN_kids n
  refine alloc_of T.zo50 rfl (fun t5 ht5=>?_)
  have hF:=hF.alloc ht5 (.cells zeroN (some 50))
  refine storeBox (A:=FObj p c a s) (B:=L) hF.sep (fun σ3 hS3=>?_)
  have hF3:FAt σ0 σ3 p c a s (boxV t5 (some 50) n :: L):=⟨hS3⟩
  clear hS3 hF
  refine loadBox (v:=some 50) (n:=n) (hF3.at (by simp [boxV])) ?_
  rw [h1]
  refine ⟨n,rfl,by omega,hokn,fun σ4 a' b' c' d' e' hs4 hcell hr=>?_⟩
  have hF4:=hF3.up hs4
  simp only [extr0,extr1]
  refine alloc_of T.zo131 rfl (fun t6 ht6=>?_)
  have hF5:=hF4.alloc ht6 (.cells zeroFm (some 131))
  refine stForm (A:=FObj p c a s) (B:=boxV t5 (some 50) n :: L) hF5.sep hcell (fun σ6 hS6=>?_)
  have hF6:FAt σ0 σ6 p c a s ((t6,.cells [a',b',c',d',e'] (some 131)) :: boxV t5 (some 50) n :: L):=⟨hS6⟩
  clear hS6 hF5 hF4 hs4 hF3
  rw [cond_bool]
  refine iteI (fun hu=>?_) (fun hu=>?_)
  · obtain ⟨tk,tb,he,hfr⟩:=hr hu
    refine ldForm (hF6.at (List.mem_cons_self ..)) ?_
    rw [he,h2]
    refine ⟨σ0,p,c,a,s,_,(ofF m n).1,tk,tb,rfl,hfr,ofF_ok (by omega) hokn hu,hF6,fun σ7 hF7=>?_⟩
    refine hnext σ7 ?_
    unfold stepF
    rw [if_pos hu]
    exact hF7.part ((List.sublist_cons_self ..).trans (List.sublist_cons_self ..))
  clear hr hcell
  have hF':=hF6.part (List.sublist_cons_self ..)
  clear hF6
  generalize hL5:boxV t5 (some 50) n :: L=L5 at hF'
  have hgn:∀ {σ':AS} {s':FdS},FAt σ0 σ' p c a s' L5->σ' t5=some (.cells [.pv (.str n.op),.pv (.str n.text),.pv (.lst n.kids.length (flatN n.kids))] (some 50)):=fun h=>h.at (by rw [<- hL5]; simp [boxV])
  have e0:stepF m (statementF m g) n s=if n.op=oExit \/ n.op=oDelete \/ n.op=oForin then { s with bad:=true }
    else if n.op=oPrint \/ n.op=oPrintf then askF m n.kids { s with bad:=s.bad || !(n.text == []) }
    else if n.op=oExpr then askF m n.kids s
    else if (n.op=oIf \/ n.op=oWhile)/\0 < n.kids.length then statementF m g (n.kids.drop 1) (askF m [n.kids.getD 0 noneN] s)
    else if n.op=oDo/\n.kids.length=2 then askF m [n.kids.getD 1 noneN] (statementF m g [n.kids.getD 0 noneN] s)
    else if n.op=oFor/\n.kids.length=4 then statementF m g [n.kids.getD 0 noneN,n.kids.getD 2 noneN,n.kids.getD 3 noneN] (askF m [n.kids.getD 1 noneN] s)
    else statementF m g n.kids s:=by unfold stepF; rw [if_neg hu]
  generalize hR:stepF m (statementF m g) n s=R at e0 hnext
  have fin:∀ (s':FdS) (τ':AS),FAt σ0 τ' p c a s' L5->s'=R->∃ m',m' < m1/\I m' [.addr p 0,.pv (.lst l.length (flatN l)),.pv (.int .i64 (l.length:Nat)),.pv (.int .i64 ((i + 1:Nat)))] τ':=by
    rintro s' τ' h rfl
    subst hL5
    exact hnext τ' (h.part (List.sublist_cons_self ..))
  clear hnext hL5 hR ht5 ht6
  have kd:∀ (j:Nat) (h:j < n.kids.length),depthN (n.kids.getD j noneN) <= depthNs n.kids:=fun j h=>by
    rw [kidD h]
    have:=depthNs_mem h
    omega
  have kx:∀ (j:Nat) (h:j < n.kids.length),okX (n.kids.getD j noneN):=fun j h=>kidOk hokn h
  have dg:depthNs n.kids < g:=by omega
  have dm:depthNs n.kids < m:=by omega
  have kl:∀ x:NTree,[x].length <= 1000000:=fun x=>by simp
  have j22:∀ b:Bool,¬ (n.op=oExit \/ n.op=oDelete \/ n.op=oForin)->¬ (n.op=oPrint \/ n.op=oPrintf)->¬ n.op=oExpr->¬ ((n.op=oIf \/ n.op=oWhile)/\0 < n.kids.length)->¬ (n.op=oDo/\n.kids.length=2)->(b=true ↔ n.op=oFor/\n.kids.length=4) ->
      J40_22 env I m1 (.addr p 0) (.pv (.lst n.kids.length (flatN n.kids))) (.pv (.lst l.length (flatN l))) (.pv (.int .i64 (l.length:Nat))) (.pv (.int .i64 (i:Nat))) (.pv (.bool b)) σ6 K X:=by
    intro b n1 n2 n3 n4 n5 hb
    rw [if_neg n1,if_neg n2,if_neg n3,if_neg n4,if_neg n5] at e0
    unfold J40_22
    simp only [lock_eq,cond_bool]
    refine iteI (fun gg=>?_) (fun gg=>?_)
    · have gg:=hb.1 gg
      rw [if_pos gg] at e0
      have i0:0 < n.kids.length:=by omega
      have i1:1 < n.kids.length:=by omega
      have i2:2 < n.kids.length:=by omega
      have i3:3 < n.kids.length:=by omega
      have ix0:∀ K:AV->Prop,indexAddrD PS 23 (.pv (.lst n.kids.length (flatN n.kids))) (.pv (.int .i64 0)) K=K (.elemP (flatN n.kids) (0 * 3)):=fun K=>node_ix (i:=0) i0
      have ix1:∀ K:AV->Prop,indexAddrD PS 23 (.pv (.lst n.kids.length (flatN n.kids))) (.pv (.int .i64 1)) K=K (.elemP (flatN n.kids) (1 * 3)):=fun K=>node_ix (i:=1) i1
      have ix2:∀ K:AV->Prop,indexAddrD PS 23 (.pv (.lst n.kids.length (flatN n.kids))) (.pv (.int .i64 2)) K=K (.elemP (flatN n.kids) (2 * 3)):=fun K=>node_ix (i:=2) i2
      have ix3:∀ K:AV->Prop,indexAddrD PS 23 (.pv (.lst n.kids.length (flatN n.kids))) (.pv (.int .i64 3)) K=K (.elemP (flatN n.kids) (3 * 3)):=fun K=>node_ix (i:=3) i3
      have ld0:=fun (τ:AS) (K:AV->Prop)=>ldK i0 τ K
      have ld1:=fun (τ:AS) (K:AV->Prop)=>ldK i1 τ K
      have ld2:=fun (τ:AS) (K:AV->Prop)=>ldK i2 τ K
      have ld3:=fun (τ:AS) (K:AV->Prop)=>ldK i3 τ K
      have d0:=kd 0 i0
      have d1:=kd 1 i1
      have d2:=kd 2 i2
      have d3:=kd 3 i3
      have x0:=kx 0 i0
      have x1:=kx 1 i1
      have x2:=kx 2 i2
      have x3:=kx 3 i3
      generalize n.kids.getD 0 noneN=k0 at *
      generalize n.kids.getD 1 noneN=k1 at *
      generalize n.kids.getD 2 noneN=k2 at *
      generalize n.kids.getD 3 noneN=k3 at *
      rw [ix1,ld1,rowN1]
      refine askW_call (l:=[k1]) h3 rfl hF' (by rw [depthNs1]; omega) (kl _) ⟨x1,trivial⟩ (fun σ22 hF22=>?_)
      generalize askF m [k1] s=s1 at e0 hF22
      refine ⟨fun bs vs τ'=>match bs,vs with
        | [b0,b1,b2,b3,b4,b5,b6,b7,b8,b9,b10,b11],[t137,t138,t139,t140,t141,t142,t143,t144,t145,t146,t147,t148] =>
          (b0=true->t137=.addr p 0)/\(b1=true->t138=.pv (.lst n.kids.length (flatN n.kids)))/\(b2=true->t139=.elemP (flatN n.kids) (0 * 3))/\(b3=true->t140=nodeAV k0) /\
          (b4=true->t141=.pv (.lst n.kids.length (flatN n.kids)))/\(b5=true->t142=.elemP (flatN n.kids) (2 * 3))/\(b6=true->t143=nodeAV k2) /\
          (b7=true->t144=.pv (.lst n.kids.length (flatN n.kids)))/\(b8=true->t145=.elemP (flatN n.kids) (3 * 3))/\(b9=true->t146=nodeAV k3)/\(b10=true->t147=.full 3 (flatN [k0,k2,k3])) /\
          FAt σ0 τ' p c a (if b11=true then statementF m g [k0,k2,k3] s1 else s1) L5
        | _,_=>False,⟨nofun,nofun,nofun,nofun,nofun,nofun,nofun,nofun,nofun,nofun,nofun,hF22⟩,?_⟩
      intro b0 b1 b2 b3 b4 b5 b6 b7 b8 b9 b10 b11 t137 t138 t139 t140 t141 t142 t143 t144 t145 t146 t147 t148 τ' hI
      obtain ⟨y0,y1,y2,y3,y4,y5,y6,y7,y8,y9,y10,hFF⟩:=hI
      refine ⟨⟨fun hb hd=>?_,fun hb hd=>?_,fun hb hd=>?_,fun hb hd=>?_,fun hb hd=>?_,fun hb hd=>?_,fun hb hd=>?_,fun hb hd=>?_,fun hb hd=>?_,fun hb hd=>?_,fun hb hd=>?_,fun hb hd=>?_,trivial⟩,fun hall=>?_⟩
      · exact ⟨fun _=>rfl,y1,y2,y3,y4,y5,y6,y7,y8,y9,y10,hFF⟩
      · exact ⟨y0,fun _=>rfl,y2,y3,y4,y5,y6,y7,y8,y9,y10,hFF⟩
      · obtain rfl:=y1 hd.1
        rw [ix0]
        exact ⟨y0,y1,fun _=>rfl,y3,y4,y5,y6,y7,y8,y9,y10,hFF⟩
      · obtain rfl:=y2 hd.1
        rw [ld0]
        exact ⟨y0,y1,y2,fun _=>rfl,y4,y5,y6,y7,y8,y9,y10,hFF⟩
      · exact ⟨y0,y1,y2,y3,fun _=>rfl,y5,y6,y7,y8,y9,y10,hFF⟩
      · obtain rfl:=y4 hd.1
        rw [ix2]
        exact ⟨y0,y1,y2,y3,y4,fun _=>rfl,y6,y7,y8,y9,y10,hFF⟩
      · obtain rfl:=y5 hd.1
        rw [ld2]
        exact ⟨y0,y1,y2,y3,y4,y5,fun _=>rfl,y7,y8,y9,y10,hFF⟩
      · exact ⟨y0,y1,y2,y3,y4,y5,y6,fun _=>rfl,y8,y9,y10,hFF⟩
      · obtain rfl:=y7 hd.1
        rw [ix3]
        exact ⟨y0,y1,y2,y3,y4,y5,y6,y7,fun _=>rfl,y9,y10,hFF⟩
      · obtain rfl:=y8 hd.1
        rw [ld3]
        exact ⟨y0,y1,y2,y3,y4,y5,y6,y7,y8,fun _=>rfl,y10,hFF⟩
      · obtain rfl:=y3 hd.1
        obtain rfl:=y6 hd.2.1
        obtain rfl:=y9 hd.2.2.1
        rw [rowN3]
        exact ⟨y0,y1,y2,y3,y4,y5,y6,y7,y8,y9,fun _=>rfl,hFF⟩
      · obtain rfl:=y0 hd.1
        obtain rfl:=y10 hd.2.1
        subst hb
        refine stat_call (l:=[k0,k2,k3]) h4 rfl hFF (by rw [depthNs3]; omega) (by rw [depthNs3]; omega) (by simp) ⟨x0,x2,x3,trivial⟩ (fun σ25 hF25=>?_)
        exact ⟨y0,y1,y2,y3,y4,y5,y6,y7,y8,y9,y10,hF25⟩
      · simp only [Bool.and_eq_true,and_true] at hall
        obtain ⟨a0,a1,a2,a3,a4,a5,a6,a7,a8,a9,a10,a11⟩:=hall
        subst a11
        rw [add1 (by omega)]
        exact fin _ _ hFF e0.symm
    · rw [if_neg (fun h=>gg (hb.2 h))] at e0
      refine stat_call h4 rfl hF' dg dm hkl hkx (fun σ7 hF7=>?_)
      rw [add1 (by omega)]
      exact fin _ _ hF7 e0.symm
  have j19:∀ b:Bool,¬ (n.op=oExit \/ n.op=oDelete \/ n.op=oForin)->¬ (n.op=oPrint \/ n.op=oPrintf)->¬ n.op=oExpr->¬ ((n.op=oIf \/ n.op=oWhile)/\0 < n.kids.length)->(b=true ↔ n.op=oDo/\n.kids.length=2) ->
      J40_19 env I m1 (.addr p 0) (.addr t5 0) (.pv (.lst n.kids.length (flatN n.kids))) (.pv (.lst l.length (flatN l))) (.pv (.int .i64 (l.length:Nat))) (.pv (.int .i64 (i:Nat))) (.pv (.bool b)) σ6 K X:=by
    intro b n1 n2 n3 n4 hb
    unfold J40_19
    simp (disch:=omega) only [lock_eq,cond_bool,T.fa50_0,T.ld9,hgn hF',ldM_cells,Nat.zero_add,List.getElem?_cons_zero,someEx,bin_seql,guard_true,T.lnl23,bin_eql]
    refine iteI (fun gg=>?_) (fun gg=>?_)
    · have gg:=hb.1 gg
      rw [if_neg n1,if_neg n2,if_neg n3,if_neg n4,if_pos gg] at e0
      have i0:0 < n.kids.length:=by omega
      have i1:1 < n.kids.length:=by omega
      have ix0:∀ K:AV->Prop,indexAddrD PS 23 (.pv (.lst n.kids.length (flatN n.kids))) (.pv (.int .i64 0)) K=K (.elemP (flatN n.kids) (0 * 3)):=fun K=>node_ix (i:=0) i0
      have ix1:∀ K:AV->Prop,indexAddrD PS 23 (.pv (.lst n.kids.length (flatN n.kids))) (.pv (.int .i64 1)) K=K (.elemP (flatN n.kids) (1 * 3)):=fun K=>node_ix (i:=1) i1
      have d0:=kd 0 i0
      have d1:=kd 1 i1
      rw [ix0,ldK i0,rowN1]
      refine stat_call (l:=[n.kids.getD 0 noneN]) h4 rfl hF' (by rw [depthNs1]; omega) (by rw [depthNs1]; omega) (kl _) ⟨kx 0 i0,trivial⟩ (fun σ18 hF18=>?_)
      rw [ix1,ldK i1,rowN1]
      refine askW_call (l:=[n.kids.getD 1 noneN]) h3 rfl hF18 (by rw [depthNs1]; omega) (kl _) ⟨kx 1 i1,trivial⟩ (fun σ20 hF20=>?_)
      rw [add1 (by omega)]
      exact fin _ _ hF20 e0.symm
    · have n5:¬ (n.op=oDo/\n.kids.length=2):=fun h=>gg (hb.2 h)
      refine iteI (fun g2=>j22 _ n1 n2 n3 n4 n5 ?_) (fun g2=>j22 _ n1 n2 n3 n4 n5 ?_)
      · have g2:n.op=oFor:=beq_iff_eq.1 g2
        constructor
        · intro h; exact ⟨g2,by have:=eq_of_beq h; omega⟩
        · intro h; rw [h.2]; rfl
      · exact ⟨nofun,fun h=>absurd (beq_iff_eq.2 h.1) g2⟩
  have j16:∀ b:Bool,¬ (n.op=oExit \/ n.op=oDelete \/ n.op=oForin)->¬ (n.op=oPrint \/ n.op=oPrintf)->¬ n.op=oExpr->(b=true ↔ (n.op=oIf \/ n.op=oWhile)/\0 < n.kids.length) ->
      J40_16 env I m1 (.addr p 0) (.addr t5 0) (.pv (.lst n.kids.length (flatN n.kids))) (.pv (.lst l.length (flatN l))) (.pv (.int .i64 (l.length:Nat))) (.pv (.int .i64 (i:Nat))) (.pv (.bool b)) σ6 K X:=by
    intro b n1 n2 n3 hb
    unfold J40_16
    simp (disch:=omega) only [lock_eq,cond_bool,T.fa50_0,T.ld9,hgn hF',ldM_cells,Nat.zero_add,List.getElem?_cons_zero,someEx,bin_seql,guard_true,T.lnl23,bin_eql]
    refine iteI (fun gg=>?_) (fun gg=>?_)
    · have gg:=hb.1 gg
      rw [if_neg n1,if_neg n2,if_neg n3,if_pos gg] at e0
      have i0:0 < n.kids.length:=gg.2
      have ix0:∀ K:AV->Prop,indexAddrD PS 23 (.pv (.lst n.kids.length (flatN n.kids))) (.pv (.int .i64 0)) K=K (.elemP (flatN n.kids) (0 * 3)):=fun K=>node_ix (i:=0) i0
      have d0:=kd 0 i0
      have dd:=depthNs_drop1 n.kids
      rw [ix0,ldK i0,rowN1]
      refine askW_call (l:=[n.kids.getD 0 noneN]) h3 rfl hF' (by rw [depthNs1]; omega) (kl _) ⟨kx 0 i0,trivial⟩ (fun σ15 hF15=>?_)
      rw [sliceN1 i0]
      refine stat_call h4 rfl hF15 (by omega) (by omega) (by rw [List.length_drop]; omega) (okXs_drop1 hkx) (fun σ16 hF16=>?_)
      rw [add1 (by omega)]
      exact fin _ _ hF16 e0.symm
    · have n4:¬ ((n.op=oIf \/ n.op=oWhile)/\0 < n.kids.length):=fun h=>gg (hb.2 h)
      refine iteI (fun g2=>j19 _ n1 n2 n3 n4 ?_) (fun g2=>j19 _ n1 n2 n3 n4 ?_)
      · have g2:n.op=oDo:=beq_iff_eq.1 g2
        constructor
        · intro h; exact ⟨g2,by have:=eq_of_beq h; omega⟩
        · intro h; rw [h.2]; rfl
      · exact ⟨nofun,fun h=>absurd (beq_iff_eq.2 h.1) g2⟩
  have j11:∀ b:Bool,¬ (n.op=oExit \/ n.op=oDelete \/ n.op=oForin)->(b=true ↔ (n.op=oPrint \/ n.op=oPrintf)) ->
      J40_11 env I m1 (.addr p 0) (.addr t5 0) (.pv (.lst n.kids.length (flatN n.kids))) (.pv (.lst l.length (flatN l))) (.pv (.int .i64 (l.length:Nat))) (.pv (.int .i64 (i:Nat))) (.pv (.bool b)) σ6 K X:=by
    intro b n1 hb
    unfold J40_11
    simp (disch:=omega) only [lock_eq,cond_bool,nil_addr,fld2,T.ld4,hF'.get,T.fa50_0,T.fa50_1,T.ld9,hgn hF',ldM_cells,Nat.zero_add,List.getElem?_cons_zero,List.getElem?_cons_succ,someEx,bin_seql,bin_sneq,guard_true,guard_false,T.lnl23,bin_gtr]
    refine iteI (fun gg=>?_) (fun gg=>?_)
    · have gg:=hb.1 gg
      rw [if_neg n1,if_pos gg] at e0
      refine iteI (fun g3=>?_) (fun g3=>?_)
      · refine hF'.setBad (fun σ9 hF9=>?_)
        refine askW_call h3 rfl hF9 dm hkl hkx (fun σ10 hF10=>?_)
        rw [add1 (by omega)]
        exact fin _ _ hF10 (by rw [e0,show s.bad=true from g3]; rfl)
      · refine hF'.setBad (fun σ9 hF9=>?_)
        refine askW_call h3 rfl hF9 dm hkl hkx (fun σ10 hF10=>?_)
        rw [add1 (by omega)]
        exact fin _ _ hF10 (by rw [e0,show s.bad=false from by simpa using g3]; rfl)
    · have n2:¬ (n.op=oPrint \/ n.op=oPrintf):=fun h=>gg (hb.2 h)
      refine iteI (fun g3=>?_) (fun g3=>?_)
      · have g3:n.op=oExpr:=beq_iff_eq.1 g3
        rw [if_neg n1,if_neg n2,if_pos g3] at e0
        refine askW_call h3 rfl hF' dm hkl hkx (fun σ10 hF10=>?_)
        rw [add1 (by omega)]
        exact fin _ _ hF10 e0.symm
      · have n3:¬ n.op=oExpr:=fun h=>g3 (beq_iff_eq.2 h)
        have gl:∀ (h:n.op=oIf \/ n.op=oWhile) (b:Bool),(b=true ↔ 0 < n.kids.length)->(b=true ↔ (n.op=oIf \/ n.op=oWhile)/\0 < n.kids.length):=fun h b hb=>⟨fun hh=>⟨h,hb.1 hh⟩,fun hh=>hb.2 hh.2⟩
        refine iteI (fun g4=>j16 _ n1 n2 n3 (gl (.inl (beq_iff_eq.1 g4)) _ (by simp))) (fun g4=>?_)
        refine iteI (fun g5=>j16 _ n1 n2 n3 (gl (.inr (beq_iff_eq.1 g5)) _ (by simp))) (fun g5=>j16 _ n1 n2 n3 ⟨nofun,?_⟩)
        rintro ⟨h | h,_⟩
        · exact absurd (beq_iff_eq.2 h) g4
        · exact absurd (beq_iff_eq.2 h) g5
  have j9:∀ b:Bool,(b=true ↔ (n.op=oExit \/ n.op=oDelete \/ n.op=oForin)) ->
      J40_9 env I m1 (.addr p 0) (.addr t5 0) (.pv (.lst n.kids.length (flatN n.kids))) (.pv (.lst l.length (flatN l))) (.pv (.int .i64 (l.length:Nat))) (.pv (.int .i64 (i:Nat))) (.pv (.bool b)) σ6 K X:=by
    intro b hb
    unfold J40_9
    simp (disch:=omega) only [lock_eq,cond_bool,nil_addr,fld2,T.fa50_0,T.ld9,hgn hF',ldM_cells,Nat.zero_add,List.getElem?_cons_zero,List.getElem?_cons_succ,someEx,bin_seql,guard_false]
    refine iteI (fun gg=>?_) (fun gg=>?_)
    · rw [if_pos (hb.1 gg)] at e0
      refine hF'.setBad (fun σ9 hF9=>?_)
      rw [add1 (by omega)]
      exact fin _ _ hF9 e0.symm
    · have n1:¬ (n.op=oExit \/ n.op=oDelete \/ n.op=oForin):=fun h=>gg (hb.2 h)
      refine iteI (fun g3=>j11 _ n1 ⟨fun _=>.inl (beq_iff_eq.1 g3),fun _=>rfl⟩) (fun g3=>j11 _ n1 ⟨fun h=>.inr (beq_iff_eq.1 h),?_⟩)
      rintro (h | h)
      · exact absurd (beq_iff_eq.2 h) g3
      · exact beq_iff_eq.2 h
  simp (disch:=omega) only [T.fa50_0,T.fa50_2,T.ld9,T.ld23,hgn hF',ldM_cells,Nat.zero_add,List.getElem?_cons_zero,List.getElem?_cons_succ,someEx,bin_seql,guard_false]
  refine iteI (fun g3=>j9 _ ⟨fun _=>.inl (beq_iff_eq.1 g3),fun _=>rfl⟩) (fun g3=>?_)
  refine iteI (fun g4=>j9 _ ⟨fun _=>.inr (.inl (beq_iff_eq.1 g4)),fun _=>rfl⟩) (fun g4=>j9 _ ⟨fun h=>.inr (.inr (beq_iff_eq.1 h)),?_⟩)
  rintro (h | h | h)
  · exact absurd (beq_iff_eq.2 h) g3
  · exact absurd (beq_iff_eq.2 h) g4
  · exact beq_iff_eq.2 h
theorem T_fStatement_ok {m g:Nat} (h1:env 89=T_fOf m) (h2:env 90=T_fUpdate m) (h3:env 39=Tr.wk (T_fAsk m)) (h4:env 40=Tr.wk (T_fStatement m g)) (h:T_fStatement m (g + 1) args σ K X):bodyD PS env an40 Tryz.f40 args σ K X:=by
  obtain ⟨σ0,p,c,a,st,L,l,rfl,hF,hd,hdm,hl,hok,hK⟩:=h
  rw [<- S40_eq env,S40]
  simp only [lock_eq,T.lnl23]
  refine lp40_1 (fun (q:Nat × FdS) _=>l.length - q.1) (fun q τ=>FAt σ0 τ p c a q.2 L/\q.1 <= l.length/\(l.drop q.1).foldl (fun st n=>stepF m (statementF m g) n st) q.2=statementF m (g + 1) l st) (fun q=>.pv (.int .i64 (q.1:Nat))) (0,st) ⟨hF,Nat.zero_le _,by rw [List.drop_zero]; rfl⟩ ?_
  clear hF
  rintro ⟨i,s⟩ τ ⟨hF,hi,hq⟩
  simp only at hF hi hq
  by_cases gi:i < l.length
  · rw [List.drop_eq_getElem_cons gi,List.foldl_cons] at hq
    refine stmt_round h1 h2 h3 h4 gi hl hd hdm hok hF (fun τ' hF'=>?_)
    exact back (i + 1,stepF m (statementF m g) l[i] s) rfl (by simp only; omega) ⟨hF',gi,hq⟩
  · have hi:i=l.length:=by omega
    subst hi
    unfold L40_1
    simp (disch:=omega) only [lock_eq,go_sem]
    rw [if_neg gi]
    rw [List.drop_length] at hq
    refine retV_self (hK τ ?_)
    rw [<- hq]
    exact hF
end
end Go.AD.Lx
