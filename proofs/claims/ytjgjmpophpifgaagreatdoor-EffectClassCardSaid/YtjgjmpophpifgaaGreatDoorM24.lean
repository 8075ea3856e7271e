import Derived.Test.YtjgjmpophpifgaaGreatDoorM22
import Derived.Test.YtjgjmpophpifgaaGreatDoorM23
import Derived.Test.YtjgjmpophpifgaaGreatDoorM7
set_option linter.unusedVariables false
set_option linter.unusedSimpArgs false
set_option maxRecDepth 100000
set_option maxHeartbeats 4000000
namespace Go.AD.Lx
open Go.Proofs RowKit
section
variable {env:Env} {args:List AV} {σ0 σ τ:AS} {K:AV->AS->Prop} {X:PV->AS->Prop} {L Y M:Objs}
theorem T_fMost_ok {m:Nat} (h1:env 166=T_NodeB variableB) (h2:env 167=Tr.wk (T_fPure m)) (h3:env 169=T_fNumeric m) (h4:env 168=T_fInner m) (h5:env 170=T_fSame m) (h:T_fMost m args σ K X):bodyD PS env an135 Tryz.f135 args σ K X:=by
  obtain ⟨c0,s0,rfl,hdc0,hds0,hc0,hs0,hK⟩:=h
  rw [<- S135_eq env,S135]
  simp only [lock_eq]
  refine box_N ?_
  intro t2 σ1 hS
  rw [nodeAV_eq s0]
  refine ⟨rfl,fun t3 ht3=>?_⟩
  have hS:=hS.alloc ht3 (.cells [.pv (.str s0.op),.pv (.str s0.text),.pv (.lst s0.kids.length (flatN s0.kids))] none)
  refine alloc_of T.zo131 rfl (fun t4 ht4=>?_)
  have hS:Sep σ _ [(t4,.cells zeroFm (some 131)),boxV t3 none s0,boxV t2 none c0]:=hS.alloc ht4 (.cells zeroFm (some 131))
  refine loadBox (v:=none) (n:=c0) (hS.get (by simp [boxV])) ?_
  refine inner_call h4 hdc0 hc0 (fun σ4 hs4=>?_)
  have hS:=upS hS hs4
  refine storeBox (A:=[_,_]) (B:=[]) hS (fun σ5 hS=>?_)
  rw [mostF_eq] at hK
  have hdc:depthN (innerF m c0) < m:=by have:=innerF_depth m c0; omega
  have hc:=innerF_ok m c0 hc0
  generalize innerF m c0=c at hS hK hdc hc
  clear hs4
  have j4:∀ (s:NTree) (τ:AS),Sep σ τ [(t4,.cells zeroFm (some 131)),boxV t3 none s,boxV t2 none c]->depthN s < m->okX s->FormA K σ (mostG m c s)->J135_4 env (.addr t2 0) (.addr t3 0) (.addr t4 0) τ K X:=by
    clear hK hS hds0 hs0
    intro s τ hS hds hs hK
    have hg2:τ t2=some (.cells [.pv (.str c.op),.pv (.str c.text),.pv (.lst c.kids.length (flatN c.kids))] none):=hS.get (by simp [boxV])
    have hg3:τ t3=some (.cells [.pv (.str s.op),.pv (.str s.text),.pv (.lst s.kids.length (flatN s.kids))] none):=hS.get (by simp [boxV])
    have hkc:=(okX_kids hc).2.1
    have hks:=(okX_kids hs).2.1
    have bad0:(mostG m c s).2=false->buildD PS 131 [] fun t44=>storeD PS τ 131 (.addr t4 0) t44 fun σ7=>loadD PS σ7 131 (.addr t4 0) fun r0=>retV (.tuple [r0,.pv (.bool false)]) σ7 K:=by
      intro hr
      rw [bldForm0]
      refine stForm (A:=[]) (B:=[_,_]) hS rfl (fun σ3 hS3=>?_)
      refine ldForm (v:=some 131) (hS3.get (List.mem_cons_self ..)) ?_
      exact retV_self (hK.none hr hS3.sub rfl)
    unfold J135_4
    simp (disch:=omega) only [lock_eq,T.fa50_0,T.fa50_2,T.ld9,T.ld23,hg2,hg3,ldM_cells,Nat.zero_add,List.getElem?_cons_zero,List.getElem?_cons_succ,someEx,bin_sneq,guard_false,T.lnl23,bin_neq,cond_bool]
    refine iteI (fun g1=>bad0 (by unfold mostG; rw [if_pos (.inl (by simpa [oBin] using g1))])) (fun g1=>?_)
    have g1:c.op=oBin:=by simpa [oBin] using g1
    refine iteI (fun g2=>bad0 (by unfold mostG; rw [if_pos (.inr (.inl (by intro h; rw [h] at g2; simp at g2)))])) (fun g2=>?_)
    have g2:c.kids.length=2:=by
      have:¬ ((c.kids.length:Int) ≠ 2):=by simpa using g2
      omega
    refine iteI (fun g3=>bad0 (by unfold mostG; rw [if_pos (.inr (.inr (.inl (by simpa [oExpr] using g3))))])) (fun g3=>?_)
    have g3:s.op=oExpr:=by simpa [oExpr] using g3
    refine iteI (fun g4=>bad0 (by unfold mostG; rw [if_pos (.inr (.inr (.inr (by intro h; rw [h] at g4; simp at g4))))])) (fun g4=>?_)
    have g4:s.kids.length=1:=by
      have:¬ ((s.kids.length:Int) ≠ 1):=by simpa using g4
      omega
    have hm:mostG m c s=mostH m (ordK c.text) (c.kids.getD 0 noneN) (c.kids.getD 1 noneN) (s.kids.getD 0 noneN):=by
      unfold mostG
      rw [if_neg]
      rintro (h | h | h | h)
      · exact h g1
      · exact h g2
      · exact h g3
      · exact h g4
    rw [hm] at hK
    have i0:0 < c.kids.length:=by omega
    have i1:1 < c.kids.length:=by omega
    have is:0 < s.kids.length:=by omega
    have hde:=kidDepth (n:=c) i0
    have hdv:=kidDepth (n:=c) i1
    have hdk:=kidDepth (n:=s) is
    have xe:=kidOk hc i0
    have xv:=kidOk hc i1
    have xk:=kidOk hs is
    have ix0:∀ K:AV->Prop,indexAddrD PS 23 (.pv (.lst c.kids.length (flatN c.kids))) (.pv (.int .i64 0)) K=K (.elemP (flatN c.kids) (0 * 3)):=fun K=>node_ix (i:=0) i0
    have ix1:∀ K:AV->Prop,indexAddrD PS 23 (.pv (.lst c.kids.length (flatN c.kids))) (.pv (.int .i64 1)) K=K (.elemP (flatN c.kids) (1 * 3)):=fun K=>node_ix (i:=1) i1
    have ixs:∀ K:AV->Prop,indexAddrD PS 23 (.pv (.lst s.kids.length (flatN s.kids))) (.pv (.int .i64 0)) K=K (.elemP (flatN s.kids) (0 * 3)):=fun K=>node_ix (i:=0) is
    have ld0:=fun (τ:AS) (K:AV->Prop)=>ldK i0 τ K
    have ld1:=fun (τ:AS) (K:AV->Prop)=>ldK i1 τ K
    have lds:=fun (τ:AS) (K:AV->Prop)=>ldK is τ K
    generalize c.kids.getD 0 noneN=e at *
    generalize c.kids.getD 1 noneN=v at *
    generalize s.kids.getD 0 noneN=k at *
    unfold J135_6
    simp only [lock_eq]
    refine ⟨fun bs vs τ'=>match bs,vs with
      | [b0,b1,b2,b3,b4,b5,b6,b7,b8,b9,b10,b11],[t45,t46,t47,t48,t49,t50,t51,t52,t6,t7] =>
          (b0=true->t45=.addr t2 2)/\(b1=true->t46=.pv (.lst c.kids.length (flatN c.kids)))/\(b2=true->t47=.elemP (flatN c.kids) (0 * 3))/\(b3=true->t48=nodeAV e) /\
          (b4=true->t49=.addr t2 2)/\(b5=true->t50=.pv (.lst c.kids.length (flatN c.kids)))/\(b6=true->t51=.elemP (flatN c.kids) (1 * 3))/\(b7=true->t52=nodeAV v) /\
          (b10=true->b8=true)/\(b11=true->b9=true)/\∃ f6 f7,(b8=true->t6=.addr f6 0)/\(b9=true->t7=.addr f7 0)/\Sep σ τ' (twoO b8 b9 b10 b11 f6 f7 e v [(t4,.cells zeroFm (some 131)),boxV t3 none s,boxV t2 none c])
      | _,_=>False,⟨nofun,nofun,nofun,nofun,nofun,nofun,nofun,nofun,nofun,nofun,0,0,nofun,nofun,hS⟩,?_⟩
    intro b0 b1 b2 b3 b4 b5 b6 b7 b8 b9 b10 b11 t45 t46 t47 t48 t49 t50 t51 t52 t6 t7 τ' hI
    obtain ⟨h0,h1',h2',h3',h4',h5',h6,h7,h10,h11,f6,f7,e6,e7,hS'⟩:=hI
    have hgc:τ' t2=some (.cells [.pv (.str c.op),.pv (.str c.text),.pv (.lst c.kids.length (flatN c.kids))] none):=hS'.get (by simp [twoO,boxV])
    refine ⟨⟨fun hb hd=>?_,fun hb hd=>?_,fun hb hd=>?_,fun hb hd=>?_,fun hb hd=>?_,fun hb hd=>?_,fun hb hd=>?_,fun hb hd=>?_,fun hb hd=>?_,fun hb hd=>?_,fun hb hd=>?_,fun hb hd=>?_,trivial⟩,fun hall=>?_⟩
    · rw [T.fa50_2]
      exact ⟨fun _=>rfl,h1',h2',h3',h4',h5',h6,h7,h10,h11,f6,f7,e6,e7,hS'⟩
    · obtain rfl:=h0 hd.1
      rw [T.ld23,hgc,ldM_cells]
      exact ⟨_,rfl,h0,fun _=>rfl,h2',h3',h4',h5',h6,h7,h10,h11,f6,f7,e6,e7,hS'⟩
    · obtain rfl:=h1' hd.1
      rw [ix0]
      exact ⟨h0,h1',fun _=>rfl,h3',h4',h5',h6,h7,h10,h11,f6,f7,e6,e7,hS'⟩
    · obtain rfl:=h2' hd.1
      rw [ld0]
      exact ⟨h0,h1',h2',fun _=>rfl,h4',h5',h6,h7,h10,h11,f6,f7,e6,e7,hS'⟩
    · rw [T.fa50_2]
      exact ⟨h0,h1',h2',h3',fun _=>rfl,h5',h6,h7,h10,h11,f6,f7,e6,e7,hS'⟩
    · obtain rfl:=h4' hd.1
      rw [T.ld23,hgc,ldM_cells]
      exact ⟨_,rfl,h0,h1',h2',h3',h4',fun _=>rfl,h6,h7,h10,h11,f6,f7,e6,e7,hS'⟩
    · obtain rfl:=h5' hd.1
      rw [ix1]
      exact ⟨h0,h1',h2',h3',h4',h5',fun _=>rfl,h7,h10,h11,f6,f7,e6,e7,hS'⟩
    · obtain rfl:=h6 hd.1
      rw [ld1]
      exact ⟨h0,h1',h2',h3',h4',h5',h6,fun _=>rfl,h10,h11,f6,f7,e6,e7,hS'⟩
    · subst hb
      obtain rfl:b10=false:=by cases b10 with | false=>rfl | true=>cases h10 rfl
      refine alloc_of T.zo50 rfl (fun f hf=>?_)
      refine ⟨h0,h1',h2',h3',h4',h5',h6,h7,nofun,h11,f,f7,fun _=>rfl,e7,?_⟩
      have hS3:=hS'.alloc hf (.cells zeroN (some 50))
      refine hS3.perm ?_
      exact List.perm_middle.symm
    · subst hb
      obtain rfl:b11=false:=by cases b11 with | false=>rfl | true=>cases h11 rfl
      refine alloc_of T.zo50 rfl (fun f hf=>?_)
      refine ⟨h0,h1',h2',h3',h4',h5',h6,h7,h10,nofun,f6,f,e6,fun _=>rfl,?_⟩
      exact hS'.alloc hf (.cells zeroN (some 50))
    · obtain rfl:=e6 hd.1
      obtain rfl:=h3' hd.2.1
      have hb8:b8=true:=hd.1
      subst hb8 hb
      refine storeBox (A:=if b9=true then [(f7,.cells (if b11=true then [.pv (.str v.op),.pv (.str v.text),.pv (.lst v.kids.length (flatN v.kids))] else zeroN) (some 50))] else []) (B:=[(t4,.cells zeroFm (some 131)),boxV t3 none s,boxV t2 none c]) hS' (fun σ6 hS6=>?_)
      exact ⟨h0,h1',h2',h3',h4',h5',h6,h7,fun _=>rfl,h11,f6,f7,fun _=>rfl,e7,hS6⟩
    · obtain rfl:=e7 hd.1
      obtain rfl:=h7 hd.2.1
      have hb9:b9=true:=hd.1
      subst hb9 hb
      refine storeBox (A:=[]) (B:=_) hS' (fun σ6 hS6=>?_)
      exact ⟨h0,h1',h2',h3',h4',h5',h6,h7,h10,fun _=>rfl,f6,f7,e6,fun _=>rfl,hS6⟩
    simp only [Bool.and_eq_true,and_true] at hall
    obtain ⟨a0,a1,a2,a3,a4,a5,a6,a7,a8,a9,a10,a11⟩:=hall
    subst a8 a9 a10 a11
    obtain rfl:=e6 rfl
    obtain rfl:=e7 rfl
    have hS2:Sep σ τ' [boxV f7 (some 50) v,boxV f6 (some 50) e,(t4,.cells zeroFm (some 131)),boxV t3 none s,boxV t2 none c]:=hS'
    clear hS' h0 h1' h2' h3' h4' h5' h6 h7 h10 h11 e6 e7 hS hg2 hg3 hgc bad0 ix0 ix1 ld0 ld1 ht4 ht3
    unfold makeMapD
    rw [mapTS]
    simp only [keyT]
    refine ⟨trivial,fun mid hmid=>?_⟩
    have hS2:=hS2.alloc hmid (.mapO 1 [] 0)
    refine mapUpd mapTS keyT (A:=[]) (l:=[]) hS2 (fun σ14 h14=>?_)
    refine mapUpd mapTS keyT (A:=[]) h14 (fun σ15 h15=>?_)
    have hP:Sep σ σ15 (mostQ mid f6 f7 t4 t3 t2 e v s c):=h15
    clear h15 h14 hS2
    have hgc:σ15 t2=some (.cells [.pv (.str c.op),.pv (.str c.text),.pv (.lst c.kids.length (flatN c.kids))] none):=hP.get (by simp [mostQ,boxV])
    have hgm:σ15 mid=some (.mapO 1 (mapEs ordL) ordL.length):=hP.get (by simp [mostQ,mapA])
    simp (disch:=omega) only [T.fa50_1,T.ld9,hgc,ldM_cells,Nat.zero_add,List.getElem?_cons_zero,List.getElem?_cons_succ,someEx]
    rw [lookK hgm]
    generalize ordK c.text=q at hK ⊢
    simp only [bin_seql]
    clear hgc hgm
    generalize hQ:mostQ mid f6 f7 t4 t3 t2 e v s c=Q at hP
    have L6:∀ {τ:AS} {K:AV->Prop},Sep σ τ Q->K (nodeAV e)->loadD PS τ 50 (.addr f6 0) K:=fun h hk=>by
      subst hQ
      exact loadBox (v:=some 50) (h.get (by simp [mostQ,boxV])) hk
    have L7:∀ {τ:AS} {K:AV->Prop},Sep σ τ Q->K (nodeAV v)->loadD PS τ 50 (.addr f7 0) K:=fun h hk=>by
      subst hQ
      exact loadBox (v:=some 50) (h.get (by simp [mostQ,boxV])) hk
    have L83:∀ {K:AV->Prop},K (.addr t3 2)->fieldAddrD PS 50 (.addr t3 0) 2 K:=fun hk=>by rw [T.fa50_2]; exact hk
    have L84:∀ {τ:AS} {K:AV->Prop},Sep σ τ Q->K (.pv (.lst s.kids.length (flatN s.kids)))->loadD PS τ 23 (.addr t3 2) K:=fun {τ K} h hk=>by
      have hg:τ t3=some (.cells [.pv (.str s.op),.pv (.str s.text),.pv (.lst s.kids.length (flatN s.kids))] none):=by subst hQ; exact h.get (by simp [mostQ,boxV])
      rw [T.ld23,hg,ldM_cells]
      exact ⟨_,rfl,hk⟩
    have L85:∀ {K:AV->Prop},K (.elemP (flatN s.kids) (0 * 3))->indexAddrD PS 23 (.pv (.lst s.kids.length (flatN s.kids))) (.pv (.int .i64 0)) K:=fun hk=>by rw [ixs]; exact hk
    have L86:∀ {τ:AS} {K:AV->Prop},K (nodeAV k)->loadD PS τ 50 (.elemP (flatN s.kids) (0 * 3)) K:=fun hk=>by rw [lds]; exact hk
    have R1:∀ {τ:AS} {K:AV->AS->Prop},K (.full 1 (flatN [e])) τ->buildSliceD PS false τ 23 1 1 [(0,nodeAV e)] K:=fun hk=>by rw [rowN1]; exact hk
    have R2:∀ {τ:AS} {K:AV->AS->Prop},K (.full 2 (flatN [v,e])) τ->buildSliceD PS false τ 23 2 2 [(0,nodeAV v),(1,nodeAV e)] K:=fun hk=>by rw [rowN2]; exact hk
    have B1:∀ {K:AV->Prop},K (.agg [.pv (.str oAssign),.pv (.str [61]),.full 2 (flatN [v,e])])->buildD PS 50 [(0,.pv (.str [97,115,115,105,103,110])),(1,.pv (.str [61])),(2,.full 2 (flatN [v,e]))] K:=fun hk=>by rw [bldAssign]; exact hk
    have NB:∀ {b:Bool} {K:AV->Prop},K (.pv (.bool (!b)))->unD .not (.pv (.bool b)) K:=fun hk=>by rw [un_not]; exact hk
    have FB:∀ {K:AV->Prop},K (.pv (.str (innerF m e).op))->fieldD PS 50 (nodeAV (innerF m e)) 0 K:=fun hk=>by rw [fldN0]; exact hk
    have EB:∀ {a b:Bytes} {K:AV->Prop},K (.pv (.bool (!(a == b))))->binD PS .neq 9 (.pv (.str a)) (.pv (.str b)) K:=fun hk=>by rw [bin_sneq]; exact hk
    have bad:∀ {τ:AS},Sep σ τ Q->(mostH m q e v k)=(form0,false)->buildD PS 131 [] fun t44=>storeD PS τ 131 (.addr t4 0) t44 fun σ7=>loadD PS σ7 131 (.addr t4 0) fun r0=>retV (.tuple [r0,.pv (.bool false)]) σ7 K:=by
      intro τ h hr
      subst hQ
      rw [bldForm0]
      refine stForm (A:=[_,_,_]) (B:=[_,_]) h rfl (fun σ3 hS3=>?_)
      refine ldForm (v:=some 131) (hS3.get (List.mem_append_right _ (List.mem_cons_self ..))) ?_
      exact retV_self (hK.none (by rw [hr]) hS3.sub rfl)
    have good:∀ {τ:AS},Sep σ τ Q->q ≠ []->variableB v=true->pureF m [e]=true->(numericF m e=false->(innerF m e).op=oField)->sameF m k (.mk oAssign [61] [v,e])=true->J135_10 env (.addr t4 0) (.addr f6 0) (.addr f7 0) (.pv (.str q)) τ K X:=by
      intro τ h n1 n2 n3 n4 n5
      have hr:mostH m q e v k=(⟨q,v,[e]⟩,true):=by
        unfold mostH
        rw [if_neg]
        rintro (h | h | h | h | h)
        · exact n1 h
        · rw [n2] at h; cases h
        · rw [n3] at h; cases h
        · exact h.2 (n4 h.1)
        · rw [n5] at h; cases h
      unfold J135_10
      simp only [lock_eq]
      refine L7 h ?_
      refine L6 h ?_
      refine R1 ?_
      rw [bldFormE]
      subst hQ
      refine stForm (A:=[_,_,_]) (B:=[_,_]) h rfl (fun σ3 hS3=>?_)
      refine ldForm (v:=some 131) (hS3.get (List.mem_append_right _ (List.mem_cons_self ..))) ?_
      exact retV_self (hK.some hr hS3.sub ⟨rfl,rfl⟩)
    have x1:q=[]->mostH m q e v k=(form0,false):=fun h=>by unfold mostH; rw [if_pos (.inl h)]
    have x2:variableB v=false->mostH m q e v k=(form0,false):=fun h=>by unfold mostH; rw [if_pos (.inr (.inl h))]
    have x3:pureF m [e]=false->mostH m q e v k=(form0,false):=fun h=>by unfold mostH; rw [if_pos (.inr (.inr (.inl h)))]
    have x4:numericF m e=false->(innerF m e).op ≠ oField->mostH m q e v k=(form0,false):=fun h h'=>by unfold mostH; rw [if_pos (.inr (.inr (.inr (.inl ⟨h,h'⟩))))]
    have x5:sameF m k (.mk oAssign [61] [v,e])=false->mostH m q e v k=(form0,false):=fun h=>by unfold mostH; rw [if_pos (.inr (.inr (.inr (.inr h))))]
    have C1:∀ {τ:AS} {K:AV->AS->Prop} {X':PV->AS->Prop},(∀ σ',τ.sub σ'->K (.pv (.bool (variableB v))) σ')->env 166 [nodeAV v] τ K X':=fun hk=>nodeB_call h1 xv hk
    have C2:∀ {τ:AS} {K:AV->AS->Prop} {X':PV->AS->Prop},(∀ σ',τ.sub σ'->K (.pv (.bool (pureF m [e]))) σ')->env 167 [.full 1 (flatN [e])] τ K X':=fun hk=>pure_call h2 (by omega) xe hk
    have C3:∀ {τ:AS} {K:AV->AS->Prop} {X':PV->AS->Prop},(∀ σ',τ.sub σ'->K (.pv (.bool (numericF m e))) σ')->env 169 [nodeAV e] τ K X':=fun hk=>num_call h3 (by omega) xe hk
    have C4:∀ {τ:AS} {K:AV->AS->Prop} {X':PV->AS->Prop},(∀ σ',τ.sub σ'->K (nodeAV (innerF m e)) σ')->env 168 [nodeAV e] τ K X':=fun hk=>inner_call h4 (by omega) xe hk
    have C5:∀ {τ:AS} {K:AV->AS->Prop} {X':PV->AS->Prop},(∀ σ',τ.sub σ'->K (.pv (.bool (sameF m k (.mk oAssign [61] [v,e])))) σ')->env 170 [nodeAV k,.agg [.pv (.str oAssign),.pv (.str [61]),.full 2 (flatN [v,e])]] τ K X':=fun hk=>same_call h5 (by omega) (by omega) (by omega) xk xv xe hk
    clear hQ hK hm ixs lds h1 h2 h3 h4 h5 xv xe xk
    clear is i0 i1 g1 g2 g3 g4 hks hkc hs hc hdk hdv hde hdc hds
    repeat' first
      | exact True.intro
      | with_reducible refine And.intro ?_ ?_
      | exact bad hP (x1 ‹_›)
      | exact bad hP (x2 ‹_›)
      | exact bad hP (x3 ‹_›)
      | exact bad hP (x4 ‹_› ‹_›)
      | exact bad hP (x5 ‹_›)
      | exact good hP ‹_› ‹_› ‹_› (fun _=>‹_›) ‹_›
      | exact good hP ‹_› ‹_› ‹_› (fun h=>absurd (h.symm.trans ‹numericF m e=true›) (by decide)) ‹_›
      | refine L6 hP ?_
      | refine L7 hP ?_
      | refine L83 ?_
      | refine L84 hP ?_
      | refine L85 ?_
      | refine L86 ?_
      | refine R1 ?_
      | refine R2 ?_
      | refine B1 ?_
      | refine NB ?_
      | refine FB ?_
      | refine EB ?_
      | refine opNe (b:=oField) (fun _=>?_) (fun _=>?_)
      | refine guardNil (fun _=>?_) (fun _=>?_)
      | refine guardNot (fun _=>?_) (fun _=>?_)
      | refine guardNot2 (fun _=>?_) (fun _=>?_)
      | refine condNot (fun _=>?_) (fun _=>?_)
      | (refine C1 (fun σn hn=>?_); replace hP:=upS hP hn)
      | (refine C2 (fun σn hn=>?_); replace hP:=upS hP hn)
      | (refine C3 (fun σn hn=>?_); replace hP:=upS hP hn)
      | (refine C4 (fun σn hn=>?_); replace hP:=upS hP hn)
      | (refine C5 (fun σn hn=>?_); replace hP:=upS hP hn)
  have hg3:σ5 t3=some (.cells [.pv (.str s0.op),.pv (.str s0.text),.pv (.lst s0.kids.length (flatN s0.kids))] none):=hS.get (by simp [boxV])
  have hkl:=(okX_kids hs0).2.1
  simp (disch:=omega) only [T.fa50_0,T.fa50_2,T.ld9,T.ld23,hg3,ldM_cells,Nat.zero_add,List.getElem?_cons_zero,List.getElem?_cons_succ,someEx,bin_seql,guard_true,T.lnl23,bin_eql]
  have no:¬ (s0.op=oBlock/\s0.kids.length=1)->J135_3 env (.addr t2 0) (.addr t3 0) (.addr t4 0) (.pv (.bool false)) σ5 K X:=by
    intro hn
    rw [if_neg hn] at hK
    unfold J135_3
    simp only [lock_eq]
    exact j4 s0 σ5 hS hds0 hs0 hK
  refine iteI (fun g1=>?_) (fun g1=>no (fun h=>g1 (beq_iff_eq.2 h.1)))
  have g1:s0.op=oBlock:=beq_iff_eq.1 g1
  cases hb:((s0.kids.length:Int) == 1) with
  | false=>exact no (fun h=>by rw [h.2] at hb; cases hb)
  | true =>
    have hl:s0.kids.length=1:=by have:=eq_of_beq hb; omega
    have i0:0 < s0.kids.length:=by omega
    rw [if_pos ⟨g1,hl⟩] at hK
    unfold J135_3
    have x0:∀ K:AV->Prop,indexAddrD PS 23 (.pv (.lst s0.kids.length (flatN s0.kids))) (.pv (.int .i64 0)) K=K (.elemP (flatN s0.kids) (0 * 3)):=fun K=>node_ix (i:=0) i0
    simp (disch:=omega) only [lock_eq,T.fa50_2,T.ld23,hg3,ldM_cells,Nat.zero_add,List.getElem?_cons_zero,List.getElem?_cons_succ,someEx,x0,ldK i0]
    rw [cond_bool,if_pos rfl]
    refine storeBox (A:=[_]) (B:=[_]) hS (fun σ6 hS6=>?_)
    exact j4 _ σ6 hS6 (by have:=kidDepth (n:=s0) i0; omega) (kidOk hs0 i0) hK
end
end Go.AD.Lx

set_option linter.unusedVariables false
set_option linter.unusedSimpArgs false
set_option maxRecDepth 100000
namespace Go.AD.Lx
open Go.Proofs RowKit
section
variable {env:Env} {args:List AV} {σ0 σ τ:AS} {K:AV->AS->Prop} {X:PV->AS->Prop} {L Y M:Objs}
theorem F_nSpecial (hm:HM):SoundF PS 22 T_nSpecial:=body_sound hm (EnvOk.add (env0_ok PS) F_Contains) an22 Tryz.func22 Tryz.call22 S22_ok (fun args σ K X h=>T_nSpecial_ok rfl h)
theorem F_fChanges (hm:HM):SoundF PS 88 (T_NodeB changesB):=body_sound hm (env0_ok PS) an88 Tryz.func88 Tryz.call88 S88_ok (fun args σ K X h=>T_fChanges_ok h)
theorem F_fVariable (hm:HM):SoundF PS 166 (T_NodeB variableB):=body_sound hm (EnvOk.add (env0_ok PS) (F_nSpecial hm)) an166 Tryz.func166 Tryz.call166 S166_ok (fun args σ K X h=>T_fVariable_ok rfl h)
theorem F_fNumeric (hm:HM):∀ m:Nat,SoundF PS 169 (T_fNumeric m)
  | 0=>by
    rintro w0 hS ρ σ w args us K X H hr ⟨n,_,h,_⟩
    exact absurd h (Nat.not_lt_zero _)
  | m + 1=>body_sound hm (EnvOk.add (env0_ok PS) (F_fNumeric hm m)) an169 Tryz.func169 Tryz.call169 S169_ok (fun args σ K X h=>T_fNumeric_ok rfl h)
theorem F_fChanged (hm:HM) (m:Nat):SoundF PS 134 (T_fChanged m):=body_sound hm (EnvOk.add (EnvOk.add (env0_ok PS) (F_fVariable hm)) (F_fPure hm m)) an134 Tryz.func134 Tryz.call134 S134_ok (fun args σ K X h=>T_fChanged_ok rfl rfl h)
theorem F_fMost (hm:HM) (m:Nat):SoundF PS 135 (T_fMost m) :=
  body_sound hm (EnvOk.add (EnvOk.add (EnvOk.add (EnvOk.add (EnvOk.add (env0_ok PS) (F_fVariable hm)) (F_fPure hm m).wk) (F_fNumeric hm m)) (F_fInner hm m)) (F_fSame hm m)) an135 Tryz.func135 Tryz.call135 S135_ok (fun args σ K X h=>T_fMost_ok rfl rfl rfl rfl rfl h)
theorem F_fOf (hm:HM) (m:Nat):SoundF PS 89 (T_fOf m):=body_sound hm (EnvOk.add (EnvOk.add (env0_ok PS) (F_fChanged hm m)) (F_fMost hm m)) an89 Tryz.func89 Tryz.call89 S89_ok (fun args σ K X h=>T_fOf_ok rfl rfl h)
theorem F_fAsk (hm:HM):∀ m:Nat,SoundF PS 39 (T_fAsk m)
  | 0=>by
    rintro w0 hS ρ σ w args us K X H hr ⟨_,_,_,_,_,_,_,_,_,h,_⟩
    exact absurd h (Nat.not_lt_zero _)
  | m + 1=>body_sound hm (EnvOk.add (EnvOk.add (env0_ok PS) (F_fAsk hm m)) (F_fChanges hm)) an39 Tryz.func39 Tryz.call39 S39_ok (fun args σ K X h=>T_fAsk_ok rfl rfl h)
theorem F_fUpdate (hm:HM) (m:Nat):SoundF PS 90 (T_fUpdate m):=body_sound hm (EnvOk.add (EnvOk.add (env0_ok PS) (F_fAsk hm m).wk) (F_nSpecial hm)) an90 Tryz.func90 Tryz.call90 S90_ok (fun args σ K X h=>T_fUpdate_ok rfl rfl h)
theorem F_fStatement (hm:HM) (m:Nat):∀ g:Nat,SoundF PS 40 (T_fStatement m g)
  | 0=>by
    rintro w0 hS ρ σ w args us K X H hr ⟨_,_,_,_,_,_,_,_,_,h,_⟩
    exact absurd h (Nat.not_lt_zero _)
  | g + 1=>body_sound hm (EnvOk.add (EnvOk.add (EnvOk.add (EnvOk.add (env0_ok PS) (F_fOf hm m)) (F_fUpdate hm m)) (F_fAsk hm m).wk) (F_fStatement hm m g).wk) an40 Tryz.func40 Tryz.call40 S40_ok (fun args σ K X h=>T_fStatement_ok rfl rfl rfl rfl h)
theorem F_fFind (hm:HM) (m:Nat):SoundF PS 15 (T_fFind m) :=
  body_sound hm (EnvOk.add (EnvOk.add (EnvOk.add (EnvOk.add (env0_ok PS) (F_fAsk hm m).wk) (F_fStatement hm m m).wk) F_mKeys) F_mSorted) an15 Tryz.func15 Tryz.call15 S15_ok (fun args σ K X h=>T_fFind_ok rfl rfl rfl rfl h)
end
end Go.AD.Lx

set_option linter.unusedVariables false
set_option maxRecDepth 100000
namespace Go.AD
open Go.Proofs.Tryz
def an14:An:={ mu:=[],cut:=[],loop:=[(3,[3,8,9,10])] }
def L14_3 (env:Env) (I3:Nat->List AV->AS->Prop) (m3:Nat) (s3_l3 t8_l3 t9_l3 t10_l3:AV) (s:AS) (K:AV->AS->Prop) (X:PV->AS->Prop):Prop :=
 (lock binD prog .lss 3 t10_l3 t9_l3 fun t11 =>
 (condD t11
 (lock indexAddrD prog 36 t8_l3 t10_l3 fun t13 =>
 (lock loadD prog s 3 t13 fun t14 =>
 (lock buildSliceD prog false s 26 5 5 [(0,(.pv (.str [36,49]))),(1,(.pv (.str [36,50,32,43,32,78,82]))),(2,(.pv (.str [78,70]))),(3,(.pv (.str [36,40,49,41,32,42,32,50]))),(4,(.pv (.str [108,101,110,103,116,104,40,36,48,41])))] fun t15 s2 =>
 (lock binD prog .rem 3 t10_l3 (.pv (.int .i64 5)) fun t17 =>
 (lock indexAddrD prog 26 t15 t17 fun t18 =>
 (lock loadD prog s2 9 t18 fun t19 =>
 (lock binD prog .rem 3 t10_l3 (.pv (.int .i64 20)) fun t21 =>
 (lock binD prog .add 3 (.pv (.int .i64 97)) t21 fun t22 =>
 (lock convD prog s2 3 5 t22 fun t23 =>
 (lock buildSliceD prog false s2 92 1 1 [(0,t23)] fun t24 s3 =>
 (lock convD prog s3 92 9 t24 fun t25 =>
 (lock binD prog .eql 3 t14 (.pv (.int .i64 1)) fun t33 =>
 (condD t33
 (lock binD prog .add 9 (.pv (.str [123,32,115])) t25 fun t36 =>
 (lock binD prog .add 9 t36 (.pv (.str [32,43,61,32])) fun t37 =>
 (lock binD prog .add 9 t37 t19 fun t39 =>
 (lock binD prog .add 9 t39 (.pv (.str [32,125,10])) fun t40 =>
 (lock binD prog .add 9 s3_l3 t40 fun t41 =>
 (lock binD prog .add 3 t10_l3 (.pv (.int .i64 1)) fun t68 =>
 (∃ m',m' < m3/\I3 m' [t41,t8_l3,t9_l3,t68] s3)))))))
 (lock binD prog .eql 3 t14 (.pv (.int .i64 2)) fun t43 =>
 (condD t43
 (lock binD prog .add 9 (.pv (.str [36,49,32,33,61,32,78,82,32,123,32,116])) t25 fun t46 =>
 (lock binD prog .add 9 t46 (.pv (.str [91])) fun t47 =>
 (lock binD prog .add 9 t47 t19 fun t49 =>
 (lock binD prog .add 9 t49 (.pv (.str [93,43,43,32,125,10])) fun t50 =>
 (lock binD prog .add 9 s3_l3 t50 fun t51 =>
 (lock binD prog .add 3 t10_l3 (.pv (.int .i64 1)) fun t68 =>
 (∃ m',m' < m3/\I3 m' [t51,t8_l3,t9_l3,t68] s3)))))))
 (lock binD prog .eql 3 t14 (.pv (.int .i64 3)) fun t53 =>
 (condD t53
 (lock binD prog .add 9 (.pv (.str [123,32,105,102,32,40])) t19 fun t56 =>
 (lock binD prog .add 9 t56 (.pv (.str [32,62,32,109])) fun t57 =>
 (lock binD prog .add 9 t57 t25 fun t59 =>
 (lock binD prog .add 9 t59 (.pv (.str [41,32,109])) fun t60 =>
 (lock binD prog .add 9 t60 t25 fun t62 =>
 (lock binD prog .add 9 t62 (.pv (.str [32,61,32])) fun t63 =>
 (lock binD prog .add 9 t63 t19 fun t65 =>
 (lock binD prog .add 9 t65 (.pv (.str [32,125,10])) fun t66 =>
 (lock binD prog .add 9 s3_l3 t66 fun t67 =>
 (lock binD prog .add 3 t10_l3 (.pv (.int .i64 1)) fun t68 =>
 (∃ m',m' < m3/\I3 m' [t67,t8_l3,t9_l3,t68] s3)))))))))))
 (lock binD prog .add 9 (.pv (.str [78,82,32,62,32,48,32,123,32,112,114,105,110,116,32])) t19 fun t29 =>
 (lock binD prog .add 9 t29 (.pv (.str [44,32,78,82,32,125,10])) fun t30 =>
 (lock binD prog .add 9 s3_l3 t30 fun t31 =>
 (lock binD prog .add 3 t10_l3 (.pv (.int .i64 1)) fun t68 =>
 (∃ m',m' < m3/\I3 m' [t31,t8_l3,t9_l3,t68] s3))))))))))))))))))))))
 (retV (s3_l3) s K)))
theorem L14_3_eq (env:Env) (I3:Nat->List AV->AS->Prop) (m3:Nat) (s3_l3 t8_l3 t9_l3 t10_l3:AV) (s:AS) (K:AV->AS->Prop) (X:PV->AS->Prop):L14_3 env I3 m3 s3_l3 t8_l3 t9_l3 t10_l3 s K X=wpD prog env an14 (subC (bodyC f14) [1,1,0,1,0,0]) (contQ prog env an14 (bodyC f14) [1,1,0,1,0,0] [(I3,m3)] (rootQ prog f14 K X)) [(3,s3_l3),(8,t8_l3),(9,t9_l3),(10,t10_l3)] s:=by
  unfold L14_3
  kernel_rfl
theorem lp14_3 {α:Type} {env:Env}  {t8_l3 t9_l3:AV} {s:AS} {K:AV->AS->Prop} {X:PV->AS->Prop} (μ:α->AS->Nat) (I:α->AS->Prop) (es3_l3 et10_l3:α->AV) (a0:α) (h0:I a0 s)
 (h:∀ a s,I a s->L14_3 env  (Inv (fun a=>[es3_l3 a,t8_l3,t9_l3,et10_l3 a]) μ I) (μ a s) (es3_l3 a) t8_l3 t9_l3 (et10_l3 a) s K X) :
 ∃ I3:Nat->List AV->AS->Prop,(∃ m,I3 m [es3_l3 a0,t8_l3,t9_l3,et10_l3 a0] s)/\∀ (m:Nat) (x0 x1 x2 x3:AV),∀ s,I3 m [x0,x1,x2,x3] s ->
 L14_3 env  I3 m x0 x1 x2 x3 s K X:=by
  refine ⟨Inv (fun a=>[es3_l3 a,t8_l3,t9_l3,et10_l3 a]) μ I,⟨_,a0,rfl,rfl,h0⟩,?_⟩
  rintro m x0 x1 x2 x3 s' ⟨a,hv,rfl,hI⟩
  simp only [List.cons.injEq,and_true] at hv
  obtain ⟨rfl,rfl,rfl,rfl⟩:=hv
  exact h a s' hI
def S14 (env:Env) (kinds0_a:AV) (s:AS) (K:AV->AS->Prop) (X:PV->AS->Prop):Prop :=
 (lock lenD prog 36 kinds0_a fun t9 =>
 (∃ I3:Nat->List AV->AS->Prop,(∃ m,I3 m [(.pv (.str [])),kinds0_a,t9,(.pv (.int .i64 0))] s)/\∀ (m3:Nat) (s3_l3 t8_l3 t9_l3 t10_l3:AV),∀ s1,I3 m3 [s3_l3,t8_l3,t9_l3,t10_l3] s1 ->
 (L14_3 env I3 m3 s3_l3 t8_l3 t9_l3 t10_l3 s1 K X)))
theorem S14_eq (env:Env) (kinds0_a:AV) (s:AS) (K:AV->AS->Prop) (X:PV->AS->Prop):S14 env kinds0_a s K X=bodyD prog env an14 f14 [kinds0_a] s K X:=by
  unfold S14
  simp only [L14_3_eq]
  kernel_rfl
theorem S14_ok:(match f14.body with | some c=>okCode an14 prog f14.ntmps c | none=>false)=true:=by kernel_rfl
def an13:An:={ mu:=[],cut:=[],loop:=[] }
def S13 (env:Env) (s:AS) (K:AV->AS->Prop) (X:PV->AS->Prop):Prop :=
 (env 12 [(.pv (.str [123,32,115,32,43,61,32,36,49,59,32,110,91,36,50,93,43,43,32,125,32,47,120,47,32,123,32,108,97,115,116,32,61,32,36,48,32,125]))] s (fun t10 s1 =>
 (lock extractD t10 0 fun t11 =>
 (lock extractD t10 1 fun t12 =>
 (env 15 [t11] s1 (fun t15 s2 =>
 (lock extractD t15 0 fun t16 =>
 (lock extractD t15 1 fun t17 =>
 (env 12 [(.pv (.str [123,32,112,114,105,110,116,32,115,59,32,115,43,43,32,125]))] s2 (fun t19 s3 =>
 (lock extractD t19 0 fun t20 =>
 (lock extractD t19 1 fun t21 =>
 (env 15 [t20] s3 (fun t24 s4 =>
 (lock extractD t24 0 fun t25 =>
 (lock extractD t24 1 fun t26 =>
 (guardD t17 true
 (unD .not t26 fun t30 =>
 (guardD t30 true
 (lock lenD prog 38 t16 fun t34 =>
 (lock binD prog .eql 3 t34 (.pv (.int .i64 3)) fun t35 =>
 (guardD t35 true
 (lock indexAddrD prog 38 t16 (.pv (.int .i64 0)) fun t39 =>
 (lock loadD prog s4 91 t39 fun t40 =>
 (lock buildD prog 91 [(0,(.pv (.str [108,97,115,116]))),(1,(.pv (.str [108,97,115,116])))] fun t41 =>
 (lock binD prog .eql 91 t40 t41 fun t42 =>
 (guardD t42 true
 (lock indexAddrD prog 38 t16 (.pv (.int .i64 2)) fun t46 =>
 (lock fieldAddrD prog 91 t46 1 fun t47 =>
 (lock loadD prog s4 9 t47 fun t48 =>
 (lock binD prog .eql 9 t48 (.pv (.str [115,117,109])) fun t49 =>
 (retV (t49) s4 K)))))
 (retV ((.pv (.bool false))) s4 K))))))
 (retV ((.pv (.bool false))) s4 K))))
 (retV ((.pv (.bool false))) s4 K)))
 (retV ((.pv (.bool false))) s4 K))))) (panV X))))) (panV X))))) (panV X))))) (panV X))
theorem S13_eq (env:Env) (s:AS) (K:AV->AS->Prop) (X:PV->AS->Prop):S13 env  s K X=bodyD prog env an13 f13 [] s K X:=by
  unfold S13
  kernel_rfl
theorem S13_ok:(match f13.body with | some c=>okCode an13 prog f13.ntmps c | none=>false)=true:=by kernel_rfl
def an6:An:={ mu:=[],cut:=[],loop:=[(11,[5,6,7,28,29,30])] }
def L6_11 (env:Env) (I11:Nat->List AV->AS->Prop) (m11:Nat) (u5_l11 good6_l11 n7_l11 t28_l11 t29_l11 t30_l11:AV) (s:AS) (K:AV->AS->Prop) (X:PV->AS->Prop):Prop :=
 (lock binD prog .lss 3 t30_l11 t29_l11 fun t31 =>
 (condD t31
 (lock indexAddrD prog 36 t28_l11 t30_l11 fun t32 =>
 (lock loadD prog s 3 t32 fun t33 =>
 (lock binD prog .geq 3 t33 (.pv (.int .i64 1)) fun t35 =>
 (guardD t35 true
 (lock binD prog .leq 3 t33 (.pv (.int .i64 3)) fun t38 =>
 (condD t38
 (lock binD prog .add 3 n7_l11 (.pv (.int .i64 1)) fun t41 =>
 (lock binD prog .add 3 t30_l11 (.pv (.int .i64 1)) fun t42 =>
 (∃ m',m' < m11/\I11 m' [u5_l11,good6_l11,t41,t28_l11,t29_l11,t42] s)))
 (lock binD prog .add 3 t30_l11 (.pv (.int .i64 1)) fun t42 =>
 (∃ m',m' < m11/\I11 m' [u5_l11,good6_l11,n7_l11,t28_l11,t29_l11,t42] s))))
 (lock binD prog .add 3 t30_l11 (.pv (.int .i64 1)) fun t42 =>
 (∃ m',m' < m11/\I11 m' [u5_l11,good6_l11,n7_l11,t28_l11,t29_l11,t42] s))))))
 (guardD good6_l11 true
 (lock lenD prog 38 u5_l11 fun t46 =>
 (lock binD prog .eql 3 t46 n7_l11 fun t48 =>
 (retV (t48) s K)))
 (retV ((.pv (.bool false))) s K))))
theorem L6_11_eq (env:Env) (I11:Nat->List AV->AS->Prop) (m11:Nat) (u5_l11 good6_l11 n7_l11 t28_l11 t29_l11 t30_l11:AV) (s:AS) (K:AV->AS->Prop) (X:PV->AS->Prop):L6_11 env I11 m11 u5_l11 good6_l11 n7_l11 t28_l11 t29_l11 t30_l11 s K X=wpD prog env an6 (subC (bodyC f6) [1,1,1,1,1,1,1,0,1,0,0]) (contQ prog env an6 (bodyC f6) [1,1,1,1,1,1,1,0,1,0,0] [(I11,m11)] (rootQ prog f6 K X)) [(5,u5_l11),(6,good6_l11),(7,n7_l11),(28,t28_l11),(29,t29_l11),(30,t30_l11)] s:=by
  unfold L6_11
  kernel_rfl
theorem lp6_11 {α:Type} {env:Env}  {u5_l11 good6_l11 t28_l11 t29_l11:AV} {s:AS} {K:AV->AS->Prop} {X:PV->AS->Prop} (μ:α->AS->Nat) (I:α->AS->Prop) (en7_l11 et30_l11:α->AV) (a0:α) (h0:I a0 s)
 (h:∀ a s,I a s->L6_11 env  (Inv (fun a=>[u5_l11,good6_l11,en7_l11 a,t28_l11,t29_l11,et30_l11 a]) μ I) (μ a s) u5_l11 good6_l11 (en7_l11 a) t28_l11 t29_l11 (et30_l11 a) s K X) :
 ∃ I11:Nat->List AV->AS->Prop,(∃ m,I11 m [u5_l11,good6_l11,en7_l11 a0,t28_l11,t29_l11,et30_l11 a0] s)/\∀ (m:Nat) (x0 x1 x2 x3 x4 x5:AV),∀ s,I11 m [x0,x1,x2,x3,x4,x5] s ->
 L6_11 env  I11 m x0 x1 x2 x3 x4 x5 s K X:=by
  refine ⟨Inv (fun a=>[u5_l11,good6_l11,en7_l11 a,t28_l11,t29_l11,et30_l11 a]) μ I,⟨_,a0,rfl,rfl,h0⟩,?_⟩
  rintro m x0 x1 x2 x3 x4 x5 s' ⟨a,hv,rfl,hI⟩
  simp only [List.cons.injEq,and_true] at hv
  obtain ⟨rfl,rfl,rfl,rfl,rfl,rfl⟩:=hv
  exact h a s' hI
def S6 (env:Env) (kinds0_a:AV) (s:AS) (K:AV->AS->Prop) (X:PV->AS->Prop):Prop :=
 (env 13 [] s (fun t10 s1 =>
 (unD .not t10 fun t11 =>
 (condD t11
 (retV ((.pv (.bool false))) s1 K)
 (lock lenD prog 36 kinds0_a fun t13 =>
 (lock binD prog .gtr 3 t13 (.pv (.int .i64 20)) fun t14 =>
 (condD t14
 (retV ((.pv (.bool true))) s1 K)
 (env 14 [kinds0_a] s1 (fun t17 s2 =>
 (env 12 [t17] s2 (fun t18 s3 =>
 (lock extractD t18 0 fun t19 =>
 (lock extractD t18 1 fun t20 =>
 (unD .not t20 fun t22 =>
 (condD t22
 (retV ((.pv (.bool false))) s3 K)
 (env 15 [t19] s3 (fun t25 s4 =>
 (lock extractD t25 0 fun t26 =>
 (lock extractD t25 1 fun t27 =>
 (lock lenD prog 36 kinds0_a fun t29 =>
 (∃ I11:Nat->List AV->AS->Prop,(∃ m,I11 m [t26,t27,(.pv (.int .i64 0)),kinds0_a,t29,(.pv (.int .i64 0))] s4)/\∀ (m11:Nat) (u5_l11 good6_l11 n7_l11 t28_l11 t29_l11 t30_l11:AV),∀ s5,I11 m11 [u5_l11,good6_l11,n7_l11,t28_l11,t29_l11,t30_l11] s5 ->
 (L6_11 env I11 m11 u5_l11 good6_l11 n7_l11 t28_l11 t29_l11 t30_l11 s5 K X)))))) (panV X))))))) (panV X))) (panV X)))))))) (panV X))
theorem S6_eq (env:Env) (kinds0_a:AV) (s:AS) (K:AV->AS->Prop) (X:PV->AS->Prop):S6 env kinds0_a s K X=bodyD prog env an6 f6 [kinds0_a] s K X:=by
  unfold S6
  simp only [L6_11_eq]
  kernel_rfl
theorem S6_ok:(match f6.body with | some c=>okCode an6 prog f6.ntmps c | none=>false)=true:=by kernel_rfl
end Go.AD

set_option linter.unusedVariables false
set_option linter.unusedSimpArgs false
set_option maxRecDepth 100000
namespace Go.AD.Lx
open Go.Proofs RowKit
section
variable {env:Env} {args:List AV} {σ0 σ τ:AS} {K:AV->AS->Prop} {X:PV->AS->Prop} {L Y M:Objs}
def intsV (zs:List Int):AV:=.pv (.lst zs.length (zs.map fun z=>.int .i64 z))
def T_fProgram:Tr:=fun args σ K _=>∃ zs:List Int,args=[intsV zs]/\zs.length <= 20/\∀ σ',σ.sub σ'->K (.pv (.str (progS 0 zs))) σ'
theorem lineLen (i:Nat) (z:Int):(lineS i z).length <= 60:=by
  have he:(eS i).length <= 11:=by
    unfold eS
    have:i % 5 < 5:=Nat.mod_lt _ (by decide)
    generalize i % 5=j at this
    match j,this with
    | 0,_=>decide
    | 1,_=>decide
    | 2,_=>decide
    | 3,_=>decide
    | 4,_=>decide
  have hn:(letS i).length=1:=rfl
  unfold lineS
  split
  · simp; omega
  · split
    · simp; omega
    · split
      · simp; omega
      · simp; omega
theorem eAt (i:Nat) {K:AV->Prop} (hK:K (.pv (.str (eS i)))):indexAddrD PS 26 (.full 5 (eL.map .str)) (.pv (.int .i64 ((i % 5:Nat)))) fun a=>loadD PS σ 9 a K:=by
  have h5:i % 5 < 5:=Nat.mod_lt _ (by decide)
  refine ix_of (by rw [T.el26]; rfl) (n:=5) (cs:=eL.map .str) rfl (by rw [T.el26]; exact T.iS9) (by rw [T.el26]; simp [T.sz9,eL]) (by rw [T.el26]; simp [T.sz9]) (by omega) (by omega) ?_
  rw [load_elem T.hT9 T.ag9]
  refine ⟨.str (eS i),?_,hK⟩
  rw [T.el26,Option.getD_some,T.sz9,Int.toNat_natCast,Nat.mul_one]
  unfold eS
  generalize i % 5=j at h5
  match j,h5 with
  | 0,_=>rfl
  | 1,_=>rfl
  | 2,_=>rfl
  | 3,_=>rfl
  | 4,_=>rfl
theorem rowE {K:AV->AS->Prop}:buildSliceD PS false σ 26 5 5 [(0,(.pv (.str [36,49]))),(1,(.pv (.str [36,50,32,43,32,78,82]))),(2,(.pv (.str [78,70]))),(3,(.pv (.str [36,40,49,41,32,42,32,50]))),(4,(.pv (.str [108,101,110,103,116,104,40,36,48,41])))] K=K (.full 5 (eL.map .str)) σ:=by
  simp [buildSliceD,T.el26,T.sz9,T.zo9,T.hT9,elemsFill,toPVs,toPVp,AV.cells,AV.cellOk,eL]
theorem remN {i n:Nat} (hn:0 < n) {K:AV->Prop}:binD PS .rem 3 (.pv (.int .i64 (i:Nat))) (.pv (.int .i64 (n:Nat))) K=K (.pv (.int .i64 ((i % n:Nat)))):=by
  have e:((i:Int).tmod (n:Nat))=((i % n:Nat):Int):=by
    rw [Int.tmod_eq_emod_of_nonneg (Int.natCast_nonneg i)]
    exact (Int.natCast_emod i n).symm
  have e2:((n:Nat):Int) ≠ 0:=by omega
  simp only [binD,intOp,e]
  simp [e2]
  intro h
  omega
theorem letV {i:Nat} {K:AV->AS->Prop} (hK:K (.pv (.str (letS i))) σ):binD PS .rem 3 (.pv (.int .i64 (i:Nat))) (.pv (.int .i64 20)) fun t21=>binD PS .add 3 (.pv (.int .i64 97)) t21 fun t22=>convD PS σ 3 5 t22 fun t23=>buildSliceD PS false σ 92 1 1 [(0,t23)] fun t24 σ3=>convD PS σ3 92 9 t24 fun t25=>K t25 σ3:=by
  have h20:i % 20 < 20:=Nat.mod_lt _ (by decide)
  have e1:∀ K:AV->Prop,binD PS .rem 3 (.pv (.int .i64 (i:Nat))) (.pv (.int .i64 20)) K=K (.pv (.int .i64 ((i % 20:Nat)))):=fun K=>remN (n:=20) (by decide)
  rw [e1,bin_add,wrap64 (by omega) (by omega),cvI (by rw [Tryz.underlying3]; rfl) Tryz.underlying5,wrapU8 (by omega) (by omega)]
  have e2:(97 + ((i % 20:Nat):Int))=((UInt8.ofNat (97 + i % 20)).toNat:Int):=by
    have:(UInt8.ofNat (97 + i % 20)).toNat=97 + i % 20:=by
      show (97 + i % 20) % 256=_
      omega
    rw [this]
    omega
  rw [e2]
  have rb:∀ K:AV->AS->Prop,buildSliceD PS false σ 92 1 1 [(0,.pv (.int .u8 ((UInt8.ofNat (97 + i % 20)).toNat:Int)))] K=K (.full 1 (pvBytes [UInt8.ofNat (97 + i % 20)])) σ:=by
    intro K
    simp [buildSliceD,T.el92,T.sz5,T.zo5,T.hT5,elemsFill,toPVs,toPVp,AV.cells,AV.cellOk,pvBytes]
  rw [rb,conv_bytes (l:=letS i) (by
    have h:=T.el92
    exact isSlice h) Tryz.underlying9 Tryz.underlying5 T.sz5 rfl]
  exact hK
theorem T_fProgram_ok (h:T_fProgram args σ K X):bodyD PS env an14 Tryz.f14 args σ K X:=by
  obtain ⟨zs,rfl,hn,hK⟩:=h
  rw [<- S14_eq env,S14]
  unfold intsV
  simp only [lock_eq,T.lnl36]
  refine lp14_3 (fun (q:Nat × Bytes) _=>zs.length - q.1) (fun q τ=>σ.sub τ/\q.1 <= zs.length/\q.2.length <= 61 * q.1/\q.2 ++ progS q.1 (zs.drop q.1)=progS 0 zs) (fun q=>.pv (.str q.2)) (fun q=>.pv (.int .i64 (q.1:Nat))) (0,[]) ⟨sub_refl _,Nat.zero_le _,Nat.zero_le _,by rw [List.drop_zero]; rfl⟩ ?_
  rintro ⟨i,s⟩ τ ⟨hs,hi,hsl,hq⟩
  simp only at hi hsl hq
  unfold L14_3
  simp (disch:=omega) only [lock_eq,bin_lss,cond_bool]
  refine iteI (fun g=>?_) (fun g=>?_)
  · have gi:i < zs.length:=by simpa using g
    rw [List.drop_eq_getElem_cons gi,progS] at hq
    have hll:=lineLen i zs[i]
    rw [T.ixl36 gi (by simp),load_elem T.hT3 T.ag3]
    refine ⟨.int .i64 zs[i],by simp [gi],?_⟩
    generalize zs[i]=z at hq hll ⊢
    rw [rowE,show ∀ K:AV->Prop,binD PS .rem 3 (.pv (.int .i64 (i:Nat))) (.pv (.int .i64 5)) K=K (.pv (.int .i64 ((i % 5:Nat)))) from fun K=>remN (n:=5) (by decide)]
    refine eAt i ?_
    refine letV ?_
    have he:(eS i).length <= 60/\(letS i).length=1:=⟨by
      unfold lineS at hll
      split at hll
      · simp at hll; omega
      · split at hll
        · simp at hll; omega
        · split at hll
          · simp at hll; omega
          · simp at hll; omega,rfl⟩
    have fin:∀ t:Bytes,t=lineS i z ++ [10]->∃ m',m' < zs.length - i/\Inv (fun (q:Nat × Bytes)=>[.pv (.str q.2),.pv (.lst zs.length (zs.map fun z=>.int .i64 z)),.pv (.int .i64 (zs.length:Nat)),.pv (.int .i64 (q.1:Nat))]) (fun (q:Nat × Bytes) _=>zs.length - q.1) (fun q τ=>σ.sub τ/\q.1 <= zs.length/\q.2.length <= 61 * q.1/\q.2 ++ progS q.1 (zs.drop q.1)=progS 0 zs) m' [.pv (.str (s ++ t)),.pv (.lst zs.length (zs.map fun z=>.int .i64 z)),.pv (.int .i64 (zs.length:Nat)),.pv (.int .i64 ((i + 1:Nat)))] τ:=by
      rintro t rfl
      refine back (i + 1,s ++ (lineS i z ++ [10])) rfl (by simp only; omega) ⟨hs,gi,?_,?_⟩
      · simp only [List.length_append,List.length_cons,List.length_nil]
        omega
      · simp only
        rw [<- hq]
        simp
    obtain ⟨he1,he2⟩:=he
    have cat:∀ {x y:Bytes} {K:AV->Prop},x.length + y.length <= 1000000->K (.pv (.str (x ++ y)))->binD PS .add 9 (.pv (.str x)) (.pv (.str y)) K:=fun h hk=>by
      rw [bin_cat]; exact ⟨by omega,hk⟩
    simp only [bin_eql,cond_bool,add1 (show i <= 1000000 by omega)]
    refine iteI (fun g1=>?_) (fun g1=>?_)
    · have g1:z=1:=beq_iff_eq.1 g1
      repeat refine cat (by simp; omega) ?_
      exact fin _ (by unfold lineS; rw [if_pos g1]; simp)
    have g1:¬ z=1:=fun h=>g1 (beq_iff_eq.2 h)
    refine iteI (fun g2=>?_) (fun g2=>?_)
    · have g2:z=2:=beq_iff_eq.1 g2
      repeat refine cat (by simp; omega) ?_
      exact fin _ (by unfold lineS; rw [if_neg g1,if_pos g2]; simp)
    have g2:¬ z=2:=fun h=>g2 (beq_iff_eq.2 h)
    refine iteI (fun g3=>?_) (fun g3=>?_)
    · have g3:z=3:=beq_iff_eq.1 g3
      repeat refine cat (by simp; omega) ?_
      exact fin _ (by unfold lineS; rw [if_neg g1,if_neg g2,if_pos g3]; simp)
    have g3:¬ z=3:=fun h=>g3 (beq_iff_eq.2 h)
    repeat refine cat (by simp; omega) ?_
    exact fin _ (by unfold lineS; rw [if_neg g1,if_neg g2,if_neg g3]; simp)
  · have e:i=zs.length:=by
      have:¬ i < zs.length:=by simpa using g
      omega
    subst e
    rw [List.drop_length,progS,List.append_nil] at hq
    refine retV_self ?_
    rw [hq]
    exact hK _ hs
end
end Go.AD.Lx

set_option linter.unusedVariables false
set_option linter.unusedSimpArgs false
set_option maxRecDepth 100000
namespace Go.AD.Lx
open Go.Proofs RowKit
section
variable {env:Env} {args:List AV} {σ0 σ τ:AS} {K:AV->AS->Prop} {X:PV->AS->Prop} {L Y M:Objs}
theorem parse17 (h:env 12=T_yParse) {s:Bytes} (hK:∀ σ',σ.sub σ'->K (parseNV (parseS s)) σ'):env 12 [.pv (.str s)] σ K X:=by
  rw [h]; exact ⟨s,rfl,hK⟩
theorem find_ok (h:env 15=T_fFind 40) {s:Bytes} {items:List NTree} {l:List (Bytes × Bytes)} (hF:FindsOk s items l) (hK:∀ σ' v,σ.sub σ'->toPV v=some (.lst l.length (flatT l))->K (.tuple [v,.pv (.bool true)]) σ'):env 15 [.pv (.lst items.length (flatN items))] σ K X:=by
  rw [h]
  refine ⟨items,rfl,hF.depth,hF.few,hF.ok,hF.good,?_⟩
  rw [hF.find]
  exact hK
theorem find_no (h:env 15=T_fFind 40) {s:Bytes} {items:List NTree} (hF:FindsNo s items) (hK:∀ σ',σ.sub σ'->K (.tuple [.nilS,.pv (.bool false)]) σ'):env 15 [.pv (.lst items.length (flatN items))] σ K X:=by
  rw [h]
  refine ⟨items,rfl,hF.depth,hF.few,hF.ok,hF.good,?_⟩
  rw [hF.find]
  exact hK
def T_fAwake:Tr:=fun args σ K _=>args=[]/\∀ σ',σ.sub σ'->K (.pv (.bool true)) σ'
theorem eqU {a1 a2 b1 b2:Bytes} {K:AV->Prop}:binD PS .eql 91 (.agg [.pv (.str a1),.pv (.str a2)]) (.agg [.pv (.str b1),.pv (.str b2)]) K=K (.pv (.bool ((a1 == b1) && (a2 == b2)))):=by
  have h1:PS.stoodInHeld 91=false:=by kernel_rfl
  have h2:PS.eqGuardType PS.depth 91=false:=by kernel_rfl
  simp [binD,eqD,h1,h2,Tryz.underlying91,sameFields,sameAt,Tryz.underlying9]
theorem T_fAwake_ok (law:AwakeLaw) (h1:env 12=T_yParse) (h2:env 15=T_fFind 40) (h:T_fAwake args σ K X):bodyD PS env an13 Tryz.f13 args σ K X:=by
  obtain ⟨rfl,hK⟩:=h
  obtain ⟨⟨a,ha⟩,b,hb⟩:=law
  rw [<- S13_eq env,S13]
  simp only [lock_eq]
  refine parse17 (s:=awA) h1 fun σ1 hs1=>?_
  rw [ha.parse]
  simp only [parseNV,ext_tuple,List.getElem?_cons_zero,List.getElem?_cons_succ,someEx]
  refine find_ok h2 ha fun σ2 v hs2 hv=>?_
  simp only [ext_tuple,List.getElem?_cons_zero,List.getElem?_cons_succ,someEx]
  refine parse17 (s:=awB) h1 fun σ3 hs3=>?_
  rw [hb.parse]
  simp only [parseNV,ext_tuple,List.getElem?_cons_zero,List.getElem?_cons_succ,someEx]
  refine find_no h2 hb fun σ4 hs4=>?_
  simp only [ext_tuple,List.getElem?_cons_zero,List.getElem?_cons_succ,someEx,guard_true,un_not,Bool.not_false,if_true]
  have fin:=retV_self (hK σ4 (AS.sub_trans hs1 (AS.sub_trans hs2 (AS.sub_trans hs3 hs4))))
  rw [T.lnv38 hv,bin_eql,guard_true,if_pos (by decide)]
  refine T.ixv38 (i:=0) hv (by decide) (by rw [flatT_len]) ?_
  rw [load_elemA T.hT91 T.ag91,T.sz91]
  refine ⟨by rw [flatT_len]; decide,?_⟩
  rw [flatT_get awL 0 (by decide),bldUpdate]
  have e0:(tokPV awL[0]).map AV.pv=[.pv (.str [108,97,115,116]),.pv (.str [108,97,115,116])]:=rfl
  rw [e0,eqU,guard_true,if_pos (by decide)]
  refine T.ixv38 (i:=2) hv (by decide) (by rw [flatT_len]) ?_
  rw [T.fe91_1,T.le9]
  refine ⟨.str cSum,rfl,?_⟩
  rw [bin_seql]
  exact fin
theorem awake17_call (h:env 13=T_fAwake) (hK:∀ σ',σ.sub σ'->K (.pv (.bool true)) σ'):env 13 [] σ K X:=by
  rw [h]; exact ⟨rfl,hK⟩
theorem updN_le:∀ zs:List Int,updN zs <= zs.length
  | []=>Nat.le_refl _
  | z :: zs=>by
    have:=updN_le zs
    rw [updN,List.length_cons]
    split <;> omega
def T_EffectClass:Tr:=fun args σ K _=>∃ zs:List Int,args=[intsV zs]/\∀ σ',σ.sub σ'->K (.pv (.bool true)) σ'
theorem T_EffectClass_ok (law:ClassLaw) (h1:env 12=T_yParse) (h2:env 15=T_fFind 40) (h3:env 13=T_fAwake) (h4:env 14=T_fProgram) (h:T_EffectClass args σ K X):bodyD PS env an6 Tryz.f6 args σ K X:=by
  obtain ⟨zs,rfl,hK⟩:=h
  rw [<- S6_eq env,S6]
  unfold intsV
  simp only [lock_eq,T.lnl36]
  refine awake17_call h3 fun σ1 hs1=>?_
  simp only [un_not,Bool.not_true,cond_bool,Bool.false_eq_true,if_false,bin_gtr]
  refine iteI (fun g=>retV_self (hK _ hs1)) (fun g=>?_)
  have g:zs.length <= 20:=by
    have:¬ (20:Int) < zs.length:=by simpa using g
    omega
  rw [h4]
  refine ⟨zs,rfl,g,fun σ2 hs2=>?_⟩
  obtain ⟨items,l,hF,hl⟩:=law zs g
  refine parse17 h1 fun σ3 hs3=>?_
  rw [hF.parse]
  simp only [parseNV,ext_tuple,List.getElem?_cons_zero,List.getElem?_cons_succ,someEx,un_not,Bool.not_true,cond_bool,Bool.false_eq_true,if_false]
  refine find_ok h2 hF fun σ4 v hs4 hv=>?_
  simp only [ext_tuple,List.getElem?_cons_zero,List.getElem?_cons_succ,someEx]
  have hsub:=AS.sub_trans hs1 (AS.sub_trans hs2 (AS.sub_trans hs3 hs4))
  refine lp6_11 (fun (q:Nat × Nat) _=>zs.length - q.1) (fun q τ=>σ.sub τ/\q.1 <= zs.length/\q.2 + updN (zs.drop q.1)=updN zs) (fun q=>.pv (.int .i64 (q.2:Nat))) (fun q=>.pv (.int .i64 (q.1:Nat))) (0,0) ⟨hsub,Nat.zero_le _,by simp⟩ ?_
  rintro ⟨i,n⟩ τ ⟨hs,hi,hq⟩
  simp only at hi hq
  have hle:=updN_le zs
  unfold L6_11
  simp (disch:=omega) only [lock_eq,bin_lss,cond_bool]
  refine iteI (fun gg=>?_) (fun gg=>?_)
  · have gi:i < zs.length:=by simpa using gg
    rw [T.ixl36 gi (by simp),load_elem T.hT3 T.ag3]
    refine ⟨.int .i64 zs[i],by simp [gi],?_⟩
    rw [List.drop_eq_getElem_cons gi,updN] at hq
    simp only [bin_geq,bin_leq,guard_true,cond_bool,add1 (show i <= 1000000 by omega),add1 (show n <= 1000000 by omega)]
    refine iteI (fun g1=>?_) (fun g1=>?_)
    · refine iteI (fun g2=>?_) (fun g2=>?_)
      · rw [if_pos ⟨by simpa using g1,by simpa using g2⟩] at hq
        exact back (i + 1,n + 1) rfl (by simp only; omega) ⟨hs,gi,by simp only; omega⟩
      · rw [if_neg (fun h=>g2 (by simpa using h.2))] at hq
        exact back (i + 1,n) rfl (by simp only; omega) ⟨hs,gi,by simp only; omega⟩
    · rw [if_neg (fun h=>g1 (by simpa using h.1))] at hq
      exact back (i + 1,n) rfl (by simp only; omega) ⟨hs,gi,by simp only; omega⟩
  · have e:i=zs.length:=by
      have:¬ i < zs.length:=by simpa using gg
      omega
    subst e
    rw [List.drop_length,updN] at hq
    simp only [guard_true,if_true]
    rw [T.lnv38 hv,bin_eql,hl,<- hq,Nat.add_zero,beq_self_eq_true]
    exact retV_self (hK _ hs)
end
end Go.AD.Lx

set_option linter.unusedVariables false
set_option linter.unusedSimpArgs false
set_option maxRecDepth 100000
namespace Go.AD.Lx
mutual
def eqT:NTree->NTree->Bool
  | .mk a b c,.mk a' b' c'=>decide (a=a') && decide (b=b') && eqTs c c'
def eqTs:List NTree->List NTree->Bool
  | [],[]=>true
  | x :: xs,y :: ys=>eqT x y && eqTs xs ys
  | _,_=>false
end
mutual
theorem eqT_sound:∀ {a b:NTree},eqT a b=true->a=b
  | .mk a b c,.mk a' b' c',h=>by
    rw [eqT,Bool.and_eq_true,Bool.and_eq_true] at h
    obtain ⟨⟨h1,h2⟩,h3⟩:=h
    rw [of_decide_eq_true h1,of_decide_eq_true h2,eqTs_sound h3]
theorem eqTs_sound:∀ {a b:List NTree},eqTs a b=true->a=b
  | [],[],_=>rfl
  | x :: xs,y :: ys,h=>by
    rw [eqTs,Bool.and_eq_true] at h
    rw [eqT_sound h.1,eqTs_sound h.2]
  | [],_ :: _,h=>by simp [eqTs] at h
  | _ :: _,[],h=>by simp [eqTs] at h
end
def fieldT (k:Bytes):NTree:=.mk oField [] [.mk kNum k []]
def varT (k:Bytes):NTree:=.mk oVar k []
def eT (i:Nat):NTree:=match i % 5 with
  | 0=>fieldT [49]
  | 1=>.mk oBin [43] [fieldT [50],varT sNR]
  | 2=>varT sNF
  | 3=>.mk oBin [42] [.mk oField [] [.mk oGroup [] [.mk kNum [49] []]],.mk kNum [50] []]
  | _=>.mk kBuilt sLength [fieldT [48]]
def treeK (k:Nat) (n:Bytes) (e:NTree):NTree :=
  if k=1 then .mk oRule [] [noneN,.mk oBlock [] [.mk oExpr [] [.mk oAssign [43,61] [varT (115 :: n),e]]]]
  else if k=2 then .mk oRule [] [.mk oBin [33,61] [fieldT [49],varT sNR],.mk oBlock [] [.mk oExpr [] [.mk oPost [43,43] [.mk oElem (116 :: n) [e]]]]]
  else if k=3 then .mk oRule [] [noneN,.mk oBlock [] [.mk oIf [] [.mk oBin [62] [e,varT (109 :: n)],.mk oExpr [] [.mk oAssign [61] [varT (109 :: n),e]]]]]
  else .mk oRule [] [.mk oBin [62] [varT sNR,.mk kNum [48] []],.mk oBlock [] [.mk oPrint [] [e,varT sNR]]]
def kindOf (z:Int):Nat:=if z=1 then 1 else if z=2 then 2 else if z=3 then 3 else 0
theorem kindOf_lt (z:Int):kindOf z < 4:=by unfold kindOf; split <;> (try split) <;> (try split) <;> decide
theorem line_kind (i:Nat) (z:Int):lineS i z=lineS i (kindOf z:Nat):=by
  unfold kindOf
  by_cases h1:z=1
  · rw [if_pos h1,h1]; rfl
  · rw [if_neg h1]
    by_cases h2:z=2
    · rw [if_pos h2,h2]; rfl
    · rw [if_neg h2]
      by_cases h3:z=3
      · rw [if_pos h3,h3]; rfl
      · rw [if_neg h3]
        unfold lineS
        rw [if_neg h1,if_neg h2,if_neg h3,if_neg (by decide),if_neg (by decide),if_neg (by decide)]
def treeS (i:Nat) (z:Int):NTree:=treeK (kindOf z) (letS i) (eT i)
def chk (i k:Nat):Bool:=match lexS (lineS i (k:Int)) with
  | some (x :: ts)=>!endB x && decide (x ≠ wordT oElse) && decide ((x :: ts).length <= 40) && (match okL (tokensS (10 * (x :: ts).length + 20) (x :: ts)) with | some [t]=>eqT t (treeK k (letS i) (eT i)) | _=>false)
  | _=>false
theorem chk_all:∀ i,i < 20->∀ k,k < 4->chk i k=true:=by decide +kernel
end Go.AD.Lx

set_option linter.unusedVariables false
set_option linter.unusedSimpArgs false
set_option maxRecDepth 100000
namespace Go.AD.Lx
theorem chk_get {i k:Nat} (hi:i < 20) (hk:k < 4):∃ x ts t,lexS (lineS i (k:Int))=some (x :: ts)/\endB x=false/\x ≠ wordT oElse/\(x :: ts).length <= 40/\tokensS (10 * (x :: ts).length + 20) (x :: ts)=.ok [treeK k (letS i) (eT i)] t:=by
  have h:=chk_all i hi k hk
  unfold chk at h
  cases hl:lexS (lineS i (k:Int)) with
  | none=>rw [hl] at h; cases h
  | some l =>
    cases l with
    | nil=>rw [hl] at h; cases h
    | cons x ts =>
      rw [hl] at h
      simp only [Bool.and_eq_true] at h
      obtain ⟨⟨⟨h1,h2⟩,h3⟩,h4⟩:=h
      refine ⟨x,ts,?_⟩
      split at h4
      · rename_i t ht
        obtain ⟨r,hr⟩:=okL_some ht
        have:=eqT_sound h4
        subst this
        exact ⟨r,rfl,by simpa using h1,of_decide_eq_true h2,of_decide_eq_true h3,hr⟩
      · cases h4
theorem line_len (i:Nat) (z:Int):(lineS i z).length <= 60:=by
  have he:(eS i).length <= 11:=by
    unfold eS
    have:i % 5 < 5:=Nat.mod_lt _ (by decide)
    generalize i % 5=j at this
    match j,this with
    | 0,_=>decide
    | 1,_=>decide
    | 2,_=>decide
    | 3,_=>decide
    | 4,_=>decide
  have hn:(letS i).length=1:=rfl
  unfold lineS
  split
  · simp; omega
  · split
    · simp; omega
    · split
      · simp; omega
      · simp; omega
theorem line_tail (i:Nat) (z:Int):NoTail (lineS i z):=by
  unfold NoTail lineS
  split
  · rw [List.getLast?_append]; simp
  · split
    · rw [List.getLast?_append]; simp
    · split
      · rw [List.getLast?_append]; simp
      · rw [List.getLast?_append]; simp
theorem prog_len:∀ (i:Nat) (zs:List Int),(progS i zs).length <= 61 * zs.length
  | _,[]=>Nat.le_refl _
  | i,z :: zs=>by
    have h1:=line_len i z
    have h2:=prog_len (i + 1) zs
    rw [progS,List.length_append,List.length_cons,List.length_cons]
    omega
def treesS:Nat->List Int->List NTree
  | _,[]=>[]
  | i,z :: zs=>treeS i z :: treesS (i + 1) zs
theorem prog_read:∀ (zs:List Int) (i:Nat),i + zs.length <= 20->∃ toks,lexS (progS i zs)=some toks/\toks.length <= 41 * zs.length/\atS 0 (endsS toks) ≠ wordT oElse /\
    ∀ m f' pre,10 * toks.length + 20 <= m->toks.length < f'->∃ r,itemsL (recN m) f' pre (endsS toks)=.ok (pre ++ treesS i zs) r
  | [],i,_=>by
    refine ⟨[],(show lexS []=some [] by decide +kernel),Nat.zero_le _,by decide,fun m f' pre _ hf=>?_⟩
    obtain ⟨f,rfl⟩:∃ f,f'=f + 1:=⟨f' - 1,by have:([]:List Tok).length=0:=rfl; omega⟩
    refine ⟨[],?_⟩
    rw [treesS,List.append_nil]
    rfl
  | z :: zs,i,hi=>by
    rw [List.length_cons] at hi
    obtain ⟨toks,hl,hlen,hel,hp⟩:=prog_read zs (i + 1) (by omega)
    obtain ⟨x,ts,t,hl1,hx,hne,hlen1,hp1⟩:=chk_get (i:=i) (k:=kindOf z) (by omega) (kindOf_lt z)
    rw [<- line_kind] at hl1
    have hpl:=prog_len (i + 1) zs
    have hll:=line_len i z
    have hlex:lexS (progS i (z :: zs))=some ((x :: ts) ++ (kNl,[]) :: toks):=by
      rw [progS,lex_join (line_tail i z) (by omega) (by omega),hl1,hl]
      simp
    have eu:endsS ((kNl,[]) :: toks)=endsS toks:=by rw [endsS]; rfl
    have G:Good ((kNl,[]) :: toks):=⟨.inr rfl,by rw [eu]; exact hel⟩
    refine ⟨_,hlex,by simp only [List.length_append,List.length_cons] at hlen1 ⊢; omega,?_,fun m f' pre hm hf=>?_⟩
    · rw [List.cons_append,endsS,if_neg (by rw [hx]; decide)]
      exact hne
    · unfold tokensS at hp1
      simp only [List.length_append,List.length_cons] at hf hm
      obtain ⟨g,hg,e1⟩:=P_itemsL G (n:=10 * (x :: ts).length + 20) (m:=m) (by simp only [List.length_cons]; omega) pre _ [] (x :: ts) _ t (by omega) hp1 f' (by simp only [List.length_cons]; omega)
      rw [List.append_nil,eu] at e1
      simp only [List.length_cons] at hg
      obtain ⟨r,hr⟩:=hp m g (pre ++ [treeK (kindOf z) (letS i) (eT i)]) (by omega) (by omega)
      refine ⟨r,?_⟩
      rw [e1,hr,List.append_assoc]
      rfl
theorem prog_parse {zs:List Int} (h:zs.length <= 20):parseS (progS 0 zs)=some (treesS 0 zs):=by
  obtain ⟨toks,hl,hlen,_,hp⟩:=prog_read zs 0 (by omega)
  unfold parseS
  rw [hl]
  simp only
  unfold tokensS
  obtain ⟨r,hr⟩:=hp (10 * toks.length + 20) (10 * toks.length + 20) [] (Nat.le_refl _) (by omega)
  rw [hr]
  rfl
end Go.AD.Lx

set_option linter.unusedVariables false
set_option linter.unusedSimpArgs false
set_option maxRecDepth 100000
namespace Go.AD.Lx
theorem blk (E:NTree) (s:FdS):statementF 40 40 [.mk oBlock [] [E]] s=stepF 40 (statementF 40 38) E s:=rfl
theorem varOk {c:UInt8} {n:Bytes} (h:specialB (c :: n)=false):variableB (varT (c :: n))=true:=by
  unfold variableB
  rw [show (varT (c :: n)).text=c :: n from rfl,h]; rfl
theorem of1 {n:Bytes} {e:NTree} (h:specialB (115 :: n)=false):ofF 40 (.mk oExpr [] [.mk oAssign [43,61] [varT (115 :: n),e]])=(⟨cSum,varT (115 :: n),[e]⟩,true):=by
  unfold ofF
  rw [if_pos ⟨rfl,rfl⟩]
  show changedF 40 (.mk oAssign [43,61] [varT (115 :: n),e])=_
  unfold changedF
  have h0:((!((NTree.mk oAssign [43,61] [varT (115 :: n),e]).op == oAssign) && !((NTree.mk oAssign [43,61] [varT (115 :: n),e]).op == oPre) && !((NTree.mk oAssign [43,61] [varT (115 :: n),e]).op == oPost)) || decide ((NTree.mk oAssign [43,61] [varT (115 :: n),e]).kids.length=0))=false:=rfl
  rw [if_neg (by rw [h0]; exact Bool.false_ne_true)]
  have h1:variableB ((NTree.mk oAssign [43,61] [varT (115 :: n),e]).kids.getD 0 noneN)=true:=varOk h
  simp only [h1]
  rfl
theorem ruleI (a b:NTree) (l:List NTree) (st:FdS):itemsF 40 (.mk oRule [] [a,b] :: l) st=itemsF 40 l (statementF 40 40 [b] (askF 40 [a] st)):=by
  rw [itemsF,if_neg (show ¬ (NTree.mk oRule [] [a,b]).op=oRange from (show ¬ oRule=oRange by decide)),if_pos ⟨rfl,rfl⟩]
  rfl
theorem item1 (l:List NTree) (st:FdS) (n:Bytes) (e:NTree) (h:specialB (115 :: n)=false):itemsF 40 (treeK 1 n e :: l) st=itemsF 40 l (updateF 40 ⟨cSum,varT (115 :: n),[e]⟩ st):=by
  show itemsF 40 (.mk oRule [] [noneN,.mk oBlock [] [.mk oExpr [] [.mk oAssign [43,61] [varT (115 :: n),e]]]] :: l) st=_
  rw [ruleI,blk,stepF,of1 h,if_pos rfl]
  rfl
theorem of3 {n:Bytes} {e:NTree} (h:specialB (109 :: n)=false) (hp:pureF 40 [e]=true) (hq:numericF 40 e=true \/ (innerF 40 e).op=oField) (hs:sameF 40 (.mk oAssign [61] [varT (109 :: n),e]) (.mk oAssign [61] [varT (109 :: n),e])=true) :
    ofF 40 (.mk oIf [] [.mk oBin [62] [e,varT (109 :: n)],.mk oExpr [] [.mk oAssign [61] [varT (109 :: n),e]]])=(⟨cMax,varT (109 :: n),[e]⟩,true):=by
  unfold ofF
  rw [if_neg (fun hh=>absurd (show oIf=oExpr from hh.1) (by decide)),if_pos ⟨rfl,rfl⟩]
  show mostF 40 (.mk oBin [62] [e,varT (109 :: n)]) (.mk oExpr [] [.mk oAssign [61] [varT (109 :: n),e]])=_
  unfold mostF
  have e1:innerF 40 (.mk oBin [62] [e,varT (109 :: n)])=.mk oBin [62] [e,varT (109 :: n)]:=by
    rw [innerF,if_neg (fun hh=>absurd (show oBin=oGroup from hh.1) (by decide))]
  rw [e1]
  simp only
  have eS:(if (NTree.mk oExpr [] [.mk oAssign [61] [varT (109 :: n),e]]).op=oBlock/\(NTree.mk oExpr [] [.mk oAssign [61] [varT (109 :: n),e]]).kids.length=1 then (NTree.mk oExpr [] [.mk oAssign [61] [varT (109 :: n),e]]).kids.getD 0 noneN else NTree.mk oExpr [] [.mk oAssign [61] [varT (109 :: n),e]])=NTree.mk oExpr [] [.mk oAssign [61] [varT (109 :: n),e]] :=
    if_neg (fun hh=>absurd (show oExpr=oBlock from hh.1) (by decide))
  rw [eS]
  rw [if_neg (by
    rintro (hh | hh | hh | hh)
    · exact hh rfl
    · exact hh rfl
    · exact hh rfl
    · exact hh rfl)]
  rw [if_neg (by
    rintro (hh | hh | hh | hh | hh)
    · exact absurd (show cMax=[] from hh) (by decide)
    · rw [show variableB ((NTree.mk oBin [62] [e,varT (109 :: n)]).kids.getD 1 noneN)=true from varOk h] at hh; cases hh
    · rw [show pureF 40 [(NTree.mk oBin [62] [e,varT (109 :: n)]).kids.getD 0 noneN]=true from hp] at hh; cases hh
    · rcases hq with hq | hq
      · rw [show numericF 40 ((NTree.mk oBin [62] [e,varT (109 :: n)]).kids.getD 0 noneN)=true from hq] at hh; cases hh.1
      · exact hh.2 hq
    · rw [show sameF 40 ((NTree.mk oExpr [] [.mk oAssign [61] [varT (109 :: n),e]]).kids.getD 0 noneN) (.mk oAssign [61] [(NTree.mk oBin [62] [e,varT (109 :: n)]).kids.getD 1 noneN,(NTree.mk oBin [62] [e,varT (109 :: n)]).kids.getD 0 noneN])=true from hs] at hh; cases hh)]
  rfl
theorem item3 (l:List NTree) (st:FdS) (n:Bytes) (e:NTree) (h:specialB (109 :: n)=false) (hp:pureF 40 [e]=true) (hq:numericF 40 e=true \/ (innerF 40 e).op=oField) (hs:sameF 40 (.mk oAssign [61] [varT (109 :: n),e]) (.mk oAssign [61] [varT (109 :: n),e])=true) :
    itemsF 40 (treeK 3 n e :: l) st=itemsF 40 l (updateF 40 ⟨cMax,varT (109 :: n),[e]⟩ st):=by
  show itemsF 40 (.mk oRule [] [noneN,.mk oBlock [] [.mk oIf [] [.mk oBin [62] [e,varT (109 :: n)],.mk oExpr [] [.mk oAssign [61] [varT (109 :: n),e]]]]] :: l) st=_
  rw [ruleI,blk,stepF,of3 h hp hq hs,if_pos rfl]
  rfl
structure StF (st:FdS) (L:List (Bytes × Bytes)):Prop where
  cl:st.classes=L
  bad:st.bad=false
  asked:∀ a ∈ st.asked,a=sNR \/ a=sNF
theorem StF.ins {st:FdS} {L:List (Bytes × Bytes)} (h:StF st L) {a:Bytes} (ha:a=sNR \/ a=sNF):StF { st with asked:=insB st.asked a } L:=by
  refine ⟨h.cl,h.bad,fun b hb=>?_⟩
  have hb:b ∈ insB st.asked a:=hb
  unfold insB at hb
  split at hb
  · exact h.asked b hb
  · rcases List.mem_append.1 hb with hb | hb
    · exact h.asked b hb
    · rw [List.mem_singleton.1 hb]; exact ha
theorem askE (i:Nat) (st:FdS) {L:List (Bytes × Bytes)} (h:StF st L):StF (askF 40 [eT i] st) L:=by
  unfold eT
  have:i % 5 < 5:=Nat.mod_lt _ (by decide)
  generalize i % 5=j at this
  match j,this with
  | 0,_=>exact (show StF st L from h)
  | 1,_=>exact (show StF { st with asked:=insB st.asked sNR } L from h.ins (.inl rfl))
  | 2,_=>exact (show StF { st with asked:=insB st.asked sNF } L from h.ins (.inr rfl))
  | 3,_=>exact (show StF st L from h)
  | 4,_=>exact (show StF { st with bad:=st.bad || false || false || false } L from ⟨h.cl,by show (st.bad || false || false || false)=false; rw [h.bad]; rfl,h.asked⟩)
end Go.AD.Lx
