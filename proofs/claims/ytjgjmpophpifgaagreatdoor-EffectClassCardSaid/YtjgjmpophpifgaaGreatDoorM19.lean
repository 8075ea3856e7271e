import Derived.Test.YtjgjmpophpifgaaGreatDoorM18
import Derived.Test.YtjgjmpophpifgaaGreatDoorLsR
set_option linter.unusedVariables false
set_option linter.unusedSimpArgs false
set_option maxRecDepth 100000
namespace Go.AD.Lx
open Go.Proofs RowKit
mutual
def okX:NTree->Prop
  | .mk op text kids=>text.length <= 1000000/\kids.length <= 1000000/\okXs kids
def okXs:List NTree->Prop
  | []=>True
  | k :: ks=>okX k/\okXs ks
end
theorem okX_kids {n:NTree} (h:okX n):n.text.length <= 1000000/\n.kids.length <= 1000000/\okXs n.kids:=by cases n; rw [okX] at h; exact h
theorem okXs_iff:∀ {l:List NTree},okXs l ↔ ∀ x ∈ l,okX x
  | []=>by simp [okXs]
  | n :: l=>by rw [okXs,okXs_iff]; simp
theorem okXs_mem {l:List NTree} (h:okXs l) (i:Nat) (hi:i < l.length):okX l[i]:=okXs_iff.1 h _ (List.getElem_mem hi)
section
variable {env:Env} {args:List AV} {σ0 σ τ:AS} {K:AV->AS->Prop} {X:PV->AS->Prop} {L Y M:Objs}
def T_nSpecial:Tr:=fun args σ K _=>∃ n:Bytes,args=[.pv (.str n)]/\n.length <= 1000000/\K (.pv (.bool (specialB n))) σ
theorem T_nSpecial_ok (h1:env 24=strT2 fun s t=>.pv (.bool (Lib.contains s t))) (h:T_nSpecial args σ K X):bodyD PS env an22 Tryz.f22 args σ K X:=by
  obtain ⟨n,rfl,hn,hK⟩:=h
  rw [<- S22_eq env,S22]
  simp (disch:=omega) only [lock_eq,go_sem]
  refine ⟨by simp; omega,by simp; omega,?_⟩
  rw [h1]
  exact ⟨_,_,rfl,by decide,retV_self hK⟩
def T_NodeB (f:NTree->Bool):Tr:=fun args σ K _=>∃ n:NTree,args=[nodeAV n]/\okX n/\∀ σ',σ.sub σ'->K (.pv (.bool (f n))) σ'
theorem nodeB_call {f:FuncId} {g:NTree->Bool} (h:env f=T_NodeB g) {n:NTree} (h1:okX n) (hK:∀ σ',σ.sub σ'->K (.pv (.bool (g n))) σ'):env f [nodeAV n] σ K X:=by
  rw [h]; exact ⟨n,rfl,h1,hK⟩
theorem T_fChanges_ok (h:T_NodeB changesB args σ K X):bodyD PS env an88 Tryz.f88 args σ K X:=by
  obtain ⟨n,rfl,hx,hK⟩:=h
  rw [<- S88_eq env,S88]
  simp only [lock_eq]
  refine box_N ?_
  intro t1 σ1 hS
  have hg:=hS.get (i:=t1) (List.mem_singleton.2 rfl)
  have fin:∀ b:Bool,b=changesB n->retV (.pv (.bool b)) σ1 K:=by rintro _ rfl; exact retV_self (hK _ hS.sub)
  have j5:∀ b:Bool,changesB n=(b || ((n.op == kBuilt) && ((n.text == sSub) || (n.text == sGsub))))->J88_5 env (.addr t1 0) (.pv (.str n.op)) (.pv (.bool b)) σ1 K X:=by
    intro b hb
    unfold J88_5
    simp (disch:=omega) only [lock_eq,T.fa50_1,T.ld9,hg,ldM_cells,Nat.zero_add,List.getElem?_cons_zero,List.getElem?_cons_succ,someEx,bin_seql,cond_bool,guard_false]
    refine iteI (fun g1=>fin _ (by rw [hb,g1]; rfl)) (fun g1=>?_)
    rw [Bool.not_eq_true] at g1
    refine iteI (fun g2=>?_) (fun g2=>fin _ (by
      rw [Bool.not_eq_true] at g2
      rw [hb,g1,show (n.op == kBuilt)=false from g2]; rfl))
    refine iteI (fun g3=>fin _ (by rw [hb,g1,show (n.op == kBuilt)=true from g2,show (n.text == sSub)=true from g3]; rfl)) (fun g3=>fin _ (by
      rw [Bool.not_eq_true] at g3
      rw [hb,g1,show (n.op == kBuilt)=true from g2,show (n.text == sSub)=false from g3]; rfl))
  simp (disch:=omega) only [T.fa50_0,T.ld9,hg,ldM_cells,Nat.zero_add,List.getElem?_cons_zero,List.getElem?_cons_succ,someEx,bin_seql,cond_bool]
  refine iteI (fun g1=>j5 _ (by unfold changesB; rw [show (n.op == oAssign)=true from g1,g1]; rfl)) (fun g1=>?_)
  rw [Bool.not_eq_true] at g1
  refine iteI (fun g2=>j5 _ (by unfold changesB; rw [show (n.op == oAssign)=false from g1,show (n.op == oPre)=true from g2,g2]; rfl)) (fun g2=>?_)
  rw [Bool.not_eq_true] at g2
  exact j5 _ (by unfold changesB; rw [show (n.op == oAssign)=false from g1,show (n.op == oPre)=false from g2]; rfl)
theorem T_fVariable_ok (h1:env 22=T_nSpecial) (h:T_NodeB variableB args σ K X):bodyD PS env an166 Tryz.f166 args σ K X:=by
  obtain ⟨n,rfl,hx,hK⟩:=h
  rw [<- S166_eq env,S166]
  simp only [lock_eq]
  refine box_N ?_
  intro t1 σ1 hS
  have hg:=hS.get (i:=t1) (List.mem_singleton.2 rfl)
  have fin:∀ b:Bool,b=variableB n->retV (.pv (.bool b)) σ1 K:=by rintro _ rfl; exact retV_self (hK _ hS.sub)
  simp (disch:=omega) only [T.fa50_0,T.fa50_1,T.ld9,hg,ldM_cells,Nat.zero_add,List.getElem?_cons_zero,List.getElem?_cons_succ,someEx,bin_seql,guard_true]
  refine iteI (fun g1=>?_) (fun g1=>fin _ (by
    rw [Bool.not_eq_true] at g1
    unfold variableB; rw [show (n.op == oVar)=false from g1]; rfl))
  rw [h1]
  refine ⟨n.text,rfl,(okX_kids hx).1,?_⟩
  simp only [un_not]
  exact fin _ (by unfold variableB; rw [show (n.op == oVar)=true from g1]; rfl)
def T_fNumeric (m:Nat):Tr:=fun args σ K _=>∃ n:NTree,args=[nodeAV n]/\depthN n < m/\okX n/\∀ σ',σ.sub σ'->K (.pv (.bool (numericF m n))) σ'
theorem kidD {l:List NTree} {i:Nat} (h:i < l.length):l.getD i noneN=l[i]:=by simp [List.getD_eq_getElem?_getD,h]
theorem ldK {l:List NTree} {i:Nat} (h:i < l.length) (σ:AS) (K:AV->Prop):loadD PS σ 50 (.elemP (flatN l) (i * 3)) K=K (nodeAV (l.getD i noneN)):=by
  rw [load_elemA T.hT50 T.ag50,T.sz50,flatN_get l i h,kidD h]
  exact propext ⟨fun h=>h.2,fun hh=>⟨by rw [flatN_len]; omega,hh⟩⟩
theorem kidDepth {n:NTree} {i:Nat} (h:i < n.kids.length):depthN (n.kids.getD i noneN) < depthN n:=by
  rw [kidD h,depthN_kids n]
  have:=depthNs_mem h
  omega
theorem kidOk {n:NTree} (hn:okX n) {i:Nat} (h:i < n.kids.length):okX (n.kids.getD i noneN):=by
  rw [kidD h]; exact okXs_mem (okX_kids hn).2.2 i h
theorem num_call {m:Nat} (h:env 169=T_fNumeric m) {k:NTree} (h1:depthN k < m) (h2:okX k) (hK:∀ σ',σ.sub σ'->K (.pv (.bool (numericF m k))) σ'):env 169 [nodeAV k] σ K X:=by
  rw [h]; exact ⟨k,rfl,h1,h2,hK⟩
theorem T_fNumeric_ok {m:Nat} (h1:env 169=T_fNumeric m) (h:T_fNumeric (m + 1) args σ K X):bodyD PS env an169 Tryz.f169 args σ K X:=by
  obtain ⟨n,rfl,hd,hok,hK⟩:=h
  rw [<- S169_eq env,S169]
  simp only [lock_eq]
  refine box_N ?_
  intro t1 σ1 hS
  have hg:=hS.get (i:=t1) (List.mem_singleton.2 rfl)
  have hkl:=(okX_kids hok).2.1
  have fin:∀ (b:Bool) (τ:AS),σ.sub τ->b=numericF (m + 1) n->retV (.pv (.bool b)) τ K:=by rintro _ τ hs rfl; exact retV_self (hK _ hs)
  have hsub:=hS.sub
  have ix:∀ (i:Nat) (h:i < n.kids.length) (K:AV->Prop),indexAddrD PS 23 (.pv (.lst n.kids.length (flatN n.kids))) (.pv (.int .i64 (i:Nat))) K=K (.elemP (flatN n.kids) (i * 3)):=fun i h K=>node_ix h
  have j5:∀ b:Bool,(b=true->n.op=kNum \/ n.op=kEre \/ n.op=oUnary)->(b=false->¬ (n.op=kNum \/ n.op=kEre \/ n.op=oUnary))->J169_5 env (.addr t1 0) (.pv (.str n.op)) (.pv (.bool b)) σ1 K X:=by
    intro b hb1 hb2
    unfold J169_5
    simp (disch:=omega) only [lock_eq,T.fa50_1,T.fa50_2,T.ld9,T.ld23,hg,ldM_cells,Nat.zero_add,List.getElem?_cons_zero,List.getElem?_cons_succ,someEx,bin_seql,bin_sneq,cond_bool,guard_false,guard_true,T.lnl23,bin_eql]
    cases b with
    | true=>exact fin _ _ hsub (by rw [numericF,if_pos (hb1 rfl)])
    | false =>
      have hn:=hb2 rfl
      have e0:∀ {x:Bool},(x=numericF (m + 1) n)=(x=(if n.op=oBin then !(n.text == oCat)
    else if n.op=oVar then (n.text == sNF) || (n.text == sNR) || (n.text == sFNR)
    else if n.op=kBuilt then (n.text == sLength) || (n.text == sInt) || (n.text == sIndex)
    else if n.op=oCond then decide (n.kids.length=3) && (numericF m (n.kids.getD 1 noneN) && numericF m (n.kids.getD 2 noneN))
    else if n.op=oGroup then decide (n.kids.length=1) && numericF m (n.kids.getD 0 noneN)
    else false)):=by intro x; rw [numericF,if_neg hn]
      simp only [Bool.false_eq_true,if_false,beq_iff_eq]
      refine iteI (fun g1=>fin _ _ hsub (by rw [e0,if_pos (show n.op=oBin from g1)]; rfl)) (fun g1=>?_)
      have g1:¬ n.op=oBin:=g1
      refine iteI (fun g2=>?_) (fun g2=>?_)
      · have g2:n.op=oVar:=g2
        refine iteI (fun g3=>fin _ _ hsub (by rw [e0,if_neg g1,if_pos g2,show n.text=sNF from g3]; rfl)) (fun g3=>?_)
        refine iteI (fun g4=>fin _ _ hsub (by rw [e0,if_neg g1,if_pos g2,show n.text=sNR from g4]; rfl)) (fun g4=>fin _ _ hsub ?_)
        rw [e0,if_neg g1,if_pos g2,show (n.text == sNF)=false from beq_eq_false_iff_ne.2 g3,show (n.text == sNR)=false from beq_eq_false_iff_ne.2 g4]; rfl
      have g2:¬ n.op=oVar:=g2
      refine iteI (fun g3=>?_) (fun g3=>?_)
      · have g3:n.op=kBuilt:=g3
        refine iteI (fun g4=>fin _ _ hsub (by rw [e0,if_neg g1,if_neg g2,if_pos g3,show n.text=sLength from g4]; rfl)) (fun g4=>?_)
        refine iteI (fun g5=>fin _ _ hsub (by rw [e0,if_neg g1,if_neg g2,if_pos g3,show n.text=sInt from g5]; rfl)) (fun g5=>fin _ _ hsub ?_)
        rw [e0,if_neg g1,if_neg g2,if_pos g3,show (n.text == sLength)=false from beq_eq_false_iff_ne.2 g4,show (n.text == sInt)=false from beq_eq_false_iff_ne.2 g5]; rfl
      have g3:¬ n.op=kBuilt:=g3
      refine iteI (fun g4=>?_) (fun g4=>?_)
      · have g4:n.op=oCond:=g4
        have e1:∀ {x:Bool},(x=numericF (m + 1) n)=(x=(decide (n.kids.length=3) && (numericF m (n.kids.getD 1 noneN) && numericF m (n.kids.getD 2 noneN)))):=by
          intro x; rw [e0,if_neg g1,if_neg g2,if_neg g3,if_pos g4]
        refine iteI (fun g5=>?_) (fun g5=>fin _ _ hsub ?_)
        · have hl:n.kids.length=3:=by omega
          have i1:1 < n.kids.length:=by omega
          have i2:2 < n.kids.length:=by omega
          have x1:=ix 1 i1
          simp only [show ((1:Nat):Int)=1 from rfl] at x1
          have x2:=ix 2 i2
          simp only [show ((2:Nat):Int)=2 from rfl] at x2
          simp only [x1,ldK i1]
          refine num_call h1 (by have:=kidDepth (n:=n) i1; omega) (kidOk hok i1) (fun σ2 hs2=>?_)
          have hg2:σ2 t1=_:=hs2 _ _ hg
          simp (disch:=omega) only [lock_eq,T.fa50_2,T.ld23,hg2,ldM_cells,Nat.zero_add,List.getElem?_cons_zero,List.getElem?_cons_succ,someEx,guard_true,x2,ldK i2]
          refine iteI (fun g6=>?_) (fun g6=>fin _ _ (AS.sub_trans hsub hs2) ?_)
          · refine num_call h1 (by have:=kidDepth (n:=n) i2; omega) (kidOk hok i2) (fun σ3 hs3=>?_)
            exact fin _ _ (AS.sub_trans hsub (AS.sub_trans hs2 hs3)) (by rw [e1,g6,decide_eq_true hl]; rfl)
          · rw [Bool.not_eq_true] at g6
            rw [e1,g6,decide_eq_true hl]; rfl
        · have hl:¬ n.kids.length=3:=by omega
          rw [e1,decide_eq_false hl]; rfl
      have g4:¬ n.op=oCond:=g4
      refine iteI (fun g5=>?_) (fun g5=>fin _ _ hsub (by rw [e0,if_neg g1,if_neg g2,if_neg g3,if_neg g4,if_neg (show ¬ n.op=oGroup from g5)]))
      have g5:n.op=oGroup:=g5
      have e1:∀ {x:Bool},(x=numericF (m + 1) n)=(x=(decide (n.kids.length=1) && numericF m (n.kids.getD 0 noneN))):=by
        intro x; rw [e0,if_neg g1,if_neg g2,if_neg g3,if_neg g4,if_pos g5]
      refine iteI (fun g6=>?_) (fun g6=>fin _ _ hsub ?_)
      · have hl:n.kids.length=1:=by omega
        have i0:0 < n.kids.length:=by omega
        have x0:=ix 0 i0
        simp only [show ((0:Nat):Int)=0 from rfl] at x0
        simp only [x0,ldK i0]
        refine num_call h1 (by have:=kidDepth (n:=n) i0; omega) (kidOk hok i0) (fun σ2 hs2=>?_)
        exact fin _ _ (AS.sub_trans hsub hs2) (by rw [e1,decide_eq_true hl]; rfl)
      · have hl:¬ n.kids.length=1:=by omega
        rw [e1,decide_eq_false hl]; rfl
  simp (disch:=omega) only [T.fa50_0,T.ld9,hg,ldM_cells,Nat.zero_add,List.getElem?_cons_zero,List.getElem?_cons_succ,someEx,bin_seql,cond_bool]
  refine iteI (fun g1=>j5 _ (fun _=>.inl (by simpa [kNum] using g1)) (fun e=>by rw [g1] at e; cases e)) (fun g1=>?_)
  refine iteI (fun g2=>j5 _ (fun _=>.inr (.inl (by simpa [kEre] using g2))) (fun e=>by rw [g2] at e; cases e)) (fun g2=>?_)
  have n1:¬ n.op=kNum:=by simpa [kNum] using g1
  have n2:¬ n.op=kEre:=by simpa [kEre] using g2
  exact j5 _ (fun e=>.inr (.inr (by simpa [oUnary] using e))) (fun e=>by
    have n3:¬ n.op=oUnary:=by simpa [oUnary] using e
    rintro (h | h | h)
    · exact n1 h
    · exact n2 h
    · exact n3 h)
end
end Go.AD.Lx

set_option linter.unusedVariables false
set_option linter.unusedSimpArgs false
set_option maxRecDepth 100000
namespace Go.AD.Lx
open Go.Proofs RowKit
section
variable {env:Env} {args:List AV} {σ0 σ τ:AS} {K:AV->AS->Prop} {X:PV->AS->Prop} {L Y M:Objs}
def T_fInner (m:Nat):Tr:=fun args σ K _=>∃ n:NTree,args=[nodeAV n]/\depthN n < m/\okX n/\∀ σ',σ.sub σ'->K (nodeAV (innerF m n)) σ'
def boxV (t:Nat) (v:Option TypeId) (n:NTree):Nat × AObj:=(t,.cells [.pv (.str n.op),.pv (.str n.text),.pv (.lst n.kids.length (flatN n.kids))] v)
theorem storeBox {A B:Objs} {t:Nat} {v:Option TypeId} {a b c:AV} {n:NTree} {KS:AS->Prop} (hS:Sep σ0 σ (A ++ (t,.cells [a,b,c] v) :: B)) (hK:∀ σ',Sep σ0 σ' (A ++ boxV t v n :: B)->KS σ'):storeD PS σ 50 (.addr t 0) (nodeAV n) KS:=by
  have hg:σ t=some (.cells [a,b,c] v):=hS.get (by simp)
  rw [storeD]
  simp only [hg]
  refine ⟨T.hT50,by rw [T.sz50]; exact node_len _,node_ok _,by rw [node_len]; exact Nat.le_refl _,?_⟩
  have e1:setAll [a,b,c] 0 (nodeAV n).cells=[.pv (.str n.op),.pv (.str n.text),.pv (.lst n.kids.length (flatN n.kids))]:=by rw [nodeCellsD]; rfl
  rw [e1]
  exact hK _ (Sep.set hS _)
theorem loadBox {t:Nat} {v:Option TypeId} {n:NTree} {K:AV->Prop} (hg:σ t=some (.cells [.pv (.str n.op),.pv (.str n.text),.pv (.lst n.kids.length (flatN n.kids))] v)) (hK:K (nodeAV n)):loadD PS σ 50 (.addr t 0) K:=by
  rw [ldN' (n:=n) (by rw [nodeCells_eq]; exact hg)]; exact hK
theorem T_fInner_ok {m:Nat} (h:T_fInner m args σ K X):bodyD PS env an168 Tryz.f168 args σ K X:=by
  obtain ⟨n,rfl,hd,hok,hK⟩:=h
  rw [<- S168_eq env,S168]
  simp only [lock_eq]
  refine box_N ?_
  intro t1 σ1 hS
  refine alloc_of T.zo50 rfl (fun t2 ht2=>?_)
  have hS:=hS.alloc ht2 (.cells zeroN (some 50))
  refine lp168_1 (fun (a:NTree) _=>depthN a) (fun a τ=>Sep σ τ [(t2,.cells zeroN (some 50)),boxV t1 none a]/\(∃ j,innerF j a=innerF m n/\depthN a < j)/\okX a) n ⟨hS,⟨m,rfl,hd⟩,hok⟩ ?_
  clear hS hok hd
  rintro c τ ⟨hS,⟨j,hj,hd⟩,hok⟩
  have hg:τ t1=some (.cells [.pv (.str c.op),.pv (.str c.text),.pv (.lst c.kids.length (flatN c.kids))] none):=hS.get (by simp [boxV])
  have hkl:=(okX_kids hok).2.1
  obtain ⟨j,rfl⟩:∃ i,j=i + 1:=⟨j - 1,by omega⟩
  rw [innerF] at hj
  unfold L168_1
  simp (disch:=omega) only [lock_eq,T.fa50_0,T.fa50_2,T.ld9,T.ld23,hg,ldM_cells,Nat.zero_add,List.getElem?_cons_zero,List.getElem?_cons_succ,someEx,bin_seql,guard_true,T.lnl23,bin_eql,cond_bool,beq_iff_eq]
  have fin:¬ (c.op=oGroup/\c.kids.length=1)->loadD PS τ 50 (.addr t1 0) (fun t16=>storeD PS τ 50 (.addr t2 0) t16 fun σ5=>loadD PS σ5 50 (.addr t2 0) fun r0=>retV r0 σ5 K):=by
    intro hn
    rw [if_neg hn] at hj
    refine loadBox hg ?_
    refine storeBox (A:=[]) hS (fun σ5 hS5=>?_)
    have hg5:=hS5.get (i:=t2) (o:=.cells [.pv (.str c.op),.pv (.str c.text),.pv (.lst c.kids.length (flatN c.kids))] (some 50)) (by simp [boxV])
    refine loadBox hg5 ?_
    refine retV_self ?_
    rw [<- hj] at hK
    exact hK _ hS5.sub
  refine iteI (fun g1=>?_) (fun g1=>fin (fun h=>g1 h.1))
  refine iteI (fun g2=>?_) (fun g2=>fin (fun h=>g2 (by rw [h.2]; rfl)))
  have hl:c.kids.length=1:=by omega
  have i0:0 < c.kids.length:=by omega
  rw [if_pos ⟨g1,hl⟩] at hj
  unfold J168_2
  have x0:∀ K:AV->Prop,indexAddrD PS 23 (.pv (.lst c.kids.length (flatN c.kids))) (.pv (.int .i64 0)) K=K (.elemP (flatN c.kids) (0 * 3)):=fun K=>node_ix (i:=0) i0
  simp (disch:=omega) only [lock_eq,T.fa50_2,T.ld23,hg,ldM_cells,Nat.zero_add,List.getElem?_cons_zero,List.getElem?_cons_succ,someEx,x0,ldK i0]
  refine storeBox (A:=[_]) (B:=[]) hS (fun σ4 hS4=>?_)
  have:=kidDepth (n:=c) i0
  exact back _ rfl (by omega) ⟨hS4,⟨j,hj,by omega⟩,kidOk hok i0⟩
theorem F_fInner (hm:HM) (m:Nat):SoundF PS 168 (T_fInner m):=body_sound hm (env0_ok PS) an168 Tryz.func168 Tryz.call168 S168_ok (fun args σ K X h=>T_fInner_ok h)
def T_fPure (m:Nat):Tr:=fun args σ K _=>∃ l:List NTree,args=[.pv (.lst l.length (flatN l))]/\depthNs l < m/\l.length <= 1000000/\okXs l/\∀ σ',σ.sub σ'->K (.pv (.bool (pureF m l))) σ'
def impB (m:Nat) (n:NTree):Bool:=changesB n || !pureF m n.kids
def T_fPure1 (m:Nat):Tr:=fun args σ K _=>∃ n:NTree,args=[nodeAV n]/\depthN n <= m/\okX n/\∀ σ',σ.sub σ'->K (.pv (.bool (impB m n))) σ'
theorem changes_call (h:env 88=T_NodeB changesB) {n:NTree} (hx:okX n) (hK:∀ σ',σ.sub σ'->K (.pv (.bool (changesB n))) σ'):env 88 [nodeAV n] σ K X:=nodeB_call h hx hK
theorem T_fPure1_ok {m:Nat} (h1:env 88=T_NodeB changesB) (h2:env 167=T_fPure m) (h:T_fPure1 m args σ K X):bodyD PS env an186 Tryz.f186 args σ K X:=by
  obtain ⟨n,rfl,hd,hok,hK⟩:=h
  rw [<- S186_eq env,S186]
  simp only [lock_eq]
  refine box_N ?_
  intro t1 σ1 hS
  have hg:=hS.get (i:=t1) (List.mem_singleton.2 rfl)
  refine loadBox hg ?_
  refine changes_call h1 hok (fun σ2 hs2=>?_)
  have hg2:σ2 t1=_:=hs2 _ _ hg
  simp (disch:=omega) only [T.fa50_2,T.ld23,hg2,ldM_cells,Nat.zero_add,List.getElem?_cons_zero,List.getElem?_cons_succ,someEx,guard_false]
  refine iteI (fun g=>?_) (fun g=>?_)
  · refine retV_self ?_
    have:=hK _ (AS.sub_trans hS.sub hs2)
    unfold impB at this
    rw [g] at this
    exact this
  · rw [h2]
    obtain ⟨_,hl,hx⟩:=okX_kids hok
    refine ⟨n.kids,rfl,by have:=depthN_kids n; omega,hl,hx,fun σ3 hs3=>?_⟩
    simp only [un_not]
    refine retV_self ?_
    have:=hK _ (AS.sub_trans hS.sub (AS.sub_trans hs2 hs3))
    unfold impB at this
    rw [Bool.not_eq_true] at g
    rw [g] at this
    exact this
def idxS (p:NTree->Bool) (l:List NTree):Int:=match l.findIdx? p with | some i=>i | none=>-1
def T_IndexFunc (m:Nat):Tr:=fun args σ K _=>∃ l:List NTree,args=[.pv (.lst l.length (flatN l)),.pv (.func 186)]/\depthNs l <= m/\l.length <= 1000000/\okXs l/\∀ σ',σ.sub σ'->K (.pv (.int .i64 (idxS (impB m) l))) σ'
theorem T_IndexFunc_ok {m:Nat} (h1:env 186=T_fPure1 m) (h:T_IndexFunc m args σ K X):bodyD PS env an141 Tryz.f141 args σ K X:=by
  obtain ⟨l,rfl,hd,hl,hok,hK⟩:=h
  rw [<- S141_eq env,S141]
  simp only [lock_eq,T.lnl23]
  refine lp141_2 (fun (i:Nat) _=>l.length - i) (fun i τ=>σ.sub τ/\i <= l.length/\∀ j (hj:j < l.length),j < i->impB m l[j]=false) (fun i=>.pv (.int .i64 (i:Nat))) 0 ⟨sub_refl _,Nat.zero_le _,fun j hj h=>absurd h (Nat.not_lt_zero _)⟩ ?_
  rintro i τ ⟨hs,hi,hall⟩
  unfold L141_2
  simp (disch:=omega) only [lock_eq,go_sem]
  refine iteI (fun g=>?_) (fun g=>?_)
  · simp only [node_ix g,ldK g]
    have hkd:=kidD g
    rw [hkd]
    show env 186 [nodeAV l[i]] τ _ _
    rw [h1]
    refine ⟨l[i],rfl,by have:=depthNs_mem g; omega,okXs_mem hok i g,fun σ2 hs2=>?_⟩
    simp only [cond_bool]
    refine iteI (fun g2=>?_) (fun g2=>?_)
    · refine retV_self ?_
      have e:idxS (impB m) l=(i:Int):=by
        unfold idxS
        have:l.findIdx? (impB m)=some i:=List.findIdx?_eq_some_iff_getElem.2 ⟨g,g2,fun j hj=>by have:=hall j (by omega) hj; simp [this]⟩
        rw [this]
      rw [<- e]
      exact hK _ (AS.sub_trans hs hs2)
    · rw [Bool.not_eq_true] at g2
      refine back (i + 1) rfl (by omega) ⟨AS.sub_trans hs hs2,g,fun j hj hji=>?_⟩
      rcases Nat.lt_or_ge j i with h | h
      · exact hall j hj h
      · have:j=i:=by omega
        subst this; exact g2
  · refine retV_self ?_
    have e:idxS (impB m) l=-1:=by
      unfold idxS
      have:l.findIdx? (impB m)=none:=List.findIdx?_eq_none_iff.2 (fun x hx=>by
        obtain ⟨j,hj,rfl⟩:=List.getElem_of_mem hx
        exact hall j hj (by omega))
      rw [this]
    rw [<- e]
    exact hK _ hs
def T_ContainsFunc (m:Nat):Tr:=fun args σ K _=>∃ l:List NTree,args=[.pv (.lst l.length (flatN l)),.pv (.func 186)]/\depthNs l <= m/\l.length <= 1000000/\okXs l/\∀ σ',σ.sub σ'->K (.pv (.bool (l.any (impB m)))) σ'
theorem T_ContainsFunc_ok {m:Nat} (h1:env 141=T_IndexFunc m) (h:T_ContainsFunc m args σ K X):bodyD PS env an98 Tryz.f98 args σ K X:=by
  obtain ⟨l,rfl,hd,hl,hok,hK⟩:=h
  rw [<- S98_eq env,S98,h1]
  refine ⟨l,rfl,hd,hl,hok,fun σ1 hs=>?_⟩
  simp (disch:=omega) only [lock_eq,go_sem]
  refine retV_self ?_
  have e:l.any (impB m)=decide (idxS (impB m) l ≥ 0):=by
    unfold idxS
    cases hf:l.findIdx? (impB m) with
    | some i =>
      obtain ⟨hi,hp,_⟩:=List.findIdx?_eq_some_iff_getElem.1 hf
      rw [List.any_eq_true.2 ⟨l[i],List.getElem_mem hi,hp⟩]
      simp
    | none =>
      have:=List.findIdx?_eq_none_iff.1 hf
      rw [List.any_eq_false.2 (fun x hx=>by have:=this x hx; simp [this])]
      rfl
  rw [<- e]
  exact hK _ hs
theorem T_fPure_ok {m:Nat} (h1:env 98=T_ContainsFunc m) (h:T_fPure (m + 1) args σ K X):bodyD PS env an167 Tryz.f167 args σ K X:=by
  obtain ⟨l,rfl,hd,hl,hok,hK⟩:=h
  rw [<- S167_eq env,S167,h1]
  refine ⟨l,rfl,by omega,hl,hok,fun σ1 hs=>?_⟩
  simp only [un_not]
  refine retV_self ?_
  have e:pureF (m + 1) l=!(l.any (impB m)):=by
    rw [pureF]
    induction l with
    | nil=>rfl
    | cons n l ih =>
      rw [List.all_cons,List.any_cons]
      unfold impB
      cases changesB n <;> cases pureF m n.kids <;> simp [List.all_eq_not_any_not,impB]
  rw [<- e]
  exact hK _ hs
theorem F_fPure (hm:HM):∀ m:Nat,SoundF PS 167 (T_fPure m)
  | 0=>by
    rintro w0 hS ρ σ w args us K X H hr ⟨l,_,h,_⟩
    exact absurd h (Nat.not_lt_zero _)
  | m + 1 =>
    have f0:=F_fPure hm m
    have fc:SoundF PS 88 (T_NodeB changesB):=body_sound hm (env0_ok PS) an88 Tryz.func88 Tryz.call88 S88_ok (fun args σ K X h=>T_fChanges_ok h)
    have f1:SoundF PS 186 (T_fPure1 m):=body_sound hm (EnvOk.add (EnvOk.add (env0_ok PS) fc) f0) an186 Tryz.func186 Tryz.call186 S186_ok (fun args σ K X h=>T_fPure1_ok rfl rfl h)
    have f2:SoundF PS 141 (T_IndexFunc m):=body_sound hm (EnvOk.add (env0_ok PS) f1) an141 Tryz.func141 Tryz.call141 S141_ok (fun args σ K X h=>T_IndexFunc_ok rfl h)
    have f3:SoundF PS 98 (T_ContainsFunc m):=body_sound hm (EnvOk.add (env0_ok PS) f2) an98 Tryz.func98 Tryz.call98 S98_ok (fun args σ K X h=>T_ContainsFunc_ok rfl h)
    body_sound hm (EnvOk.add (env0_ok PS) f3) an167 Tryz.func167 Tryz.call167 S167_ok (fun args σ K X h=>T_fPure_ok rfl h)
end
end Go.AD.Lx

set_option linter.unusedVariables false
set_option linter.unusedSimpArgs false
set_option maxRecDepth 100000
namespace Go.AD.Lx
open Go.Proofs RowKit
theorem all2_true {p:NTree->NTree->Bool}:∀ {a b:List NTree},(∀ (j:Nat) (h1:j < a.length) (h2:j < b.length),p a[j] b[j]=true)->all2 p a b=true
  | [],_,_=>by rw [all2]; intros; simp_all
  | _ :: _,[],_=>by rw [all2]; intros; simp_all
  | x :: a,y :: b,h=>by
    rw [all2,show p x y=true from h 0 (by simp) (by simp),all2_true (fun j h1 h2=>h (j + 1) (by simpa using h1) (by simpa using h2))]
    rfl
theorem all2_false {p:NTree->NTree->Bool}:∀ {a b:List NTree} (j:Nat) (h1:j < a.length) (h2:j < b.length),p a[j] b[j]=false->all2 p a b=false
  | x :: a,y :: b,0,_,_,h=>by rw [all2,show p x y=false from h]; rfl
  | x :: a,y :: b,j + 1,h1,h2,h=>by
    rw [all2,all2_false j (by simpa using h1) (by simpa using h2) h,Bool.and_false]
section
variable {env:Env} {args:List AV} {σ0 σ τ:AS} {K:AV->AS->Prop} {X:PV->AS->Prop} {L Y M:Objs}
theorem toPV_ok {v:AV} {q:PV} (h:toPV v=some q):v.cells=[v]/\v.cellOk=true:=by
  cases v with
  | agg cs=>cases h
  | undef=>cases h
  | tuple vs=>cases h
  | _=>exact ⟨rfl,rfl⟩
def T_fSame (m:Nat):Tr:=fun args σ K _=>∃ (a b:NTree) (tk:AV),args=[nodeAV a,.agg [.pv (.str b.op),.pv (.str b.text),tk]]/\toPV tk=some (.lst b.kids.length (flatN b.kids))/\depthN a < m/\depthN b < m/\okX a/\okX b/\∀ σ',σ.sub σ'->K (.pv (.bool (sameF m a b))) σ'
def T_EqualFunc (m:Nat):Tr:=fun args σ K _=>∃ a b:List NTree,args=[.pv (.lst a.length (flatN a)),.pv (.lst b.length (flatN b)),.pv (.func 170)]/\depthNs a < m/\depthNs b < m/\a.length <= 1000000/\b.length <= 1000000/\okXs a/\okXs b/\∀ σ',σ.sub σ'->K (.pv (.bool ((a.length == b.length) && all2 (sameF m) a b))) σ'
theorem T_EqualFunc_ok {m:Nat} (h1:env 170=T_fSame m) (h:T_EqualFunc m args σ K X):bodyD PS env an187 Tryz.f187 args σ K X:=by
  obtain ⟨a,b,rfl,da,db,la,lb,oa,ob,hK⟩:=h
  rw [<- S187_eq env,S187]
  simp (disch:=omega) only [lock_eq,T.lnl23,bin_neq,cond_bool]
  refine iteI (fun g=>?_) (fun g=>?_)
  · refine retV_self ?_
    have hne:¬ a.length=b.length:=by
      intro e
      rw [e] at g
      simp at g
    have:=hK _ (sub_refl _)
    rw [show (a.length == b.length)=false from beq_eq_false_iff_ne.2 hne] at this
    exact this
  have hlen:a.length=b.length:=by
    have:¬ ((a.length:Int) ≠ (b.length:Int)):=by simpa using g
    omega
  rw [show (a.length == b.length)=true from beq_iff_eq.2 hlen,Bool.true_and] at hK
  refine lp187_4 (fun (i:Nat) _=>a.length - i) (fun i τ=>σ.sub τ/\i <= a.length/\∀ (j:Nat) (h1:j < a.length) (h2:j < b.length),j < i->sameF m a[j] b[j]=true) (fun i=>.pv (.int .i64 (i:Nat))) 0 ⟨sub_refl _,Nat.zero_le _,fun j _ _ h=>absurd h (Nat.not_lt_zero _)⟩ ?_
  rintro i τ ⟨hs,hi,hall⟩
  unfold L187_4
  simp (disch:=omega) only [lock_eq,go_sem]
  refine iteI (fun g2=>?_) (fun g2=>?_)
  · have hib:i < b.length:=by omega
    simp only [node_ix g2,ldK g2,kidD g2]
    refine alloc_of T.zo50 rfl (fun t8 ht8=>?_)
    have hS:=(Sep.start τ).alloc ht8 (.cells zeroN (some 50))
    refine storeBox (A:=[]) (B:=[]) hS (fun σ3 hS=>?_)
    simp only [node_ix hib,ldK hib,kidD hib]
    refine alloc_of T.zo50 rfl (fun t9 ht9=>?_)
    have hS:=hS.alloc ht9 (.cells zeroN (some 50))
    refine storeBox (A:=[]) (B:=[_]) hS (fun σ5 hS=>?_)
    refine loadBox (v:=some 50) (n:=a[i]) (hS.get (by simp [boxV])) ?_
    refine loadBox (v:=some 50) (n:=b[i]) (hS.get (by simp [boxV])) ?_
    show env 170 [nodeAV a[i],nodeAV b[i]] σ5 _ _
    rw [h1]
    refine ⟨a[i],b[i],_,by rw [nodeAV_eq b[i]],rfl,by have:=depthNs_mem g2; omega,by have:=depthNs_mem hib; omega,okXs_mem oa i g2,okXs_mem ob i hib,fun σ6 hs6=>?_⟩
    simp only [un_not,cond_bool]
    have hsub:=AS.sub_trans hs (AS.sub_trans hS.sub hs6)
    refine iteI (fun g3=>?_) (fun g3=>?_)
    · refine retV_self ?_
      have hf:sameF m a[i] b[i]=false:=by simpa using g3
      have:=hK _ hsub
      rw [all2_false i g2 hib hf] at this
      exact this
    · have ht:sameF m a[i] b[i]=true:=by simpa using g3
      refine back (i + 1) rfl (by omega) ⟨hsub,g2,fun j h1 h2 hj=>?_⟩
      rcases Nat.lt_or_ge j i with h | h
      · exact hall j h1 h2 h
      · have:j=i:=by omega
        subst this; exact ht
  · refine retV_self ?_
    have:=hK _ hs
    rw [all2_true (fun j h1 h2=>hall j h1 h2 (by omega))] at this
    exact this
theorem T_fSame_ok {m:Nat} (h1:env 187=Tr.wk (T_EqualFunc m)) (h:T_fSame (m + 1) args σ K X):bodyD PS env an170 Tryz.f170 args σ K X:=by
  obtain ⟨a,b,tk,rfl,htk,da,db,oa,ob,hK⟩:=h
  rw [<- S170_eq env,S170]
  simp only [lock_eq]
  refine box_N ?_
  intro t2 σ1 hS
  refine ⟨by show (true && (true && (tk.cellOk && true)))=true; rw [(toPV_ok htk).2]; rfl,fun t3 ht3=>?_⟩
  have hS:Sep σ (σ1.set t3 (.cells (AV.agg [.pv (.str b.op),.pv (.str b.text),tk]).cells none)) [(t3,.cells [.pv (.str b.op),.pv (.str b.text),tk] none),boxV t2 none a]:=hS.alloc ht3 _
  obtain ⟨_,la,xa⟩:=okX_kids oa
  obtain ⟨_,lb,xb⟩:=okX_kids ob
  generalize (σ1.set t3 (.cells (AV.agg [.pv (.str b.op),.pv (.str b.text),tk]).cells none))=σ2 at hS ⊢
  have hg2':σ2 t2=some (.cells [.pv (.str a.op),.pv (.str a.text),.pv (.lst a.kids.length (flatN a.kids))] none):=hS.get (by simp [boxV])
  have hg3':σ2 t3=some (.cells [.pv (.str b.op),.pv (.str b.text),tk] none):=hS.get (by simp)
  simp (disch:=omega) only [T.fa50_0,T.fa50_1,T.fa50_2,T.ld9,T.ld23,hg2',hg3',ldM_cells,Nat.zero_add,List.getElem?_cons_zero,List.getElem?_cons_succ,someEx,bin_seql,guard_true]
  have e0:sameF (m + 1) a b=((a.op == b.op) && (a.text == b.text) && (a.kids.length == b.kids.length) && all2 (sameF m) a.kids b.kids):=rfl
  refine iteI (fun g1=>?_) (fun g1=>?_)
  · refine iteI (fun g2=>?_) (fun g2=>?_)
    · rw [h1]
      refine ⟨[.pv (.lst a.kids.length (flatN a.kids)),.pv (.lst b.kids.length (flatN b.kids)),.pv (.func 170)],⟨.inl rfl,.inr ⟨_,htk,rfl⟩,.inl rfl,trivial⟩,a.kids,b.kids,rfl,by have:=depthN_kids a; omega,by have:=depthN_kids b; omega,la,lb,xa,xb,fun σ3 hs3=>?_⟩
      refine retV_self ?_
      have:=hK _ (AS.sub_trans hS.sub hs3)
      rw [e0,g1,g2,Bool.true_and,Bool.true_and] at this
      exact this
    · refine retV_self ?_
      have:=hK _ hS.sub
      rw [Bool.not_eq_true] at g2
      rw [e0,g1,g2] at this
      exact this
  · refine retV_self ?_
    have:=hK _ hS.sub
    rw [Bool.not_eq_true] at g1
    rw [e0,g1] at this
    exact this
theorem F_fSame (hm:HM):∀ m:Nat,SoundF PS 170 (T_fSame m)
  | 0=>by
    rintro w0 hS ρ σ w args us K X H hr ⟨a,b,_,_,_,h,_⟩
    exact absurd h (Nat.not_lt_zero _)
  | m + 1 =>
    have f0:=F_fSame hm m
    have f1:SoundF PS 187 (T_EqualFunc m):=body_sound hm (EnvOk.add (env0_ok PS) f0) an187 Tryz.func187 Tryz.call187 S187_ok (fun args σ K X h=>T_EqualFunc_ok rfl h)
    body_sound hm (EnvOk.add (env0_ok PS) f1.wk) an170 Tryz.func170 Tryz.call170 S170_ok (fun args σ K X h=>T_fSame_ok rfl h)
end
end Go.AD.Lx
