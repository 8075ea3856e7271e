import Derived.Test.YtjgjmpophpifgaaGreatDoorLsP
import Derived.Test.YtjgjmpophpifgaaGreatDoorG10
import Derived.Test.YtjgjmpophpifgaaGreatDoorG11
set_option linter.unusedVariables false
set_option linter.unusedSimpArgs false
set_option maxRecDepth 100000
set_option maxHeartbeats 1000000
namespace Go.AD.Lx
open Go.Proofs RowKit
section
variable {env:Env} {args:List AV} {σ0 σ τ:AS} {K:AV->AS->Prop} {X:PV->AS->Prop} {l:Nat} {ts:List Tok} {L Y:Objs} {r:Rec}
def T_N (f:Ps NTree):Tr:=fun args σ K X=>∃ (σ0:AS) (l:Nat) (ts:List Tok) (Y:Objs),args=[.addr l 0]/\PsAt σ0 σ l ts Y/\okR (f ts) (fun a r=>∀ σ',PsAt σ0 σ' l r Y->K (nodeAV a) σ') (∀ σ',σ0.sub σ'->X wrongV σ')
def T_NB (f:Ps (NTree × Bool)):Tr:=fun args σ K X=>∃ (σ0:AS) (l:Nat) (ts:List Tok) (Y:Objs),args=[.addr l 0]/\PsAt σ0 σ l ts Y/\okR (f ts) (fun a r=>∀ σ',PsAt σ0 σ' l r Y->K (.tuple [nodeAV a.1,.pv (.bool a.2)]) σ') (∀ σ',σ0.sub σ'->X wrongV σ')
def rowL (a:List NTree):AV:=.pv (.lst a.length (flatN a))
def T_L (f:Ps (List NTree)):Tr:=fun args σ K X=>∃ (σ0:AS) (l:Nat) (ts:List Tok) (Y:Objs),args=[.addr l 0]/\PsAt σ0 σ l ts Y/\okR (f ts) (fun a r=>∀ σ',PsAt σ0 σ' l r Y->K (rowL a) σ') (∀ σ',σ0.sub σ'->X wrongV σ')
def T_LP (f:Bool->Ps (List NTree)):Tr:=fun args σ K X=>∃ (σ0:AS) (l:Nat) (ts:List Tok) (Y:Objs) (pr:Bool),args=[.addr l 0,.pv (.bool pr)]/\PsAt σ0 σ l ts Y/\okR (f pr ts) (fun a r=>∀ σ',PsAt σ0 σ' l r Y->K (rowL a) σ') (∀ σ',σ0.sub σ'->X wrongV σ')
def optV:Option NTree->AV
  | none=>.tuple [.agg zeroN,.pv (.bool false)]
  | some n=>.tuple [nodeAV n,.pv (.bool true)]
def T_O (f:Ps (Option NTree)):Tr:=fun args σ K X=>∃ (σ0:AS) (l:Nat) (ts:List Tok) (Y:Objs),args=[.addr l 0]/\PsAt σ0 σ l ts Y/\okR (f ts) (fun a r=>∀ σ',PsAt σ0 σ' l r Y->K (optV a) σ') (∀ σ',σ0.sub σ'->X wrongV σ')
def T_E (f:Nat->Bool->Ps NTree):Tr:=fun args σ K X=>∃ (σ0:AS) (l:Nat) (ts:List Tok) (Y:Objs) (least:Nat) (pr:Bool),args=[.addr l 0,.pv (.int .i64 (least:Nat)),.pv (.bool pr)]/\least <= 100/\PsAt σ0 σ l ts Y/\okR (f least pr ts) (fun a r=>∀ σ',PsAt σ0 σ' l r Y->K (nodeAV a) σ') (∀ σ',σ0.sub σ'->X wrongV σ')
theorem callN {f:Ps NTree} {n:Nat} (h:env n=T_N f) (hP:PsAt σ0 σ l ts Y) (hK:okR (f ts) (fun a r=>∀ σ',PsAt σ0 σ' l r Y->K (nodeAV a) σ') (∀ σ',σ0.sub σ'->X wrongV σ')):env n [.addr l 0] σ K X:=by
  rw [h]; exact ⟨σ0,l,ts,Y,rfl,hP,hK⟩
theorem callNB {f:Ps (NTree × Bool)} {n:Nat} (h:env n=T_NB f) (hP:PsAt σ0 σ l ts Y) (hK:okR (f ts) (fun a r=>∀ σ',PsAt σ0 σ' l r Y->K (.tuple [nodeAV a.1,.pv (.bool a.2)]) σ') (∀ σ',σ0.sub σ'->X wrongV σ')):env n [.addr l 0] σ K X:=by
  rw [h]; exact ⟨σ0,l,ts,Y,rfl,hP,hK⟩
theorem callL {f:Ps (List NTree)} {n:Nat} (h:env n=T_L f) (hP:PsAt σ0 σ l ts Y) (hK:okR (f ts) (fun a r=>∀ σ',PsAt σ0 σ' l r Y->K (rowL a) σ') (∀ σ',σ0.sub σ'->X wrongV σ')):env n [.addr l 0] σ K X:=by
  rw [h]; exact ⟨σ0,l,ts,Y,rfl,hP,hK⟩
theorem callLP {f:Bool->Ps (List NTree)} {n:Nat} (h:env n=T_LP f) {pr:Bool} (hP:PsAt σ0 σ l ts Y) (hK:okR (f pr ts) (fun a r=>∀ σ',PsAt σ0 σ' l r Y->K (rowL a) σ') (∀ σ',σ0.sub σ'->X wrongV σ')):env n [.addr l 0,.pv (.bool pr)] σ K X:=by
  rw [h]; exact ⟨σ0,l,ts,Y,pr,rfl,hP,hK⟩
theorem callO {f:Ps (Option NTree)} {n:Nat} (h:env n=T_O f) (hP:PsAt σ0 σ l ts Y) (hK:okR (f ts) (fun a r=>∀ σ',PsAt σ0 σ' l r Y->K (optV a) σ') (∀ σ',σ0.sub σ'->X wrongV σ')):env n [.addr l 0] σ K X:=by
  rw [h]; exact ⟨σ0,l,ts,Y,rfl,hP,hK⟩
theorem callE {f:Nat->Bool->Ps NTree} {n:Nat} (h:env n=T_E f) {pr:Bool} (k:Nat) (hk:k <= 100) (hP:PsAt σ0 σ l ts Y) (hK:okR (f k pr ts) (fun a r=>∀ σ',PsAt σ0 σ' l r Y->K (nodeAV a) σ') (∀ σ',σ0.sub σ'->X wrongV σ')):env n [.addr l 0,.pv (.int .i64 (k:Nat)),.pv (.bool pr)] σ K X:=by
  rw [h]; exact ⟨σ0,l,ts,Y,k,pr,rfl,hk,hP,hK⟩
theorem callE1 {f:Nat->Bool->Ps NTree} {n:Nat} (h:env n=T_E f) {pr:Bool} (hP:PsAt σ0 σ l ts Y) (hK:okR (f 1 pr ts) (fun a r=>∀ σ',PsAt σ0 σ' l r Y->K (nodeAV a) σ') (∀ σ',σ0.sub σ'->X wrongV σ')):env n [.addr l 0,.pv (.int .i64 1),.pv (.bool pr)] σ K X:=callE h 1 (by decide) hP hK
theorem callE8 {f:Nat->Bool->Ps NTree} {n:Nat} (h:env n=T_E f) {pr:Bool} (hP:PsAt σ0 σ l ts Y) (hK:okR (f 8 pr ts) (fun a r=>∀ σ',PsAt σ0 σ' l r Y->K (nodeAV a) σ') (∀ σ',σ0.sub σ'->X wrongV σ')):env n [.addr l 0,.pv (.int .i64 8),.pv (.bool pr)] σ K X:=callE h 8 (by decide) hP hK
theorem callE9 {f:Nat->Bool->Ps NTree} {n:Nat} (h:env n=T_E f) {pr:Bool} (hP:PsAt σ0 σ l ts Y) (hK:okR (f 9 pr ts) (fun a r=>∀ σ',PsAt σ0 σ' l r Y->K (nodeAV a) σ') (∀ σ',σ0.sub σ'->X wrongV σ')):env n [.addr l 0,.pv (.int .i64 9),.pv (.bool pr)] σ K X:=callE h 9 (by decide) hP hK
structure PE2 (env:Env):Prop extends PE1 env where
  take:env 80=T_yTake
  need:env 126=T_yNeed
  kind:env 128=T_yKind
  nls:env 85=T_yNls
  ends:env 36=T_yEnds
  node:env 82=T_yNode
  none':env 79=T_yNone
  place:env 131=T_yPlace
  must:env 35=T_yMust
  level:env 130=T_yLevel
  starts:env 182=T_yStarts
theorem yplace_call (E:PE2 env) {n:NTree} (hK:K (.pv (.bool (placeB n))) σ):env 131 [nodeAV n] σ K X:=by
  rw [E.place]; exact ⟨n,rfl,hK⟩
theorem ynone_call (E:PE2 env) (hK:K (nodeAV noneN) σ):env 79 [] σ K X:=by
  rw [E.none']; exact ⟨rfl,hK⟩
theorem ymust_call (E:PE2 env) {b:Bool} (h1:b=true->K (.tuple []) σ) (h2:b=false->X wrongV σ):env 35 [.pv (.bool b)] σ K X:=by
  rw [E.must]; exact ⟨b,rfl,h1,h2⟩
theorem ynode0 (E:PE2 env) {op text:Bytes} (hK:K (nodeAV (.mk op text [])) σ):env 82 [.pv (.str op),.pv (.str text),.nilS] σ K X:=ynode_call E.node nil_row hK
theorem ynode1 (E:PE2 env) {op text:Bytes} {a:NTree} (hK:K (nodeAV (.mk op text [a])) σ):env 82 [.pv (.str op),.pv (.str text),.full 1 (flatN [a])] σ K X:=ynode_call (kids:=[a]) E.node rfl hK
theorem ynode2 (E:PE2 env) {op text:Bytes} {a b:NTree} (hK:K (nodeAV (.mk op text [a,b])) σ):env 82 [.pv (.str op),.pv (.str text),.full 2 (flatN [a,b])] σ K X:=ynode_call (kids:=[a,b]) E.node rfl hK
theorem ynode3 (E:PE2 env) {op text:Bytes} {a b c:NTree} (hK:K (nodeAV (.mk op text [a,b,c])) σ):env 82 [.pv (.str op),.pv (.str text),.full 3 (flatN [a,b,c])] σ K X:=ynode_call (kids:=[a,b,c]) E.node rfl hK
theorem ynode4 (E:PE2 env) {op text:Bytes} {a b c d:NTree} (hK:K (nodeAV (.mk op text [a,b,c,d])) σ):env 82 [.pv (.str op),.pv (.str text),.full 4 (flatN [a,b,c,d])] σ K X:=ynode_call (kids:=[a,b,c,d]) E.node rfl hK
theorem ynodeL (E:PE2 env) {op text:Bytes} {a:List NTree} (hK:K (nodeAV (.mk op text a)) σ):env 82 [.pv (.str op),.pv (.str text),rowL a] σ K X:=ynode_call (kids:=a) E.node rfl hK
theorem zeroN_go {K:AV->Prop}:buildD PS 50 [] K=K (.agg zeroN):=by
  simp [buildD,buildFill,go_sem,T.zo50,zeroN]
theorem sign_ix {ss:List Bytes} {i:Nat} (hi:i < ss.length) {K:AV->Prop} (hK:K (.pv (.str (ss.getD i [])))):indexAddrD PS 26 (.full ss.length (ss.map .str)) (.pv (.int .i64 (i:Nat))) fun a=>loadD PS σ 9 a K:=by
  refine ix_of (by rw [T.el26]; rfl) (n:=ss.length) (cs:=ss.map .str) rfl (by rw [T.el26]; exact T.iS9) (by rw [T.el26]; simp [T.sz9]) (by rw [T.el26]; simp [T.sz9]) (by omega) (by omega) ?_
  have e1:((i:Nat):Int).toNat * szOf PS ((elOf PS 26).getD 0)=i:=by rw [T.el26]; simp [T.sz9]
  rw [e1]
  have hgi:(ss.map PV.str)[i]?=some (.str (ss.getD i [])):=by
    rw [List.getElem?_map,List.getElem?_eq_getElem hi,List.getD_eq_getElem?_getD,List.getElem?_eq_getElem hi]; rfl
  simp only [T.le9,hgi,someEx]
  exact hK
theorem sign_step {ss:List Bytes} {i:Nat} (hi:i < ss.length):signS (ss.drop i) ts=if atS 0 ts=opT (ss.getD i []) then some (ss.getD i []) else signS (ss.drop (i + 1)) ts:=by
  rw [drop_consD (d:=[]) hi,signS]
theorem sign_end {ss:List Bytes} {i:Nat} (hi:¬ i < ss.length):signS (ss.drop i) ts=none:=by
  rw [List.drop_eq_nil_of_le (by omega)]; rfl
def T_yStepped:Tr:=fun args σ K _=>∃ (σ0:AS) (l:Nat) (ts:List Tok) (L:Objs),args=[.addr l 0]/\PsAt σ0 σ l ts L/\(∀ s,steppedS ts=some s->∀ σ',PsAt σ0 σ' l (ts.drop 1) L->K (.tuple [.pv (.str s),.pv (.bool true)]) σ')/\(steppedS ts=none->∀ σ',PsAt σ0 σ' l ts L->K (.tuple [.pv (.str []),.pv (.bool false)]) σ')
theorem T_yStepped_ok (E:PE2 env) (h:T_yStepped args σ K X):bodyD PS env an196 Tryz.f196 args σ K X:=by
  obtain ⟨σ0,l,ts,L,rfl,hP,h1,h2⟩:=h
  rw [<- S196_eq env,S196]
  simp only [lock_eq,rowS2]
  rw [T.lnf26]
  have hs:steppedS ts=signS [[43,43],[45,45]] ts:=rfl
  rw [hs] at h1 h2
  refine lp196_2 (fun (i:Nat) _=>2 - i) (fun i τ=>PsAt σ0 τ l ts L/\i <= 2/\signS [[43,43],[45,45]] ts=signS (([[43,43],[45,45]]:List Bytes).drop i) ts) (fun i=>.pv (.int .i64 ((i:Nat):Int))) 0 ⟨hP,by decide,rfl⟩ ?_
  rintro i τ ⟨hP,hi,hq⟩
  unfold L196_2
  simp (disch:=omega) only [lock_eq,go_sem]
  refine iteI (fun g1=>?_) (fun g1=>?_)
  · refine sign_ix (ss:=[[43,43],[45,45]]) g1 ?_
    rw [sign_step (ss:=[[43,43],[45,45]]) g1] at hq
    generalize ([[43,43],[45,45]]:List Bytes).getD i []=s at hq ⊢
    refine op_call E.toPE0 ?_
    refine ytake_call E.take hP (opT_ne _) (fun g σ2 hP=>?_) (fun g σ2 hP=>?_)
    · rw [if_pos g] at hq
      simp only [cond_bool,if_true]
      exact retV_self (h1 s hq σ2 hP)
    · rw [if_neg g] at hq
      simp (disch:=omega) only [go_sem,Bool.false_eq_true,if_false]
      exact back (i + 1) rfl (by omega) ⟨hP,g1,hq⟩
  · rw [sign_end (ss:=[[43,43],[45,45]]) (by simpa using g1)] at hq
    exact retV_self (h2 hq τ hP)
theorem ystepped_call (h:env 196=T_yStepped) (hP:PsAt σ0 σ l ts L) (h1:∀ s,steppedS ts=some s->∀ σ',PsAt σ0 σ' l (ts.drop 1) L->K (.tuple [.pv (.str s),.pv (.bool true)]) σ') (h2:steppedS ts=none->∀ σ',PsAt σ0 σ' l ts L->K (.tuple [.pv (.str []),.pv (.bool false)]) σ'):env 196 [.addr l 0] σ K X:=by
  rw [h]; exact ⟨σ0,l,ts,L,rfl,hP,h1,h2⟩
theorem T_yAhead_ok (E:PE2 env) (hs:env 196=T_yStepped) (ho:env 195=T_N r.operand) (h:T_O (aheadS r) args σ K X):bodyD PS env an194 Tryz.f194 args σ K X:=by
  obtain ⟨σ0,l,ts,Y,rfl,hP,hK⟩:=h
  rw [<- S194_eq env,S194]
  simp only [lock_eq]
  refine allocN hP (fun t2 σ1 hP=>?_)
  unfold aheadS at hK
  refine ystepped_call hs hP (fun s g σ2 hP=>?_) (fun g σ2 hP=>?_)
  · rw [g] at hK
    simp only [okR_bnd] at hK
    simp only [extractD,List.getElem?_cons_zero,List.getElem?_cons_succ,un_not,cond_bool,Bool.not_true,Bool.false_eq_true,if_false]
    refine callN ho hP (okR_mono hK (fun e ts hK σ4 hP=>?_) panX)
    refine allocN hP (fun t6 σ5 hP=>?_)
    refine storeZ (A:=[]) hP (fun σ6 hP=>?_)
    refine ldN 0 hP rfl ?_
    refine yplace_call E ?_
    refine ymust_call E (fun g=>?_) (fun g=>?_)
    · rw [if_pos g] at hK
      refine ldN 0 hP rfl ?_
      rw [rowN1]
      refine ynode1 E ?_
      refine storeZ (A:=[_]) hP (fun σ7 hP=>?_)
      refine ldN 1 hP rfl ?_
      exact retV_self (hK _ (hP.dropN 2))
    · rw [if_neg (by rw [g]; decide)] at hK
      exact ⟨_,sub_refl _,hK _ hP.sub⟩
  · rw [g] at hK
    simp only [extractD,List.getElem?_cons_zero,List.getElem?_cons_succ,un_not,cond_bool,Bool.not_false,if_true,zeroN_go]
    refine storeN3 (A:=[]) hP rfl (fun σ3 hP=>?_)
    have hg:=hP.at (k:=0) rfl
    rw [load_addrA T.hT50 T.ag50 hg,T.sz50]
    exact ⟨by decide,retV_self (hK _ (hP.dropN 1))⟩
theorem T_yStep_ok (E:PE2 env) (hs:env 196=T_yStepped) (ha:env 194=T_O (aheadS r)) (ho:env 195=T_N r.operand) (h:T_N (stepS r) args σ K X):bodyD PS env an184 Tryz.f184 args σ K X:=by
  obtain ⟨σ0,l,ts,Y,rfl,hP,hK⟩:=h
  rw [<- S184_eq env,S184]
  simp only [lock_eq]
  refine allocN hP (fun t2 σ1 hP=>?_)
  unfold stepS at hK
  rw [okR_bnd] at hK
  refine callO ha hP (okR_mono hK (fun o ts hK σ2 hP=>?_) panX)
  cases o with
  | some e =>
    simp only [optV,extractD,List.getElem?_cons_zero,List.getElem?_cons_succ]
    refine allocN hP (fun t3 σ3 hP=>?_)
    refine storeZ (A:=[]) hP (fun σ4 hP=>?_)
    simp only [cond_bool,if_true]
    refine ldN 0 hP rfl ?_
    refine storeZ (A:=[_]) hP (fun σ7 hP=>?_)
    refine ldN 1 hP rfl ?_
    exact retV_self (hK _ (hP.dropN 2))
  | none =>
    simp only [okR_bnd] at hK
    simp only [optV,extractD,List.getElem?_cons_zero,List.getElem?_cons_succ]
    refine allocN hP (fun t3 σ3 hP=>?_)
    refine storeN3 (A:=[]) hP rfl (fun σ4 hP=>?_)
    simp only [cond_bool,Bool.false_eq_true,if_false]
    refine callN ho hP (okR_mono hK (fun e ts hK σ4 hP=>?_) panX)
    refine allocN hP (fun t5 σ5 hP=>?_)
    refine storeZ (A:=[]) hP (fun σ6 hP=>?_)
    refine ldN 0 hP rfl ?_
    refine yplace_call E ?_
    rw [cond_bool]
    refine iteI (fun g=>?_) (fun g=>?_)
    · rw [if_pos g] at hK
      refine ystepped_call hs hP (fun s g σ2 hP=>?_) (fun g σ2 hP=>?_)
      · rw [g] at hK
        simp only [List.getElem?_cons_zero,List.getElem?_cons_succ,cond_bool,if_true]
        refine ldN 0 hP rfl ?_
        rw [rowN1]
        refine ynode1 E ?_
        refine storeZ (A:=[_,_]) hP (fun σ7 hP=>?_)
        refine ldN 2 hP rfl ?_
        exact retV_self (hK _ (hP.dropN 3))
      · rw [g] at hK
        simp only [List.getElem?_cons_zero,List.getElem?_cons_succ,cond_bool,Bool.false_eq_true,if_false]
        refine ldN 0 hP rfl ?_
        refine storeZ (A:=[_,_]) hP (fun σ7 hP=>?_)
        refine ldN 2 hP rfl ?_
        exact retV_self (hK _ (hP.dropN 3))
    · rw [if_neg g] at hK
      refine ldN 0 hP rfl ?_
      refine storeZ (A:=[_,_]) hP (fun σ7 hP=>?_)
      refine ldN 2 hP rfl ?_
      exact retV_self (hK _ (hP.dropN 3))
theorem T_yPower_ok (E:PE2 env) (hs:env 184=T_N (stepS r)) (hx:env 185=T_N r.exponent) (h:T_N (powerS r) args σ K X):bodyD PS env an163 Tryz.f163 args σ K X:=by
  obtain ⟨σ0,l,ts,Y,rfl,hP,hK⟩:=h
  rw [<- S163_eq env,S163]
  simp only [lock_eq]
  refine allocN hP (fun t2 σ1 hP=>?_)
  unfold powerS at hK
  rw [okR_bnd] at hK
  refine callN hs hP (okR_mono hK (fun e ts hK σ2 hP=>?_) panX)
  refine allocN hP (fun t3 σ3 hP=>?_)
  refine storeZ (A:=[]) hP (fun σ4 hP=>?_)
  refine op_call E.toPE0 ?_
  refine ytake_call E.take hP (opT_ne _) (fun g σ5 hP=>?_) (fun g σ5 hP=>?_)
  · rw [if_pos g,okR_bnd] at hK
    simp only [cond_bool,if_true]
    repeat' first
      | exact trivial
      | with_reducible refine And.intro ?_ ?_
      | refine ldN 0 hP rfl ?_
      | refine ldN 1 hP rfl ?_
      | refine ldN 2 hP rfl ?_
      | refine callN hx hP (okR_mono hK (fun x ts hK σ6 hP=>?_) panX)
      | rw [rowN2]
      | refine ynode2 E ?_
      | refine storeZ (A:=[_]) hP (fun σ7 hP=>?_)
      | exact retV_self (hK _ (hP.dropN 2))
  · rw [if_neg g] at hK
    simp only [cond_bool,Bool.false_eq_true,if_false]
    refine ldN 0 hP rfl ?_
    refine storeZ (A:=[_]) hP (fun σ7 hP=>?_)
    refine ldN 1 hP rfl ?_
    exact retV_self (hK _ (hP.dropN 2))
def RowFN (v:AV) (L:Objs) (l:List NTree):Prop:=RowV PS 50 v L l.length (flatN l) \/ (v=.full l.length (flatN l)/\L=[])
theorem RowFN.toPV {v:AV} {L:Objs} {l:List NTree} (h:RowFN v L l):AD.toPV v=some (.lst l.length (flatN l)):=by
  rcases h with h | ⟨rfl,_⟩
  · exact h.toPV
  · rfl
theorem RowFN.append {v:AV} {M:Objs} {a:List NTree} {e:NTree} (G:RowFN v M a) (h:PsAt σ0 σ l ts (Y ++ M)) (hb:a.length <= 1000000)
    (hK:∀ v' M' σ',RowFN v' M' (a ++ [e])->PsAt σ0 σ' l ts (Y ++ M')->K v' σ'):appendD PS false σ 23 v (.full 1 (flatN [e])) K:=by
  have e1:flatN (a ++ [e])=flatN a ++ flatN [e]:=flatN_app a [e]
  have l1:(flatN [e]).length=1 * szOf PS 50:=by rw [flatN_len,T.sz50]; rfl
  have hl:(a ++ [e]).length=a.length + 1:=by rw [List.length_append]; rfl
  rcases G with G | ⟨rfl,rfl⟩
  · refine G.append (l:=_ :: Y) h.sep rowTN (m:=1) (ys:=flatN [e]) rfl l1 (by omega) (by rw [T.by50]; omega) (by omega) ?_
    intro v' M' σ' hR hS
    refine hK v' M' σ' (.inl ?_) ⟨hS,h.len,h.fok⟩
    rw [e1,hl]; exact hR
  · rw [List.append_nil] at h
    have hz:∃ z,zeroOf PS 50=some z/\z.length=szOf PS 50:=⟨_,T.zo50,by rw [T.sz50]; rfl⟩
    obtain ⟨z,hz1,hz2⟩:=hz
    simp only [appendD,T.el23,hz1,hz2,shown,l1,appendCore,newRowD,toPVs_pv,Bool.false_eq_true,if_false,true_and]
    rw [if_neg (by decide)]
    refine ⟨by rw [T.sz50]; decide,by rw [flatN_len,T.sz50],by rw [T.by50]; omega,by omega,?_⟩
    intro id hid
    have hA:=h.alloc hid (.front (a.length + 1) (szOf PS 50) (some 50))
    refine hK _ [(id,.front (a.length + 1) (szOf PS 50) (some 50))] _ (.inl ?_) ⟨?_,h.len,h.fok⟩
    · rw [e1,hl]
      exact ⟨by rw [List.length_append,flatN_len,l1,T.sz50]; omega,.inr ⟨id,_,rfl,rfl⟩⟩
    · exact hA.sep.perm (by simpa using (List.perm_append_comm (l₁:=[(id,AObj.front (a.length + 1) (szOf PS 50) (some 50))]) (l₂:=Y)))
theorem T_yList_ok (E:PE2 env) (he:env 84=T_E r.expr) (hf:r.fuel <= 900000) (h:T_LP (listS r) args σ K X):bodyD PS env an193 Tryz.f193 args σ K X:=by
  obtain ⟨σ0,l,ts,Y,pr,rfl,hP,hK⟩:=h
  rw [<- S193_eq env,S193]
  simp only [lock_eq]
  unfold listS at hK
  rw [okR_bnd] at hK
  refine callE1 he hP (okR_mono hK (fun e ts hK σ2 hP=>?_) panX)
  rw [rowN1]
  refine lp193_2 (fun (a:Nat × List NTree × List Tok × AV) _=>a.1) (fun a τ=>(∃ M,RowFN a.2.2.2 M a.2.1/\PsAt σ0 τ l a.2.2.1 (Y ++ M))/\a.2.1.length + a.1 <= 900001/\okR (listL r pr a.1 a.2.1 a.2.2.1) (fun a r=>∀ σ',PsAt σ0 σ' l r Y->K (rowL a) σ') (∀ σ',σ0.sub σ'->X wrongV σ')) (fun a=>a.2.2.2) (r.fuel,[e],ts,.full 1 (flatN [e])) ⟨⟨[],.inr ⟨rfl,rfl⟩,by rw [List.append_nil]; exact hP⟩,by simp only [List.length_singleton]; omega,hK⟩ ?_
  rintro ⟨f,a,ts,v⟩ τ ⟨⟨M,hG,hP⟩,hn,hK⟩
  simp only at hG hP hn hK
  cases f with
  | zero=>exact hK.elim
  | succ f =>
    rw [listL] at hK
    unfold L193_2
    simp only [lock_eq]
    refine op_call E.toPE0 ?_
    refine ytake_call E.take hP (opT_ne _) (fun g σ2 hP=>?_) (fun g σ2 hP=>?_)
    · rw [if_pos g,okR_bnd] at hK
      simp only [cond_bool,if_true]
      refine ynls_call E.nls hP (fun σ3 hP=>?_)
      refine callE1 he hP (okR_mono hK (fun e ts hK σ2 hP=>?_) panX)
      rw [rowN1]
      refine hG.append hP (by omega) (fun v' M' σ4 hG hP=>?_)
      exact back (f,a ++ [e],ts,v') rfl (by simp only; omega) ⟨⟨M',hG,hP⟩,by simp only [List.length_append,List.length_singleton]; omega,hK⟩
    · rw [if_neg g] at hK
      simp only [cond_bool,Bool.false_eq_true,if_false]
      exact ⟨rowL a,_,.inl (.inr ⟨_,hG.toPV,rfl⟩),sub_refl _,hK σ2 (hP.part (List.sublist_append_left _ _))⟩
theorem T_yArgs_ok (E:PE2 env) (hl:env 193=T_LP (listS r)) (h:T_L (argsS r) args σ K X):bodyD PS env an199 Tryz.f199 args σ K X:=by
  obtain ⟨σ0,l,ts,Y,rfl,hP,hK⟩:=h
  rw [<- S199_eq env,S199]
  unfold argsS at hK
  refine op_call E.toPE0 ?_
  refine ytake_call E.take hP (opT_ne _) (fun g σ2 hP=>?_) (fun g σ2 hP=>?_)
  · rw [if_pos g] at hK
    simp only [cond_bool,if_true]
    refine ⟨rowL [],_,.inl (.inr ⟨_,nil_row,rfl⟩),sub_refl _,hK σ2 hP⟩
  · rw [if_neg g] at hK
    simp only [okR_bnd] at hK
    simp only [cond_bool,Bool.false_eq_true,if_false]
    refine callLP hl hP (okR_mono hK (fun a ts hK σ2 hP=>?_) panX)
    refine op_call E.toPE0 ?_
    refine yneed_call E.need hP (opT_ne _) (okR_mono hK (fun _ ts hK σ2 hP=>?_) panX)
    exact retV_self (hK _ hP)
theorem T_ySubs_ok (E:PE2 env) (hl:env 193=T_LP (listS r)) (h:T_L (subsS r) args σ K X):bodyD PS env an183 Tryz.f183 args σ K X:=by
  obtain ⟨σ0,l,ts,Y,rfl,hP,hK⟩:=h
  rw [<- S183_eq env,S183]
  unfold subsS at hK
  simp only [okR_bnd] at hK
  refine callLP hl hP (okR_mono hK (fun a ts hK σ2 hP=>?_) panX)
  refine op_call E.toPE0 ?_
  refine yneed_call E.need hP (opT_ne _) (okR_mono hK (fun _ ts hK σ2 hP=>?_) panX)
  exact retV_self (hK _ hP)
theorem T_yUnary_ok (E:PE2 env) (hu:env 129=T_N r.unary) (hp:env 163=T_N (powerS r)) (h:T_N (unaryS r) args σ K X):bodyD PS env an129 Tryz.f129 args σ K X:=by
  obtain ⟨σ0,l,ts,Y,rfl,hP,hK⟩:=h
  rw [<- S129_eq env,S129]
  simp only [lock_eq]
  refine allocN hP (fun t2 σ1 hP=>?_)
  rw [rowS3,T.lnf26]
  unfold unaryS at hK
  generalize hQ:signS [[33],[43],[45]] ts=Q at hK
  refine lp129_2 (fun (i:Nat) _=>3 - i) (fun i τ=>PsAt σ0 τ l ts (VarZ t2 :: Y)/\i <= 3/\signS (([[33],[43],[45]]:List Bytes).drop i) ts=Q) (fun i=>.pv (.int .i64 ((i:Nat):Int))) 0 ⟨hP,by decide,hQ⟩ ?_
  clear hP hQ
  rintro i τ ⟨hP,hi,hq⟩
  unfold L129_2
  simp (disch:=omega) only [lock_eq,go_sem]
  refine iteI (fun g1=>?_) (fun g1=>?_)
  · refine sign_ix (ss:=[[33],[43],[45]]) g1 ?_
    rw [sign_step (ss:=[[33],[43],[45]]) g1] at hq
    generalize ([[33],[43],[45]]:List Bytes).getD i []=s at hq ⊢
    refine op_call E.toPE0 ?_
    refine ytake_call E.take hP (opT_ne _) (fun g σ2 hP=>?_) (fun g σ2 hP=>?_)
    · rw [if_pos g] at hq
      subst hq
      simp only [okR_bnd] at hK
      simp only [cond_bool,if_true]
      refine callN hu hP (okR_mono hK (fun e ts hK σ2 hP=>?_) panX)
      rw [rowN1]
      refine ynode1 E ?_
      refine storeZ (A:=[]) hP (fun σ7 hP=>?_)
      refine ldN 0 hP rfl ?_
      exact retV_self (hK _ (hP.dropN 1))
    · rw [if_neg g] at hq
      simp (disch:=omega) only [go_sem,Bool.false_eq_true,if_false]
      exact back (i + 1) rfl (by omega) ⟨hP,g1,hq⟩
  · rw [sign_end (ss:=[[33],[43],[45]]) (by simpa using g1)] at hq
    subst hq
    refine callN hp hP (okR_mono hK (fun e ts hK σ2 hP=>?_) panX)
    refine storeZ (A:=[]) hP (fun σ7 hP=>?_)
    refine ldN 0 hP rfl ?_
    exact retV_self (hK _ (hP.dropN 1))
theorem T_yExponent_ok (E:PE2 env) (hu:env 185=T_N r.exponent) (hp:env 163=T_N (powerS r)) (h:T_N (exponentS r) args σ K X):bodyD PS env an185 Tryz.f185 args σ K X:=by
  obtain ⟨σ0,l,ts,Y,rfl,hP,hK⟩:=h
  rw [<- S185_eq env,S185]
  simp only [lock_eq]
  refine allocN hP (fun t2 σ1 hP=>?_)
  rw [rowS2,T.lnf26]
  unfold exponentS at hK
  generalize hQ:signS [[43],[45]] ts=Q at hK
  refine lp185_2 (fun (i:Nat) _=>2 - i) (fun i τ=>PsAt σ0 τ l ts (VarZ t2 :: Y)/\i <= 2/\signS (([[43],[45]]:List Bytes).drop i) ts=Q) (fun i=>.pv (.int .i64 ((i:Nat):Int))) 0 ⟨hP,by decide,hQ⟩ ?_
  clear hP hQ
  rintro i τ ⟨hP,hi,hq⟩
  unfold L185_2
  simp (disch:=omega) only [lock_eq,go_sem]
  refine iteI (fun g1=>?_) (fun g1=>?_)
  · refine sign_ix (ss:=[[43],[45]]) g1 ?_
    rw [sign_step (ss:=[[43],[45]]) g1] at hq
    generalize ([[43],[45]]:List Bytes).getD i []=s at hq ⊢
    refine op_call E.toPE0 ?_
    refine ytake_call E.take hP (opT_ne _) (fun g σ2 hP=>?_) (fun g σ2 hP=>?_)
    · rw [if_pos g] at hq
      subst hq
      simp only [okR_bnd] at hK
      simp only [cond_bool,if_true]
      refine callN hu hP (okR_mono hK (fun e ts hK σ2 hP=>?_) panX)
      rw [rowN1]
      refine ynode1 E ?_
      refine storeZ (A:=[]) hP (fun σ7 hP=>?_)
      refine ldN 0 hP rfl ?_
      exact retV_self (hK _ (hP.dropN 1))
    · rw [if_neg g] at hq
      simp (disch:=omega) only [go_sem,Bool.false_eq_true,if_false]
      exact back (i + 1) rfl (by omega) ⟨hP,g1,hq⟩
  · rw [sign_end (ss:=[[43],[45]]) (by simpa using g1)] at hq
    subst hq
    refine callN hp hP (okR_mono hK (fun e ts hK σ2 hP=>?_) panX)
    refine storeZ (A:=[]) hP (fun σ7 hP=>?_)
    refine ldN 0 hP rfl ?_
    exact retV_self (hK _ (hP.dropN 1))
theorem at_drop (j k:Nat) (ts:List Tok):atS k (ts.drop j)=atS (j + k) ts:=by
  unfold atS
  simp [List.getD_eq_getElem?_getD,List.getElem?_drop]
theorem rowL_len {a:List NTree} {K:AV->Prop}:lenD PS 23 (rowL a) K=K (.pv (.int .i64 (a.length:Nat))):=T.lnl23
theorem T_yOperand_ok (E:PE2 env) (hl:env 193=T_LP (listS r)) (ha:env 199=T_L (argsS r)) (hs:env 183=T_L (subsS r)) (hah:env 194=T_O (aheadS r)) (ho:env 195=T_N r.operand) (h:T_N (opndS r) args σ K X):bodyD PS env an195 Tryz.f195 args σ K X:=by
  obtain ⟨σ0,l,ts,Y,rfl,hP,hK⟩:=h
  rw [<- S195_eq env,S195]
  simp only [lock_eq]
  refine allocN hP (fun t2 σ1 hP=>?_)
  refine at0 E.toPE0 hP ?_
  refine allocT hP (fun t3 σ3 hP=>?_)
  refine storeT (A:=[]) hP (fun σ4 hP=>?_)
  refine ldT 0 hP rfl ?_
  rw [glob_ld,tokNe]
  unfold opndS at hK
  refine ymust_call E (fun g=>?_) (fun g=>by
    have g':atS 0 ts=([],[]):=by simpa using g
    rw [if_pos g'] at hK
    exact ⟨_,sub_refl _,hK _ hP.sub⟩)
  have g':atS 0 ts ≠ ([],[]):=by simpa using g
  rw [if_neg g'] at hK
  have hP0:=hP
  refine drop1 E.toPE0 hP (at_pos rfl g') (fun σ6 hP=>?_)
  have hf:(atS 0 ts).1=kFunc->1 <= (ts.drop 1).length:=by
    intro e
    have hfo:=hP0.fok 0 e
    rw [List.length_drop]; omega
  rw [show atS 1 ts=atS 0 (ts.drop 1) from (at_drop 1 0 ts).symm,show ts.drop 2=(ts.drop 1).drop 1 by rw [List.drop_drop]] at hK
  generalize atS 0 ts=tk at hK hP hf g'
  generalize ts.drop 1=u at hK hP hf
  have j8:∀ b,b=decide (tk.1 ∈ [kNum,kStr,kEre])->J195_8 env (.addr l 0) (.addr t2 0) (.addr t3 0) (.pv (.str tk.1)) (.pv (.bool b)) σ6 K X:=by
    intro b hb
    unfold J195_8
    simp only [lock_eq,cond_bool]
    refine iteI (fun g1=>?_) (fun g1=>?_)
    · rw [if_pos (of_decide_eq_true (by rw [<- hb]; exact g1))] at hK
      refine ldT0 0 hP rfl ?_
      refine ldT1 0 hP rfl ?_
      refine ynode0 E ?_
      refine storeZ (A:=[_]) hP (fun σ7 hP=>?_)
      refine ldN 1 hP rfl ?_
      exact retV_self (hK _ (hP.dropN 2))
    rw [if_neg (fun e=>g1 (by rw [hb]; exact decide_eq_true e))] at hK
    rw [bin_seql,cond_bool]
    refine iteI (fun g2=>?_) (fun g2=>?_)
    · rw [if_pos (show tk.1=kName from eq_of_beq g2)] at hK
      refine op_call E.toPE0 ?_
      refine ytake_call E.take hP (opT_ne _) (fun g σ5 hP=>?_) (fun g σ5 hP=>?_)
      · rw [if_pos g,okR_bnd] at hK
        simp only [cond_bool,if_true,T.fa53_1]
        repeat' first
          | exact trivial
          | with_reducible refine And.intro ?_ ?_
          | refine ldN 0 hP rfl ?_
          | refine ldN 1 hP rfl ?_
          | refine ldT1' 0 hP rfl ?_
          | refine callL hs hP (okR_mono hK (fun a ts hK σ6 hP=>?_) panX)
          | refine ynodeL E ?_
          | refine storeZ (A:=[_]) hP (fun σ7 hP=>?_)
          | exact retV_self (hK _ (hP.dropN 2))
      · rw [if_neg g] at hK
        simp only [cond_bool,Bool.false_eq_true,if_false]
        refine ldT1 0 hP rfl ?_
        refine ynode0 E ?_
        refine storeZ (A:=[_]) hP (fun σ7 hP=>?_)
        refine ldN 1 hP rfl ?_
        exact retV_self (hK _ (hP.dropN 2))
    rw [if_neg (show ¬ tk.1=kName from fun e=>g2 (by rw [e]; rfl))] at hK
    rw [bin_seql,cond_bool]
    refine iteI (fun g3=>?_) (fun g3=>?_)
    · have g3':tk.1=kFunc:=eq_of_beq g3
      rw [if_pos g3',okR_bnd] at hK
      refine drop1 E.toPE0 hP (hf g3') (fun σ7 hP=>?_)
      simp only [T.fa53_1]
      repeat' first
        | exact trivial
        | with_reducible refine And.intro ?_ ?_
        | refine ldN 0 hP rfl ?_
        | refine ldN 1 hP rfl ?_
        | refine ldT1' 0 hP rfl ?_
        | refine callL ha hP (okR_mono hK (fun a ts hK σ6 hP=>?_) panX)
        | refine ynodeL E ?_
        | refine storeZ (A:=[_]) hP (fun σ7 hP=>?_)
        | exact retV_self (hK _ (hP.dropN 2))
    rw [if_neg (show ¬ tk.1=kFunc from fun e=>g3 (by rw [e]; rfl))] at hK
    rw [bin_seql,cond_bool]
    refine iteI (fun g4=>?_) (fun g4=>?_)
    · rw [if_pos (show tk.1=kBuilt from eq_of_beq g4)] at hK
      refine op_call E.toPE0 ?_
      refine ytake_call E.take hP (opT_ne _) (fun g σ5 hP=>?_) (fun g σ5 hP=>?_)
      · rw [if_pos g,okR_bnd] at hK
        simp only [cond_bool,if_true,T.fa53_1]
        repeat' first
          | exact trivial
          | with_reducible refine And.intro ?_ ?_
          | refine ldN 0 hP rfl ?_
          | refine ldN 1 hP rfl ?_
          | refine ldT1' 0 hP rfl ?_
          | refine callL ha hP (okR_mono hK (fun a ts hK σ6 hP=>?_) panX)
          | refine ynodeL E ?_
          | refine storeZ (A:=[_]) hP (fun σ7 hP=>?_)
          | exact retV_self (hK _ (hP.dropN 2))
      · rw [if_neg g] at hK
        simp only [cond_bool,Bool.false_eq_true,if_false]
        refine ldT1 0 hP rfl ?_
        rw [bin_seql]
        refine ymust_call E (fun g=>?_) (fun g=>?_)
        · rw [if_pos (show tk.2=sLength from eq_of_beq g)] at hK
          refine ldT1 0 hP rfl ?_
          refine ynode0 E ?_
          refine storeZ (A:=[_]) hP (fun σ7 hP=>?_)
          refine ldN 1 hP rfl ?_
          exact retV_self (hK _ (hP.dropN 2))
        · rw [if_neg (show ¬ tk.2=sLength from fun e=>by rw [e] at g; exact absurd g (by decide))] at hK
          exact ⟨_,sub_refl _,hK _ hP.sub⟩
    rw [if_neg (show ¬ tk.1=kBuilt from fun e=>g4 (by rw [e]; rfl))] at hK
    refine ldT 0 hP rfl ?_
    refine op_call E.toPE0 ?_
    rw [tokEq,cond_bool]
    refine iteI (fun g5=>?_) (fun g5=>?_)
    · rw [if_pos (of_decide_eq_true g5)] at hK
      simp only [okR_bnd] at hK
      refine callLP hl hP (okR_mono hK (fun a ts hK σ6 hP=>?_) panX)
      refine op_call E.toPE0 ?_
      refine yneed_call E.need hP (opT_ne _) (okR_mono hK (fun _ ts hK σ2 hP=>?_) panX)
      rw [rowL_len,bin_eql,cond_bool]
      refine iteI (fun g6=>?_) (fun g6=>?_)
      · rw [if_pos (by simpa [nBeqL] using g6)] at hK
        refine ynodeL E ?_
        refine storeZ (A:=[_]) hP (fun σ7 hP=>?_)
        refine ldN 1 hP rfl ?_
        exact retV_self (hK _ (hP.dropN 2))
      · rw [if_neg (by simpa [nBeqL] using g6)] at hK
        refine word_call E.toPE0 ?_
        refine ytake_call E.take hP (wordT_ne _) (fun g σ5 hP=>?_) (fun g σ5 hP=>?_)
        · rw [if_pos (show atS 0 ts=wordT wIn from g),okR_bnd] at hK
          simp only [cond_bool,if_true]
          rw [rowS1]
          refine ykind_call E.kind hP (ks:=[kName]) rfl (by decide) (by decide) (okR_mono hK (fun x ts hK σ2 hP=>?_) panX)
          refine ynodeL E ?_
          refine storeZ (A:=[_]) hP (fun σ7 hP=>?_)
          refine ldN 1 hP rfl ?_
          exact retV_self (hK _ (hP.dropN 2))
        · rw [if_neg (show ¬ atS 0 ts=wordT wIn from g)] at hK
          simp only [cond_bool,Bool.false_eq_true,if_false]
          refine ynodeL E ?_
          refine storeZ (A:=[_]) hP (fun σ7 hP=>?_)
          refine ldN 1 hP rfl ?_
          exact retV_self (hK _ (hP.dropN 2))
    rw [if_neg (fun e=>g5 (decide_eq_true e))] at hK
    refine op_call E.toPE0 ?_
    rw [tokEq,cond_bool]
    refine iteI (fun g6=>?_) (fun g6=>?_)
    · rw [if_pos (of_decide_eq_true g6),okR_bnd] at hK
      refine callO hah hP (okR_mono hK (fun o ts hK σ2 hP=>?_) panX)
      cases o with
      | some e =>
        simp only [optV,extractD,List.getElem?_cons_zero,List.getElem?_cons_succ]
        refine allocN hP (fun t5 σ3 hP=>?_)
        refine storeZ (A:=[]) hP (fun σ4 hP=>?_)
        simp only [cond_bool,if_true]
        refine ldN 0 hP rfl ?_
        rw [rowN1]
        refine ynode1 E ?_
        refine storeZ (A:=[_,_]) hP (fun σ7 hP=>?_)
        refine ldN 2 hP rfl ?_
        exact retV_self (hK _ (hP.dropN 3))
      | none =>
        simp only [okR_bnd] at hK
        simp only [optV,extractD,List.getElem?_cons_zero,List.getElem?_cons_succ]
        refine allocN hP (fun t5 σ3 hP=>?_)
        refine storeN3 (A:=[]) hP rfl (fun σ4 hP=>?_)
        simp only [cond_bool,Bool.false_eq_true,if_false]
        refine callN ho hP (okR_mono hK (fun e ts hK σ4 hP=>?_) panX)
        rw [rowN1]
        refine ynode1 E ?_
        refine storeZ (A:=[_,_]) hP (fun σ7 hP=>?_)
        refine ldN 2 hP rfl ?_
        exact retV_self (hK _ (hP.dropN 3))
    rw [if_neg (fun e=>g6 (decide_eq_true e))] at hK
    exact wrong_go (panX hK _ hP.sub)
  refine ldT0 0 hP rfl ?_
  rw [bin_seql,cond_bool]
  refine iteI (fun g=>j8 _ (by rw [g]; exact (decide_eq_true (by rw [show tk.1=kNum from eq_of_beq g]; decide)).symm)) (fun g1=>?_)
  rw [bin_seql,cond_bool]
  refine iteI (fun g=>j8 _ (by rw [g]; exact (decide_eq_true (by rw [show tk.1=kStr from eq_of_beq g]; decide)).symm)) (fun g2=>?_)
  rw [bin_seql]
  simp only [beq_iff_eq] at g1 g2
  refine j8 _ ?_
  rw [beqD]
  simp [kNum,kStr,kEre,g1,g2]
theorem iteLe {c:Prop} [Decidable c] {a b n:Nat} (ha:a <= n) (hb:b <= n):(if c then a else b) <= n:=by
  by_cases hc:c
  · rw [if_pos hc]; exact ha
  · rw [if_neg hc]; exact hb
theorem levelS_le (pr:Bool) (t:Tok):levelS pr t <= 10:=by
  unfold levelS
  refine iteLe (by decide) (iteLe (by decide) (iteLe (by decide) (iteLe (by decide) (iteLe (by decide) (iteLe (by decide) (iteLe (by decide) (iteLe (by decide) (iteLe (iteLe (by decide) (by decide)) (iteLe (by decide) (iteLe (by decide) (iteLe (by decide) (by decide))))))))))))
theorem level_end (pr:Bool):levelS pr ([],[])=0:=by cases pr <;> decide
def exprI (r:Rec) (least:Nat) (pr:Bool) (σ0:AS) (l:Nat) (Y:Objs) (K:AV->AS->Prop) (X:PV->AS->Prop) (t6 t7:Nat):Nat × NTree × Nat × List Tok->AS->Prop:=fun a τ =>
  PsAt σ0 τ l a.2.2.2 (VarN (some 50) t7 a.2.1 :: VarZ t6 :: Y)/\a.2.2.1 <= 10/\okR (exprL r least pr a.1 a.2.1 a.2.2.1 a.2.2.2) (fun a r=>∀ σ',PsAt σ0 σ' l r Y->K (nodeAV a) σ') (∀ σ',σ0.sub σ'->X wrongV σ')
abbrev exprV (l least:Nat) (pr:Bool) (t6 t7:Nat):Nat × NTree × Nat × List Tok->List AV:=fun a=>[.addr l 0,.pv (.int .i64 (least:Nat)),.pv (.bool pr),.addr t6 0,.addr t7 0,.pv (.int .i64 (a.2.2.1:Nat))]
theorem T_yExpr_ok (E:PE2 env) (he:env 84=T_E r.expr) (hu:env 129=T_N r.unary) (h:T_E (exprS r) args σ K X):bodyD PS env an84 Tryz.f84 args σ K X:=by
  obtain ⟨σ0,l,ts,Y,least,pr,rfl,hle,hP,hK⟩:=h
  rw [<- S84_eq env,S84]
  simp only [lock_eq]
  refine allocN hP (fun t6 σ1 hP=>?_)
  unfold exprS at hK
  rw [okR_bnd] at hK
  refine callN hu hP (okR_mono hK (fun e ts hK σ2 hP=>?_) panX)
  refine allocN hP (fun t7 σ3 hP=>?_)
  refine storeZ (A:=[]) hP (fun σ4 hP=>?_)
  refine lp84_3 (fun (a:Nat × NTree × Nat × List Tok) _=>a.1) (exprI r least pr σ0 l Y K X t6 t7) (fun a=>.pv (.int .i64 (a.2.2.1:Nat))) (r.fuel,e,10,ts) ⟨hP,Nat.le_refl _,hK⟩ ?_
  clear hP hK
  rintro ⟨f,left,bound,ts⟩ τ ⟨hP,hb,hK⟩
  simp only at hP hb hK
  cases f with
  | zero=>exact hK.elim
  | succ f =>
  rw [exprL] at hK
  unfold L84_3
  simp only [lock_eq]
  refine ylevel_call E.level hP ?_
  have hk10:=levelS_le pr (atS 0 ts)
  have hpos:levelS pr (atS 0 ts) ≠ 0->1 <= ts.length:=fun hne=>at_pos rfl (fun e=>hne (by rw [e]; exact level_end pr))
  generalize levelS pr (atS 0 ts)=k at hK hk10 hpos ⊢
  have fin:(k < least \/ bound < k \/ k=0)->loadD PS τ 50 (.addr t7 0) fun t29=>storeD PS τ 50 (.addr t6 0) t29 fun σ7=>loadD PS σ7 50 (.addr t6 0) fun r0=>retV r0 σ7 K:=by
    intro hc
    rw [if_pos hc] at hK
    refine ldN 0 hP rfl ?_
    refine storeZ (A:=[_]) hP (fun σ7 hP=>?_)
    refine ldN 1 hP rfl ?_
    exact retV_self (hK _ (hP.dropN 2))
  simp (disch:=omega) only [go_sem]
  refine iteI (fun g1=>fin (.inl g1)) (fun g1=>?_)
  refine iteI (fun g2=>fin (.inr (.inl g2))) (fun g2=>?_)
  refine iteI (fun g3=>fin (.inr (.inr (by simpa using g3)))) (fun g3=>?_)
  have g3':k ≠ 0:=fun e=>g3 (by rw [e]; rfl)
  rw [if_neg (fun h=>h.elim g1 (fun h=>h.elim g2 g3'))] at hK
  clear fin g1 g2 g3
  unfold J84_6
  simp only [lock_eq]
  refine at0 E.toPE0 hP ?_
  refine allocT hP (fun t10 σ9 hP=>?_)
  refine storeT (A:=[]) hP (fun σ10 hP=>?_)
  have hpos:=hpos g3'
  generalize atS 0 ts=tk at hK hP
  have j26:∀ (k':Nat) (e:NTree) (ts':List Tok) (σ':AS),k' <= 10->PsAt σ0 σ' l ts' (VarT t10 tk :: VarN (some 50) t7 e :: VarZ t6 :: Y)->okR (exprL r least pr f e (if k'=7 then 6 else k') ts') (fun a r=>∀ σ',PsAt σ0 σ' l r Y->K (nodeAV a) σ') (∀ σ',σ0.sub σ'->X wrongV σ') ->
      J84_26 env (Inv (exprV l least pr t6 t7) (fun a _=>a.1) (exprI r least pr σ0 l Y K X t6 t7)) (f + 1) (.addr l 0) (.pv (.int .i64 (least:Nat))) (.pv (.bool pr)) (.addr t6 0) (.addr t7 0) (.pv (.int .i64 (k':Nat))) σ' K X:=by
    intro k' e ts' σ' hk' hP hK
    unfold J84_26
    simp only [lock_eq,bin_eql,cond_bool]
    refine iteI (fun g=>?_) (fun g=>?_)
    · have g':k'=7:=by simpa [nBeqL] using g
      rw [if_pos g'] at hK
      exact back (f,e,6,ts') rfl (Nat.lt_succ_self f) ⟨hP.dropN 1,show 6 <= 10 by decide,hK⟩
    · have g':¬ k'=7:=by simpa [nBeqL] using g
      rw [if_neg g'] at hK
      exact back (f,e,k',ts') rfl (Nat.lt_succ_self f) ⟨hP.dropN 1,hk',hK⟩
  rw [bin_neq,cond_bool]
  have hne8:(((k:Nat):Int) != 8)=decide (k ≠ 8):=by
    rw [Bool.eq_iff_iff]; simp; omega
  rw [hne8]
  refine iteI (fun g8=>?_) (fun g8=>?_)
  · have g8:k ≠ 8:=of_decide_eq_true g8
    refine drop1 E.toPE0 hP hpos (fun σ11 hP=>?_)
    unfold J84_9
    simp only [lock_eq,bin_eql,cond_bool]
    refine iteI (fun h1=>?_) (fun h1=>?_)
    · have h1:k=1:=by simpa [nBeqL] using h1
      subst h1
      rw [if_pos rfl] at hK
      refine ldN 1 hP rfl ?_
      refine yplace_call E ?_
      refine ymust_call E (fun g=>?_) (fun g=>?_)
      · rw [if_pos g,okR_bnd] at hK
        simp only [T.fa53_1]
        repeat' first
          | exact trivial
          | with_reducible refine And.intro ?_ ?_
          | refine ldN 0 hP rfl ?_
          | refine ldN 1 hP rfl ?_
          | refine ldN 2 hP rfl ?_
          | refine ldT1' 0 hP rfl ?_
          | refine callE1 he hP (okR_mono hK (fun x ts hK σ6 hP=>?_) panX)
          | rw [rowN2]
          | refine ynode2 E ?_
          | refine storeZ (A:=[_,_]) hP (fun σ7 hP=>?_)
          | exact retV_self (hK _ (hP.dropN 3))
      · rw [if_neg (by rw [g]; decide)] at hK
        exact ⟨_,sub_refl _,hK _ hP.sub⟩
    have h1:¬ k=1:=by simpa [nBeqL] using h1
    rw [if_neg h1] at hK
    refine iteI (fun h2=>?_) (fun h2=>?_)
    · have h2:k=2:=by simpa [nBeqL] using h2
      subst h2
      rw [if_pos rfl] at hK
      simp only [okR_bnd] at hK
      refine ynls_call E.nls hP (fun σ3 hP=>?_)
      refine callE1 he hP (okR_mono hK (fun a ts hK σ6 hP=>?_) panX)
      refine allocN hP (fun t11 σ3 hP=>?_)
      refine storeZ (A:=[]) hP (fun σ4 hP=>?_)
      refine op_call E.toPE0 ?_
      refine yneed_call E.need hP (opT_ne _) (okR_mono hK (fun _ ts hK σ2 hP=>?_) panX)
      refine ynls_call E.nls hP (fun σ3 hP=>?_)
      repeat' first
        | exact trivial
        | with_reducible refine And.intro ?_ ?_
        | refine ldN 0 hP rfl ?_
        | refine ldN 1 hP rfl ?_
        | refine ldN 2 hP rfl ?_
        | refine ldN 3 hP rfl ?_
        | refine callE1 he hP (okR_mono hK (fun x ts hK σ6 hP=>?_) panX)
        | rw [rowN3]
        | refine ynode3 E ?_
        | refine storeZ (A:=[_,_,_]) hP (fun σ7 hP=>?_)
        | exact retV_self (hK _ (hP.dropN 4))
    have h2:¬ k=2:=by simpa [nBeqL] using h2
    rw [if_neg h2] at hK
    refine iteI (fun h5=>?_) (fun h5=>?_)
    · have h5:k=5:=by simpa [nBeqL] using h5
      subst h5
      rw [if_pos rfl,okR_bnd] at hK
      repeat' first
        | exact trivial
        | with_reducible refine And.intro ?_ ?_
        | refine ldN 0 hP rfl ?_
        | refine ldN 1 hP rfl ?_
        | refine ldN 2 hP rfl ?_
        | rw [rowS1]
        | refine ykind_call E.kind hP (ks:=[kName]) rfl (by decide) (by decide) (okR_mono hK (fun x ts hK σ2 hP=>?_) panX)
        | rw [rowN1]
        | refine ynode1 E ?_
        | refine storeN (A:=[_]) hP (fun σ7 hP=>?_)
        | exact j26 5 _ _ _ (by decide) hP hK
    have h5:¬ k=5:=by simpa [nBeqL] using h5
    rw [if_neg h5] at hK
    refine iteI (fun h8=>absurd (by simpa [nBeqL] using h8) g8) (fun h8=>?_)
    rw [if_neg g8,okR_bnd] at hK
    have j12:∀ (us:List Tok) (σ':AS),PsAt σ0 σ' l us (VarT t10 tk :: VarN (some 50) t7 left :: VarZ t6 :: Y)->okR (r.expr (k + 1) pr us) (fun e ts'=>okR (exprL r least pr f (.mk oBin tk.2 [left,e]) (if k=7 then 6 else k) ts') (fun a r=>∀ σ',PsAt σ0 σ' l r Y->K (nodeAV a) σ') (∀ σ',σ0.sub σ'->X wrongV σ')) (∀ σ',σ0.sub σ'->X wrongV σ') ->
        J84_12 env (Inv (exprV l least pr t6 t7) (fun a _=>a.1) (exprI r least pr σ0 l Y K X t6 t7)) (f + 1) (.addr l 0) (.pv (.int .i64 (least:Nat))) (.pv (.bool pr)) (.addr t6 0) (.addr t7 0) (.pv (.int .i64 (k:Nat))) (.addr t10 0) σ' K X:=by
      intro us σ' hP hK
      unfold J84_12
      simp (disch:=omega) only [lock_eq,T.fa53_1,bin_add,nAdd1,wrap64]
      repeat' first
        | exact trivial
        | with_reducible refine And.intro ?_ ?_
        | refine ldN 0 hP rfl ?_
        | refine ldN 1 hP rfl ?_
        | refine ldN 2 hP rfl ?_
        | refine ldT1' 0 hP rfl ?_
        | refine callE he (k + 1) (by omega) hP (okR_mono hK (fun x ts hK σ6 hP=>?_) panX)
        | rw [rowN2]
        | refine ynode2 E ?_
        | refine storeN (A:=[_]) hP (fun σ7 hP=>?_)
        | exact j26 k _ _ _ hk10 hP hK
    rw [bin_leq,cond_bool]
    refine iteI (fun g4=>?_) (fun g4=>?_)
    · have g4:k <= 4:=by have:=of_decide_eq_true g4; omega
      rw [if_pos g4] at hK
      refine ynls_call E.nls hP (fun σ3 hP=>?_)
      exact j12 _ _ hP hK
    · have g4:¬ k <= 4:=fun e=>g4 (decide_eq_true (by omega))
      rw [if_neg g4] at hK
      exact j12 _ _ hP hK
  · obtain rfl:k=8:=by
      by_cases e:k=8
      · exact e
      · exact absurd (decide_eq_true e) g8
    rw [if_neg (by decide),if_neg (by decide),if_neg (by decide),if_pos rfl,okR_bnd] at hK
    unfold J84_9
    have e1:(((8:Nat):Int) == 1)=false:=rfl
    have e2:(((8:Nat):Int) == 2)=false:=rfl
    have e5:(((8:Nat):Int) == 5)=false:=rfl
    have e8:(((8:Nat):Int) == 8)=true:=rfl
    simp only [lock_eq,bin_eql,cond_bool,e1,e2,e5,e8,Bool.false_eq_true,if_false,if_true]
    repeat' first
      | exact trivial
      | with_reducible refine And.intro ?_ ?_
      | refine ldN 0 hP rfl ?_
      | refine ldN 1 hP rfl ?_
      | refine ldN 2 hP rfl ?_
      | refine callE9 he hP (okR_mono hK (fun x ts hK σ6 hP=>?_) panX)
      | rw [rowN2]
      | refine ynode2 E ?_
      | refine storeN (A:=[_]) hP (fun σ7 hP=>?_)
      | exact j26 8 _ _ _ (by decide) hP hK
end
end Go.AD.Lx
set_option linter.unusedVariables false
set_option linter.unusedSimpArgs false
set_option maxRecDepth 100000
set_option maxHeartbeats 1000000
namespace Go.AD.Lx
open Go.Proofs RowKit
section
variable {env:Env} {args:List AV} {σ0 σ τ:AS} {K:AV->AS->Prop} {X:PV->AS->Prop} {l:Nat} {ts:List Tok} {L Y:Objs} {r:Rec}
theorem okR_mono' {α:Type} {m:R α} {A B:α->List Tok->Prop} {x y:Prop} (h:okR m A x) (h1:∀ a ts,m=.ok a ts->A a ts->B a ts) (h2:x->y):okR m B y:=by
  cases m with
  | out=>exact h
  | wrong=>exact h2 h
  | ok a ts=>exact h1 a ts rfl h
theorem ytakeT (h:env 80=T_yTake) {t:Tok} (hP:PsAt σ0 σ l ts L) (g:atS 0 ts=t) (hne:t ≠ ([],[])) (h1:∀ σ',PsAt σ0 σ' l (ts.drop 1) L->K (.pv (.bool true)) σ'):env 80 [.addr l 0,tokAV t] σ K X :=
  ytake_call h hP hne (fun _=>h1) (fun h=>absurd g h)
theorem ytakeF (h:env 80=T_yTake) {t:Tok} (hP:PsAt σ0 σ l ts L) (g:atS 0 ts ≠ t) (hne:t ≠ ([],[])) (h1:∀ σ',PsAt σ0 σ' l ts L->K (.pv (.bool false)) σ'):env 80 [.addr l 0,tokAV t] σ K X :=
  ytake_call h hP hne (fun h=>absurd h g) (fun _=>h1)
def CutP (c:AV) (a:List NTree):Prop:=c=.cut a.length (flatN a) \/ (c=.nilS/\a=[])
def RowP (v:AV) (a:List NTree):Prop:=v=rowL a \/ (v=.nilS/\a=[])
theorem RowP.toPV {v:AV} {a:List NTree} (h:RowP v a):AD.toPV v=some (.lst a.length (flatN a)):=by
  rcases h with rfl | ⟨rfl,rfl⟩
  · rfl
  · exact nil_row
theorem RowP.cut {v:AV} {a:List NTree} (h:RowP v a) {K:AV->Prop} (hK:∀ c,CutP c a->K c):cutD PS 23 v (.pv (.int .i64 (a.length:Nat))) (.pv (.int .i64 (a.length:Nat))) K:=by
  rcases h with rfl | ⟨rfl,rfl⟩
  · simp only [cutD,rowL,T.el23,true_and]
    exact ⟨T.iS50,hK _ (.inl rfl)⟩
  · simp only [cutD,T.el23,true_and]
    exact ⟨T.iS50,rfl,hK _ (.inr ⟨rfl,rfl⟩)⟩
theorem CutP.append {c:AV} {a:List NTree} {e:NTree} (G:CutP c a) (h:PsAt σ0 σ l ts Y) (hb:a.length <= 1000000)
    (hK:∀ v' σ',AD.toPV v'=some (.lst (a ++ [e]).length (flatN (a ++ [e])))->PsAt σ0 σ' l ts Y->K v' σ'):appendD PS false σ 23 c (.full 1 (flatN [e])) K:=by
  have e1:flatN (a ++ [e])=flatN a ++ flatN [e]:=flatN_app a [e]
  have l1:(flatN [e]).length=1 * szOf PS 50:=by rw [flatN_len,T.sz50]; rfl
  have hl:(a ++ [e]).length=a.length + 1:=by rw [List.length_append]; rfl
  have hz:∃ z,zeroOf PS 50=some z/\z.length=szOf PS 50:=⟨_,T.zo50,by rw [T.sz50]; rfl⟩
  obtain ⟨z,hz1,hz2⟩:=hz
  rcases G with rfl | ⟨rfl,rfl⟩
  · simp only [appendD,T.el23,hz1,hz2,shown,l1,appendCore,newRowD,toPVs_pv,Bool.false_eq_true,if_false,true_and]
    rw [if_neg (by decide)]
    refine ⟨by rw [T.sz50]; decide,by rw [flatN_len,T.sz50],by rw [T.by50]; omega,by omega,?_⟩
    intro id hid
    exact hK _ _ (by rw [e1,hl]; rfl) (h.up (sub_set _ hid))
  · simp only [appendD,T.el23,hz1,hz2,shown,l1,appendCore,newRowD,toPVs_pv,Bool.false_eq_true,if_false,true_and]
    rw [if_neg (by decide)]
    refine ⟨by rw [T.sz50]; decide,by rw [T.by50]; omega,by omega,?_⟩
    intro id hid
    exact hK _ _ (by rfl) (h.up (sub_set _ hid))
def T_W (f:Bytes->Ps NTree):Tr:=fun args σ K X=>∃ (σ0:AS) (l:Nat) (ts:List Tok) (Y:Objs) (w:Bytes),args=[.addr l 0,.pv (.str w)]/\PsAt σ0 σ l ts Y/\okR (f w ts) (fun a r=>∀ σ',PsAt σ0 σ' l r Y->K (nodeAV a) σ') (∀ σ',σ0.sub σ'->X wrongV σ')
theorem callW {f:Bytes->Ps NTree} {n:Nat} (h:env n=T_W f) {w:Bytes} (hP:PsAt σ0 σ l ts Y) (hK:okR (f w ts) (fun a r=>∀ σ',PsAt σ0 σ' l r Y->K (nodeAV a) σ') (∀ σ',σ0.sub σ'->X wrongV σ')):env n [.addr l 0,.pv (.str w)] σ K X:=by
  rw [h]; exact ⟨σ0,l,ts,Y,w,rfl,hP,hK⟩
theorem lenP {v:AV} {a:List NTree} (h:RowP v a) {K:AV->Prop}:lenD PS 23 v K=K (.pv (.int .i64 (a.length:Nat))):=len_of (by rw [T.el23]; rfl) h.toPV
theorem ystarts_call' (E:PE2 env) (hP:PsAt σ0 σ l ts L) (hK:K (.pv (.bool (startsB (atS 0 ts)))) σ):env 182 [.addr l 0] σ K X:=ystarts_call E.starts hP hK
theorem nodeN_row {n:NTree}:flatN [n]=[.str n.op,.str n.text,.lst n.kids.length (flatN n.kids)]:=by rw [flatN_one,nodeCells_eq]
theorem T_yPrinted_ok (E:PE2 env) (he:env 84=T_E r.expr) (hl:env 193=T_LP (listS r)) (hg:∀ ts l ts',ts.length <= 70000->listS r true ts=.ok l ts'->(unlist l).length <= 1000000) (h:T_W (printedS r) args σ K X):bodyD PS env an181 Tryz.f181 args σ K X:=by
  obtain ⟨σ0,l,ts,Y,w,rfl,hP,hK⟩:=h
  rw [<- S181_eq env,S181]
  simp only [lock_eq]
  refine allocN hP (fun t4 σ1 hP=>?_)
  have j8:∀ (v:AV) (a:List NTree) (us:List Tok) (τ:AS),RowP v a->a.length <= 1000000->PsAt σ0 τ l us (VarZ t4 :: Y)->okR (printTail r w a us) (fun a r=>∀ σ',PsAt σ0 σ' l r Y->K (nodeAV a) σ') (∀ σ',σ0.sub σ'->X wrongV σ')->J181_8 env (.addr l 0) (.pv (.str w)) (.addr t4 0) v τ K X:=by
    intro v a us τ hv hb hP hK
    unfold J181_8
    simp only [lock_eq,rowS2]
    rw [T.lnf26]
    unfold printTail at hK
    generalize hQ:signS [[62],[62,62]] us=Q at hK
    refine lp181_9 (fun (i:Nat) _=>2 - i) (fun i τ=>PsAt σ0 τ l us (VarZ t4 :: Y)/\i <= 2/\signS (([[62],[62,62]]:List Bytes).drop i) us=Q) (fun _=>v) (fun i=>.pv (.int .i64 ((i:Nat):Int))) 0 ⟨hP,by decide,hQ⟩ ?_
    clear hP hQ
    rintro i τ ⟨hP,hi,hq⟩
    unfold L181_9
    simp (disch:=omega) only [lock_eq,go_sem]
    refine iteI (fun g1=>?_) (fun g1=>?_)
    · refine sign_ix (ss:=[[62],[62,62]]) g1 ?_
      rw [sign_step (ss:=[[62],[62,62]]) g1] at hq
      generalize ([[62],[62,62]]:List Bytes).getD i []=s at hq ⊢
      refine op_call E.toPE0 ?_
      refine ytake_call E.take hP (opT_ne _) (fun g σ2 hP=>?_) (fun g σ2 hP=>?_)
      · rw [if_pos g] at hq
        subst hq
        simp only [okR_bnd] at hK
        simp only [cond_bool,if_true,lenP hv]
        repeat' first
          | exact trivial
          | with_reducible refine And.intro ?_ ?_
          | refine ldN 0 hP rfl ?_
          | refine ldN 1 hP rfl ?_
          | refine hv.cut (fun c hc=>?_)
          | refine callE8 he hP (okR_mono hK (fun e ts hK σ2 hP=>?_) panX)
          | rw [rowN1]
          | refine hc.append hP hb (fun v' σ3 hv' hP=>?_)
          | refine ynode_call E.node hv' ?_
          | refine storeZ (A:=[]) hP (fun σ7 hP=>?_)
          | exact retV_self (hK _ (hP.dropN 1))
      · rw [if_neg g] at hq
        simp (disch:=omega) only [go_sem,Bool.false_eq_true,if_false]
        exact back (i + 1) rfl (by omega) ⟨hP,g1,hq⟩
    · rw [sign_end (ss:=[[62],[62,62]]) (by simpa using g1)] at hq
      subst hq
      refine ynode_call E.node hv.toPV ?_
      refine storeZ (A:=[]) hP (fun σ7 hP=>?_)
      refine ldN 0 hP rfl ?_
      exact retV_self (hK _ (hP.dropN 1))
  unfold printedS at hK
  refine ystarts_call' E hP ?_
  rw [cond_bool]
  refine iteI (fun g=>?_) (fun g=>?_)
  · rw [if_pos g,okR_bnd] at hK
    have hlen:=hP.len
    refine callLP hl hP (okR_mono' hK (fun a ts hq hK σ2 hP=>?_) panX)
    have hgb:=hg _ _ _ hlen hq
    rw [rowL_len]
    simp only [bin_eql,guard_true]
    refine iteI (fun g1=>?_) (fun g1=>?_)
    · have g1:a.length=1:=by simpa [nBeqL] using g1
      obtain ⟨n,rfl⟩:∃ n,a=[n]:=by
        match a,g1 with
        | [n],_=>exact ⟨n,rfl⟩
      have ix:∀ K:AV->Prop,indexAddrD PS 23 (rowL [n]) (.pv (.int .i64 0)) K=K (.elemP (flatN [n]) (0 * 3)):=fun K=>T.ixl23 (i:=0) Nat.zero_lt_one (flatN_len _)
      simp only [ix,T.fe50_0,T.le9,nodeN_row,List.getElem?_cons_zero,Nat.zero_mul,Nat.add_zero,someEx,bin_seql]
      unfold J181_5
      simp only [lock_eq,cond_bool]
      obtain ⟨op,text,ks⟩:=n
      refine iteI (fun g2=>?_) (fun g2=>?_)
      · have e:unlist [.mk op text ks]=ks:=by
          show (if op=oList then ks else _)=ks
          rw [if_pos (show op=oList from eq_of_beq g2)]
        rw [e] at hK hgb
        simp only [ix,T.fe50_2,T.le23,nodeN_row,List.getElem?_cons_zero,List.getElem?_cons_succ,Nat.zero_mul,Nat.zero_add,someEx]
        exact j8 _ ks _ _ (.inl rfl) hgb hP hK
      · have e:unlist [.mk op text ks]=[.mk op text ks]:=by
          show (if op=oList then ks else _)=_
          rw [if_neg (fun e=>g2 (by rw [show (NTree.mk op text ks).op=op from rfl,e]; rfl))]
        rw [e] at hK hgb
        exact j8 _ _ _ _ (.inl rfl) hgb hP hK
    · have g1:¬ a.length=1:=by simpa [nBeqL] using g1
      have e:unlist a=a:=by
        match a,g1 with
        | [],_=>rfl
        | .mk _ _ _ :: _ :: _,_=>rfl
      rw [e] at hK hgb
      unfold J181_5
      simp only [lock_eq,cond_bool,Bool.false_eq_true,if_false]
      exact j8 _ _ _ _ (.inl rfl) hgb hP hK
  · rw [if_neg g] at hK
    rw [bin_seql,cond_bool]
    refine iteI (fun g1=>?_) (fun g1=>?_)
    · rw [if_pos (show w=oPrintf from eq_of_beq g1)] at hK
      exact wrong_go (panX hK _ hP.sub)
    · rw [if_neg (show ¬ w=oPrintf from fun e=>g1 (by rw [e]; rfl))] at hK
      exact j8 _ [] _ _ (.inr ⟨rfl,rfl⟩) (by decide) hP hK
theorem T_ySimple_ok (E:PE2 env) (he:env 84=T_E r.expr) (hp:env 181=T_W (printedS r)) (hs:env 183=T_L (subsS r)) (h:T_N (simpleS r) args σ K X):bodyD PS env an162 Tryz.f162 args σ K X:=by
  obtain ⟨σ0,l,ts,Y,rfl,hP,hK⟩:=h
  rw [<- S162_eq env,S162]
  simp only [lock_eq]
  refine allocN hP (fun t2 σ1 hP=>?_)
  refine at0 E.toPE0 hP ?_
  refine allocT hP (fun t3 σ3 hP=>?_)
  refine storeT (A:=[]) hP (fun σ4 hP=>?_)
  refine ldT0 0 hP rfl ?_
  unfold simpleS at hK
  rw [bin_sneq,beqD,cond_bool]
  refine iteI (fun g=>?_) (fun g=>?_)
  · have g:(atS 0 ts).1 ≠ kWord:=by simpa [kWord] using g
    rw [if_pos g,okR_bnd] at hK
    refine callE1 he hP (okR_mono hK (fun e ts hK σ6 hP=>?_) panX)
    rw [rowN1]
    refine ynode1 E ?_
    refine storeZ (A:=[_]) hP (fun σ7 hP=>?_)
    refine ldN 1 hP rfl ?_
    exact retV_self (hK _ (hP.dropN 2))
  have g:(atS 0 ts).1=kWord:=by simpa [kWord] using g
  rw [if_neg (not_not_intro g)] at hK
  refine drop1 E.toPE0 hP (at_kind g (by decide)) (fun σ6 hP=>?_)
  rw [show atS 1 ts=atS 0 (ts.drop 1) from (at_drop 1 0 ts).symm] at hK
  generalize atS 0 ts=tk at hK hP g
  generalize ts.drop 1=u at hK hP
  refine ldT1 0 hP rfl ?_
  have done:∀ (a:NTree) (τ:AS),PsAt σ0 τ l u (VarT t3 tk :: VarZ t2 :: Y)->okR (.ok a u) (fun a r=>∀ σ',PsAt σ0 σ' l r Y->K (nodeAV a) σ') (∀ σ',σ0.sub σ'->X wrongV σ')->storeD PS τ 50 (.addr t2 0) (nodeAV a) fun σ7=>loadD PS σ7 50 (.addr t2 0) fun r0=>retV r0 σ7 K:=by
    intro a τ hP hK
    refine storeZ (A:=[_]) hP (fun σ7 hP=>?_)
    refine ldN 1 hP rfl ?_
    exact retV_self (hK _ (hP.dropN 2))
  have j15:∀ b,b=decide (tk.2 ∈ [oExit,oReturn])->tk.2 ∉ [oPrint,oPrintf]->tk.2 ∉ [oNext,oBreak,oContinue]->J162_15 env (.addr l 0) (.addr t2 0) (.addr t3 0) (.pv (.str tk.2)) (.pv (.bool b)) σ6 K X:=by
    intro b hb n1 n2
    rw [if_neg n1,if_neg n2] at hK
    unfold J162_15
    simp only [lock_eq,cond_bool]
    refine iteI (fun g1=>?_) (fun g1=>?_)
    · rw [if_pos (of_decide_eq_true (by rw [<- hb]; exact g1))] at hK
      refine ystarts_call' E hP ?_
      rw [cond_bool]
      refine iteI (fun g2=>?_) (fun g2=>?_)
      · rw [if_pos g2,okR_bnd] at hK
        simp only [T.fa53_1]
        repeat' first
          | exact trivial
          | with_reducible refine And.intro ?_ ?_
          | refine ldN 0 hP rfl ?_
          | refine ldN 1 hP rfl ?_
          | refine ldT1' 0 hP rfl ?_
          | refine callE1 he hP (okR_mono hK (fun e ts hK σ6 hP=>?_) panX)
          | rw [rowN1]
          | refine ynode1 E ?_
          | refine storeZ (A:=[_]) hP (fun σ7 hP=>?_)
          | exact retV_self (hK _ (hP.dropN 2))
      · rw [if_neg g2] at hK
        refine ldT1 0 hP rfl ?_
        refine ynode0 E ?_
        exact done _ _ hP hK
    rw [if_neg (fun e=>g1 (by rw [hb]; exact decide_eq_true e))] at hK
    rw [bin_seql,cond_bool]
    refine iteI (fun g2=>?_) (fun g2=>?_)
    · rw [if_pos (show tk.2=oDelete from eq_of_beq g2)] at hK
      simp only [okR_bnd] at hK
      rw [rowS1]
      refine ykind_call E.kind hP (ks:=[kName]) rfl (by decide) (by decide) (okR_mono hK (fun x ts hK σ2 hP=>?_) panX)
      refine op_call E.toPE0 ?_
      refine yneed_call E.need hP (opT_ne _) (okR_mono hK (fun _ ts hK σ2 hP=>?_) panX)
      refine callL hs hP (okR_mono hK (fun a ts hK σ6 hP=>?_) panX)
      refine ynodeL E ?_
      refine storeZ (A:=[_]) hP (fun σ7 hP=>?_)
      refine ldN 1 hP rfl ?_
      exact retV_self (hK _ (hP.dropN 2))
    · rw [if_neg (show ¬ tk.2=oDelete from fun e=>g2 (by rw [e]; rfl))] at hK
      exact wrong_go (panX hK _ hP.sub)
  have j12:∀ b,b=decide (tk.2 ∈ [oNext,oBreak,oContinue])->tk.2 ∉ [oPrint,oPrintf]->J162_12 env (.addr l 0) (.addr t2 0) (.addr t3 0) (.pv (.str tk.2)) (.pv (.bool b)) σ6 K X:=by
    intro b hb n1
    unfold J162_12
    simp only [lock_eq,cond_bool]
    refine iteI (fun g1=>?_) (fun g1=>?_)
    · rw [if_neg n1,if_pos (of_decide_eq_true (by rw [<- hb]; exact g1))] at hK
      refine ldT1 0 hP rfl ?_
      refine ynode0 E ?_
      exact done _ _ hP hK
    have n2:tk.2 ∉ [oNext,oBreak,oContinue]:=fun e=>g1 (by rw [hb]; exact decide_eq_true e)
    rw [bin_seql,cond_bool]
    refine iteI (fun g=>j15 _ (by rw [g]; exact (decide_eq_true (by rw [show tk.2=oExit from eq_of_beq g]; decide)).symm) n1 n2) (fun g3=>?_)
    rw [bin_seql]
    simp only [beq_iff_eq] at g3
    exact j15 _ (by rw [beqD]; simp [oExit,oReturn,g3]) n1 n2
  have j8:∀ b,b=decide (tk.2 ∈ [oPrint,oPrintf])->J162_8 env (.addr l 0) (.addr t2 0) (.addr t3 0) (.pv (.str tk.2)) (.pv (.bool b)) σ6 K X:=by
    intro b hb
    unfold J162_8
    simp only [lock_eq,cond_bool]
    refine iteI (fun g1=>?_) (fun g1=>?_)
    · rw [if_pos (of_decide_eq_true (by rw [<- hb]; exact g1))] at hK
      refine ldT1 0 hP rfl ?_
      refine callW hp hP (okR_mono hK (fun e ts hK σ6 hP=>?_) panX)
      refine storeZ (A:=[_]) hP (fun σ7 hP=>?_)
      refine ldN 1 hP rfl ?_
      exact retV_self (hK _ (hP.dropN 2))
    have n1:tk.2 ∉ [oPrint,oPrintf]:=fun e=>g1 (by rw [hb]; exact decide_eq_true e)
    rw [bin_seql,cond_bool]
    refine iteI (fun g=>j12 _ (by rw [g]; exact (decide_eq_true (by rw [show tk.2=oNext from eq_of_beq g]; decide)).symm) n1) (fun g3=>?_)
    rw [bin_seql,cond_bool]
    refine iteI (fun g=>j12 _ (by rw [g]; exact (decide_eq_true (by rw [show tk.2=oBreak from eq_of_beq g]; decide)).symm) n1) (fun g4=>?_)
    rw [bin_seql]
    simp only [beq_iff_eq] at g3 g4
    exact j12 _ (by rw [beqD]; simp [oNext,oBreak,oContinue,g3,g4]) n1
  rw [bin_seql,cond_bool]
  refine iteI (fun g=>j8 _ (by rw [g]; exact (decide_eq_true (by rw [show tk.2=oPrint from eq_of_beq g]; decide)).symm)) (fun g3=>?_)
  rw [bin_seql]
  simp only [beq_iff_eq] at g3
  exact j8 _ (by rw [beqD]; simp [oPrint,oPrintf,g3])
theorem T_yParen_ok (E:PE2 env) (he:env 84=T_E r.expr) (h:T_N (parenS r) args σ K X):bodyD PS env an159 Tryz.f159 args σ K X:=by
  obtain ⟨σ0,l,ts,Y,rfl,hP,hK⟩:=h
  rw [<- S159_eq env,S159]
  simp only [lock_eq]
  unfold parenS at hK
  simp only [okR_bnd] at hK
  refine allocN hP (fun t2 σ1 hP=>?_)
  refine op_call E.toPE0 ?_
  refine yneed_call E.need hP (opT_ne _) (okR_mono hK (fun _ ts hK σ2 hP=>?_) panX)
  refine callE1 he hP (okR_mono hK (fun e ts hK σ6 hP=>?_) panX)
  refine allocN hP (fun t3 σ1 hP=>?_)
  refine storeZ (A:=[]) hP (fun σ7 hP=>?_)
  refine op_call E.toPE0 ?_
  refine yneed_call E.need hP (opT_ne _) (okR_mono hK (fun _ ts hK σ2 hP=>?_) panX)
  refine ldN 0 hP rfl ?_
  refine storeZ (A:=[_]) hP (fun σ7 hP=>?_)
  refine ldN 1 hP rfl ?_
  exact retV_self (hK _ (hP.dropN 2))
theorem T_yBody_ok (E:PE2 env) (hs:env 127=T_NB r.statement) (h:T_NB (bodyS r) args σ K X):bodyD PS env an160 Tryz.f160 args σ K X:=by
  obtain ⟨σ0,l,ts,Y,rfl,hP,hK⟩:=h
  rw [<- S160_eq env,S160]
  simp only [lock_eq]
  unfold bodyS at hK
  refine allocN hP (fun t2 σ1 hP=>?_)
  refine ynls_call E.nls hP (fun σ3 hP=>?_)
  refine callNB hs hP (okR_mono hK (fun s ts hK σ6 hP=>?_) panX)
  simp only [extractD,List.getElem?_cons_zero,List.getElem?_cons_succ]
  refine storeZ (A:=[]) hP (fun σ7 hP=>?_)
  refine ldN 0 hP rfl ?_
  exact retV_self (hK _ (hP.dropN 1))
theorem T_yChoice_ok (E:PE2 env) (hp:env 159=T_N (parenS r)) (hb:env 160=T_NB (bodyS r)) (h:T_NB (choiceS r) args σ K X):bodyD PS env an158 Tryz.f158 args σ K X:=by
  obtain ⟨σ0,l,ts,Y,rfl,hP,hK⟩:=h
  rw [<- S158_eq env,S158]
  simp only [lock_eq]
  unfold choiceS at hK
  rw [okR_bnd] at hK
  refine allocN hP (fun t2 σ1 hP=>?_)
  refine callN hp hP (okR_mono hK (fun c ts hK σ6 hP=>?_) panX)
  rw [okR_bnd] at hK
  refine allocN hP (fun t4 σ1 hP=>?_)
  refine storeZ (A:=[]) hP (fun σ7 hP=>?_)
  refine callNB hb hP (okR_mono hK (fun a ts hK σ6 hP=>?_) panX)
  obtain ⟨a,op⟩:=a
  simp only [extractD,List.getElem?_cons_zero,List.getElem?_cons_succ]
  refine allocN hP (fun t5 σ1 hP=>?_)
  refine storeZ (A:=[]) hP (fun σ8 hP=>?_)
  have hgl:=hP.get
  simp only [nilD,T.fa85_0,Nat.add_zero,T.ld42,hgl,ldM_cells,List.getElem?_cons_zero,someEx]
  have hlen:=hP.len
  have hfok:=hP.fok
  refine yends_call E.ends hP (fun σ9 hP=>?_)
  have j6f:∀ τ,PsAt σ0 τ l (endsS ts) (VarN (some 50) t5 a :: VarN (some 50) t4 c :: VarZ t2 :: Y)->okR (.ok (NTree.mk oIf [] [c,a],op) ts) (fun a r=>∀ σ',PsAt σ0 σ' l r Y->K (.tuple [nodeAV a.1,.pv (.bool a.2)]) σ') (∀ σ',σ0.sub σ'->X wrongV σ')->J158_6 env (.addr l 0) (.addr t2 0) (.addr t4 0) (.addr t5 0) (.pv (.bool op)) (.pv (.lst ts.length (flatT ts))) (.pv (.bool false)) τ K X:=by
    intro τ hP hK
    unfold J158_6
    have hgl:=hP.get
    simp only [lock_eq,cond_bool,Bool.false_eq_true,if_false,nilD,T.fa85_0,Nat.add_zero,T.stp42,hgl,stM_cells,List.set_cons_zero]
    refine ⟨by simp,?_⟩
    have hP:=hP.put hlen hfok
    generalize (τ.set l (.cells [.pv (.lst ts.length (flatT ts))] none))=τ2 at hP
    refine ldN 1 hP rfl ?_
    refine ldN 0 hP rfl ?_
    rw [rowN2]
    refine ynode2 E ?_
    refine storeZ (A:=[_,_]) hP (fun σ7 hP=>?_)
    refine ldN 2 hP rfl ?_
    exact retV_self (hK _ (hP.dropN 3))
  have j6t:∀ τ,PsAt σ0 τ l ((endsS ts).drop 1) (VarN (some 50) t5 a :: VarN (some 50) t4 c :: VarZ t2 :: Y)->okR (bodyS r ((endsS ts).drop 1)) (fun b r=>okR (.ok (NTree.mk oIf [] [c,a,b.1],b.2) r) (fun a r=>∀ σ',PsAt σ0 σ' l r Y->K (.tuple [nodeAV a.1,.pv (.bool a.2)]) σ') (∀ σ',σ0.sub σ'->X wrongV σ')) (∀ σ',σ0.sub σ'->X wrongV σ')->J158_6 env (.addr l 0) (.addr t2 0) (.addr t4 0) (.addr t5 0) (.pv (.bool op)) (.pv (.lst ts.length (flatT ts))) (.pv (.bool true)) τ K X:=by
    intro τ hP hK
    unfold J158_6
    simp only [lock_eq,cond_bool,if_true]
    refine callNB hb hP (okR_mono hK (fun b ts hK σ6 hP=>?_) panX)
    simp only [extractD,List.getElem?_cons_zero,List.getElem?_cons_succ]
    refine allocN hP (fun t9 σ1 hP=>?_)
    refine storeZ (A:=[]) hP (fun σ8 hP=>?_)
    refine ldN 2 hP rfl ?_
    refine ldN 1 hP rfl ?_
    refine ldN 0 hP rfl ?_
    rw [rowN3]
    refine ynode3 E ?_
    refine storeZ (A:=[_,_,_]) hP (fun σ7 hP=>?_)
    refine ldN 3 hP rfl ?_
    exact retV_self (hK _ (hP.dropN 4))
  rw [guard_false]
  refine iteI (fun g=>?_) (fun g=>?_)
  · refine word_call E.toPE0 ?_
    refine ytake_call E.take hP (wordT_ne _) (fun g2 σ5 hP=>?_) (fun g2 σ5 hP=>?_)
    · rw [if_pos ⟨.inl g,g2⟩,okR_bnd] at hK
      exact j6t _ hP hK
    · rw [if_neg (fun h=>g2 h.2)] at hK
      exact j6f _ hP hK
  · rw [un_not,guard_true]
    cases op with
    | true =>
      rw [if_neg (by decide)]
      rw [if_neg (fun h=>h.1.elim g (fun h=>absurd (show true=false from h) (by decide)))] at hK
      exact j6f _ hP hK
    | false =>
      rw [if_pos (show (!false)=true from rfl)]
      refine word_call E.toPE0 ?_
      refine ytake_call E.take hP (wordT_ne _) (fun g2 σ5 hP=>?_) (fun g2 σ5 hP=>?_)
      · rw [if_pos ⟨.inr rfl,g2⟩,okR_bnd] at hK
        exact j6t _ hP hK
      · rw [if_neg (fun h=>g2 h.2)] at hK
        exact j6f _ hP hK
end
end Go.AD.Lx
set_option linter.unusedVariables false
set_option linter.unusedSimpArgs false
set_option maxRecDepth 100000
set_option maxHeartbeats 1000000
namespace Go.AD.Lx
open Go.Proofs RowKit
section
variable {env:Env} {args:List AV} {σ0 σ τ:AS} {K:AV->AS->Prop} {X:PV->AS->Prop} {l:Nat} {ts:List Tok} {L Y:Objs} {r:Rec}
theorem boxP (h:PsAt σ0 σ l ts L) {KS:AV->AS->Prop} (hK:∀ t σ',PsAt σ0 σ' l ts ((t,.cells [.addr l 0] none) :: L)->KS (.addr t 0) σ'):boxD σ (.addr l 0) KS :=
  ⟨rfl,fun t ht=>hK t _ (h.alloc ht _)⟩
theorem ldP (k:Nat) {t:Nat} {K:AV->Prop} (h:PsAt σ0 σ l ts L) (hk:L[k]?=some (t,.cells [.addr l 0] none)) (hK:K (.addr l 0)):loadD PS σ 83 (.addr t 0) K:=by
  have hg:=h.at hk
  rw [T.ld83,hg]
  exact ⟨_,rfl,hK⟩
theorem ldPm {t:Nat} {K:AV->Prop} (h:PsAt σ0 σ l ts L) (hm:(t,.cells [.addr l 0] none) ∈ L) (hK:K (.addr l 0)):loadD PS σ 83 (.addr t 0) K:=by
  have hg:=h.objs.get hm
  rw [T.ld83,hg]
  exact ⟨_,rfl,hK⟩
def T_CN (f:Ps NTree):Tr:=fun args σ K X=>∃ (σ0:AS) (l:Nat) (ts:List Tok) (Y:Objs) (t:Nat),args=[.addr t 0]/\(t,.cells [.addr l 0] none) ∈ Y/\PsAt σ0 σ l ts Y/\okR (f ts) (fun a r=>∀ σ',PsAt σ0 σ' l r Y->K (nodeAV a) σ') (∀ σ',σ0.sub σ'->X wrongV σ')
def T_CNB (f:Ps (NTree × Bool)):Tr:=fun args σ K X=>∃ (σ0:AS) (l:Nat) (ts:List Tok) (Y:Objs) (t:Nat),args=[.addr t 0]/\(t,.cells [.addr l 0] none) ∈ Y/\PsAt σ0 σ l ts Y/\okR (f ts) (fun a r=>∀ σ',PsAt σ0 σ' l r Y->K (.tuple [nodeAV a.1,.pv (.bool a.2)]) σ') (∀ σ',σ0.sub σ'->X wrongV σ')
theorem callCN {f:Ps NTree} {n t:Nat} (h:env n=T_CN f) (hP:PsAt σ0 σ l ts Y) (hm:(t,.cells [.addr l 0] none) ∈ Y) (hK:okR (f ts) (fun a r=>∀ σ',PsAt σ0 σ' l r Y->K (nodeAV a) σ') (∀ σ',σ0.sub σ'->X wrongV σ')):env n [.addr t 0] σ K X:=by
  rw [h]; exact ⟨σ0,l,ts,Y,t,rfl,hm,hP,hK⟩
theorem callCNB {f:Ps (NTree × Bool)} {n t:Nat} (h:env n=T_CNB f) (hP:PsAt σ0 σ l ts Y) (hm:(t,.cells [.addr l 0] none) ∈ Y) (hK:okR (f ts) (fun a r=>∀ σ',PsAt σ0 σ' l r Y->K (.tuple [nodeAV a.1,.pv (.bool a.2)]) σ') (∀ σ',σ0.sub σ'->X wrongV σ')):env n [.addr t 0] σ K X:=by
  rw [h]; exact ⟨σ0,l,ts,Y,t,rfl,hm,hP,hK⟩
theorem T_yLoop1_ok (E:PE2 env) (he:env 84=T_E r.expr) (h:T_CN (r.expr 1 false) args σ K X):bodyD PS env an180 Tryz.f180 args σ K X:=by
  obtain ⟨σ0,l,ts,Y,t,rfl,hm,hP,hK⟩:=h
  rw [<- S180_eq env,S180]
  simp only [lock_eq]
  refine allocN hP (fun t1 σ1 hP=>?_)
  refine ldPm hP (List.mem_cons_of_mem _ hm) ?_
  refine callE1 he hP (okR_mono hK (fun e ts hK σ6 hP=>?_) panX)
  refine storeZ (A:=[]) hP (fun σ7 hP=>?_)
  refine ldN 0 hP rfl ?_
  exact retV_self (hK _ (hP.dropN 1))
def T_yPart (r:Rec):Tr:=fun args σ K X=>∃ (σ0:AS) (l:Nat) (ts:List Tok) (Y:Objs) (u:Bytes) (v:AV) (g:Ps NTree),args=[.addr l 0,.pv (.str u),v] /\
  ((v=.clo 162 [.addr l 0] []/\g=simpleS r) \/ ∃ t,v=.clo 180 [] [.addr t 0]/\(t,.cells [.addr l 0] none) ∈ Y/\g=r.expr 1 false)/\PsAt σ0 σ l ts Y/\okR (partS u g ts) (fun a r=>∀ σ',PsAt σ0 σ' l r Y->K (nodeAV a) σ') (∀ σ',σ0.sub σ'->X wrongV σ')
theorem T_yPart_ok (E:PE2 env) (hs:env 162=T_N (simpleS r)) (hl:env 180=T_CN (r.expr 1 false)) (h:T_yPart r args σ K X):bodyD PS env an179 Tryz.f179 args σ K X:=by
  obtain ⟨σ0,l,ts,Y,u,v,g,rfl,hv,hP,hK⟩:=h
  rw [<- S179_eq env,S179]
  simp only [lock_eq]
  unfold partS at hK
  rw [okR_bnd] at hK
  refine allocN hP (fun t6 σ1 hP=>?_)
  refine ynone_call E ?_
  refine allocN hP (fun t7 σ1 hP=>?_)
  refine storeZ (A:=[]) hP (fun σ7 hP=>?_)
  refine at0 E.toPE0 hP ?_
  refine op_call E.toPE0 ?_
  rw [tokNe,cond_bool]
  have j4:∀ (e:NTree) (us:List Tok) (τ:AS),PsAt σ0 τ l us (VarN (some 50) t7 e :: VarZ t6 :: Y)->okR (bnd (needS (opT u) us) fun _ ts=>.ok e (nlsS ts)) (fun a r=>∀ σ',PsAt σ0 σ' l r Y->K (nodeAV a) σ') (∀ σ',σ0.sub σ'->X wrongV σ')->J179_4 env (.addr l 0) (.pv (.str u)) (.addr t6 0) (.addr t7 0) τ K X:=by
    intro e us τ hP hK
    unfold J179_4
    simp only [lock_eq]
    rw [okR_bnd] at hK
    refine op_call E.toPE0 ?_
    refine yneed_call E.need hP (opT_ne _) (okR_mono hK (fun _ ts hK σ2 hP=>?_) panX)
    refine ynls_call E.nls hP (fun σ3 hP=>?_)
    refine ldN 0 hP rfl ?_
    refine storeZ (A:=[_]) hP (fun σ7 hP=>?_)
    refine ldN 1 hP rfl ?_
    exact retV_self (hK _ (hP.dropN 2))
  refine iteI (fun g1=>?_) (fun g1=>?_)
  · have g1:¬ atS 0 ts=opT u:=by simpa using g1
    rw [if_neg g1] at hK
    rcases hv with ⟨rfl,rfl⟩ | ⟨t,rfl,hm,rfl⟩
    · refine callN hs hP (okR_mono hK (fun e ts hK σ6 hP=>?_) panX)
      refine storeN (A:=[]) hP (fun σ7 hP=>?_)
      exact j4 e _ _ hP hK
    · refine callCN hl hP (List.mem_cons_of_mem _ (List.mem_cons_of_mem _ hm)) (okR_mono hK (fun e ts hK σ6 hP=>?_) panX)
      refine storeN (A:=[]) hP (fun σ7 hP=>?_)
      exact j4 e _ _ hP hK
  · have g1:atS 0 ts=opT u:=by simpa using g1
    rw [if_pos g1] at hK
    exact j4 noneN _ _ hP hK
theorem part_simple (h:env 179=T_yPart r) {u:Bytes} (hP:PsAt σ0 σ l ts Y) (hK:okR (partS u (simpleS r) ts) (fun a r=>∀ σ',PsAt σ0 σ' l r Y->K (nodeAV a) σ') (∀ σ',σ0.sub σ'->X wrongV σ')):env 179 [.addr l 0,.pv (.str u),.clo 162 [.addr l 0] []] σ K X:=by
  rw [h]; exact ⟨σ0,l,ts,Y,u,_,_,rfl,.inl ⟨rfl,rfl⟩,hP,hK⟩
theorem part_expr (h:env 179=T_yPart r) {u:Bytes} {t:Nat} (hP:PsAt σ0 σ l ts Y) (hm:(t,.cells [.addr l 0] none) ∈ Y) (hK:okR (partS u (r.expr 1 false) ts) (fun a r=>∀ σ',PsAt σ0 σ' l r Y->K (nodeAV a) σ') (∀ σ',σ0.sub σ'->X wrongV σ')):env 179 [.addr l 0,.pv (.str u),.clo 180 [] [.addr t 0]] σ K X:=by
  rw [h]; exact ⟨σ0,l,ts,Y,u,_,_,rfl,.inr ⟨t,rfl,hm,rfl⟩,hP,hK⟩
theorem mem_at {k:Nat} {x:Nat × AObj} (h:L[k]?=some x):x ∈ L:=List.mem_of_getElem? h
theorem T_yLoop_ok (E:PE2 env) (hb:env 160=T_NB (bodyS r)) (hp:env 179=T_yPart r) (hs:env 127=T_NB r.statement) (h:T_NB (loopS r) args σ K X):bodyD PS env an161 Tryz.f161 args σ K X:=by
  obtain ⟨σ0,l,ts,Y,rfl,hP,hK⟩:=h
  rw [<- S161_eq env,S161]
  simp only [lock_eq]
  unfold loopS at hK
  rw [okR_bnd] at hK
  refine boxP hP (fun t1 σ1 hP=>?_)
  refine allocN hP (fun t2 σ1 hP=>?_)
  have j3:∀ (us:List Tok) (τ:AS) (b:Bool),b=decide ((atS 0 us).1=kName/\atS 1 us=wordT wIn/\(atS 2 us).1=kName/\atS 3 us=opT [41])->PsAt σ0 τ l us (VarZ t2 :: (t1,.cells [.addr l 0] none) :: Y) ->
      okR (if (atS 0 us).1=kName/\atS 1 us=wordT wIn/\(atS 2 us).1=kName/\atS 3 us=opT [41] then bnd (bodyS r (us.drop 4)) fun s ts'=>.ok (.mk oForin (atS 0 us).2 [.mk oVar (atS 2 us).2 [],s.1],s.2) ts'
        else bnd (partS [59] (simpleS r) us) fun a ts=>bnd (partS [59] (r.expr 1 false) ts) fun b ts=>bnd (partS [41] (simpleS r) ts) fun c ts=>bnd (r.statement ts) fun s ts=>.ok (.mk oFor [] [a,b,c,s.1],s.2) ts) (fun a r=>∀ σ',PsAt σ0 σ' l r Y->K (.tuple [nodeAV a.1,.pv (.bool a.2)]) σ') (∀ σ',σ0.sub σ'->X wrongV σ') ->
      J161_3 env (.addr t1 0) (.addr t2 0) (.pv (.bool b)) τ K X:=by
    intro us τ b hbq hP hK
    unfold J161_3
    simp only [lock_eq,cond_bool]
    refine iteI (fun g=>?_) (fun g=>?_)
    · have hc:=of_decide_eq_true (hbq.symm.trans g)
      rw [if_pos hc,okR_bnd] at hK
      have h4:4 <= us.length:=at_pos hc.2.2.2 (opT_ne _)
      repeat' first
        | exact trivial
        | with_reducible refine And.intro ?_ ?_
        | refine ldN 0 hP rfl ?_
        | refine ldN 1 hP rfl ?_
        | refine ldN 2 hP rfl ?_
        | refine ldP 1 hP rfl ?_
        | refine at0 E.toPE0 hP ?_
        | refine at2 E.toPE0 hP ?_
        | rw [fld1]
        | refine drop4 E.toPE0 hP h4 (fun σ7 hP=>?_)
        | refine callNB hb hP (okR_mono hK (fun s ts hK σ6 hP=>?_) panX)
        | simp only [extractD,List.getElem?_cons_zero,List.getElem?_cons_succ]
        | refine allocN hP (fun t6 σ1 hP=>?_)
        | refine ynode0 E ?_
        | rw [rowN2]
        | refine ynode2 E ?_
        | refine storeZ (A:=[]) hP (fun σ8 hP=>?_)
        | refine storeZ (A:=[_]) hP (fun σ8 hP=>?_)
        | exact retV_self (hK _ (hP.dropN 3))
    · rw [if_neg (fun hc=>g (hbq.trans (decide_eq_true hc)))] at hK
      simp only [okR_bnd] at hK
      refine ldP 1 hP rfl ?_
      refine ldP 1 hP rfl ?_
      refine part_simple hp hP (okR_mono hK (fun a ts hK σ6 hP=>?_) panX)
      refine allocN hP (fun t8 σ1 hP=>?_)
      refine storeZ (A:=[]) hP (fun σ7 hP=>?_)
      refine ldP 2 hP rfl ?_
      refine part_expr hp hP (mem_at (k:=2) rfl) (okR_mono hK (fun b ts hK σ6 hP=>?_) panX)
      refine allocN hP (fun t9 σ1 hP=>?_)
      refine storeZ (A:=[]) hP (fun σ7 hP=>?_)
      refine ldP 3 hP rfl ?_
      refine ldP 3 hP rfl ?_
      refine part_simple hp hP (okR_mono hK (fun c ts hK σ6 hP=>?_) panX)
      refine allocN hP (fun t10 σ1 hP=>?_)
      refine storeZ (A:=[]) hP (fun σ7 hP=>?_)
      refine ldP 4 hP rfl ?_
      refine callNB hs hP (okR_mono hK (fun s ts hK σ6 hP=>?_) panX)
      simp only [extractD,List.getElem?_cons_zero,List.getElem?_cons_succ]
      refine allocN hP (fun t11 σ1 hP=>?_)
      refine storeZ (A:=[]) hP (fun σ7 hP=>?_)
      refine ldN 3 hP rfl ?_
      refine ldN 2 hP rfl ?_
      refine ldN 1 hP rfl ?_
      refine ldN 0 hP rfl ?_
      rw [rowN4]
      refine ynode4 E ?_
      refine storeZ (A:=[_,_,_,_]) hP (fun σ7 hP=>?_)
      refine ldN 4 hP rfl ?_
      exact retV_self (hK _ (hP.dropN 6))
  repeat' first
    | exact trivial
    | with_reducible refine And.intro ?_ ?_
    | refine ldP 1 hP rfl ?_
    | refine op_call E.toPE0 ?_
    | refine yneed_call E.need hP (opT_ne _) (okR_mono hK (fun _ ts hK σ2 hP=>?_) panX)
    | refine at0 E.toPE0 hP ?_
    | rw [fld0]
  all_goals
    rw [bin_seql,beqD,guard_true]
    refine iteI (fun g0=>?_) (fun g0=>j3 _ _ _ ((decide_eq_false (fun hc=>g0 (decide_eq_true hc.1))).symm) hP hK)
    have g0:=of_decide_eq_true g0
    refine ldP 1 hP rfl ?_
    refine at1 E.toPE0 hP ?_
    refine word_call E.toPE0 ?_
    rw [tokEq,guard_true]
    refine iteI (fun g1=>?_) (fun g1=>j3 _ _ _ ((decide_eq_false (fun hc=>g1 (decide_eq_true hc.2.1))).symm) hP hK)
    have g1:=of_decide_eq_true g1
    refine ldP 1 hP rfl ?_
    refine at2 E.toPE0 hP ?_
    rw [fld0,bin_seql,beqD,guard_true]
    refine iteI (fun g2=>?_) (fun g2=>j3 _ _ _ ((decide_eq_false (fun hc=>g2 (decide_eq_true hc.2.2.1))).symm) hP hK)
    have g2:=of_decide_eq_true g2
    refine ldP 1 hP rfl ?_
    refine at3 E.toPE0 hP ?_
    refine op_call E.toPE0 ?_
    rw [tokEq]
    refine j3 _ _ _ ?_ hP hK
    rw [Bool.eq_iff_iff,decide_eq_true_eq,decide_eq_true_eq]
    exact ⟨fun h=>⟨g0,g1,g2,h⟩,fun h=>h.2.2.2⟩
def blockI (r:Rec) (σ0:AS) (l:Nat) (Y:Objs) (K:AV->AS->Prop) (X:PV->AS->Prop) (t2:Nat):Nat × List NTree × List Tok × AV->AS->Prop:=fun a τ =>
  (∃ M,RowFN a.2.2.2 M a.2.1/\PsAt σ0 τ l a.2.2.1 ((VarZ t2 :: Y) ++ M))/\a.2.1.length + a.1 <= 900001/\okR (blockL r a.1 a.2.1 a.2.2.1) (fun a r=>∀ σ',PsAt σ0 σ' l r Y->K (nodeAV a) σ') (∀ σ',σ0.sub σ'->X wrongV σ')
theorem T_yBlock_ok (E:PE2 env) (hs:env 127=T_NB r.statement) (hf:r.fuel <= 900000) (h:T_N (blockS r) args σ K X):bodyD PS env an78 Tryz.f78 args σ K X:=by
  obtain ⟨σ0,l,ts,Y,rfl,hP,hK⟩:=h
  rw [<- S78_eq env,S78]
  simp only [lock_eq]
  unfold blockS at hK
  rw [okR_bnd] at hK
  refine allocN hP (fun t2 σ1 hP=>?_)
  refine op_call E.toPE0 ?_
  refine yneed_call E.need hP (opT_ne _) (okR_mono hK (fun _ ts hK σ2 hP=>?_) panX)
  refine yends_call E.ends hP (fun σ9 hP=>?_)
  refine lp78_4 (fun (a:Nat × List NTree × List Tok × AV) _=>a.1) (blockI r σ0 l Y K X t2) (fun a=>a.2.2.2) (r.fuel,[],endsS ts,.nilS) ⟨⟨[],.inl (by show RowV PS 50 .nilS [] 0 (flatN []); rw [flatN_nil]; exact RowV.nil PS 50),by rw [List.append_nil]; exact hP⟩,by simp only [List.length_nil]; omega,hK⟩ ?_
  clear hP hK
  rintro ⟨f,a,ts,v⟩ τ ⟨⟨M,hG,hP⟩,hn,hK⟩
  simp only at hG hP hn hK
  cases f with
  | zero=>exact hK.elim
  | succ f =>
  rw [blockL] at hK
  unfold L78_4
  simp only [lock_eq]
  refine op_call E.toPE0 ?_
  refine ytake_call E.take hP (opT_ne _) (fun g σ2 hP=>?_) (fun g σ2 hP=>?_)
  · rw [if_pos g] at hK
    simp only [un_not,cond_bool,Bool.not_true,Bool.false_eq_true,if_false]
    refine ynode_call E.node hG.toPV ?_
    refine storeZ (A:=[]) hP (fun σ7 hP=>?_)
    refine ldN 0 hP rfl ?_
    exact retV_self (hK _ (hP.part ((List.sublist_append_left _ _).trans (List.sublist_cons_self _ _))))
  · rw [if_neg g,okR_bnd] at hK
    simp only [un_not,cond_bool,Bool.not_false,if_true]
    refine callNB hs hP (okR_mono hK (fun s ts hK σ6 hP=>?_) panX)
    obtain ⟨s,op⟩:=s
    simp only [extractD,List.getElem?_cons_zero,List.getElem?_cons_succ]
    refine allocN hP (fun t4 σ1 hP=>?_)
    refine storeZ (A:=[]) hP (fun σ7 hP=>?_)
    refine ldN 0 hP rfl ?_
    rw [rowN1]
    refine hG.append (Y:=VarN (some 50) t4 s :: VarZ t2 :: Y) hP (by omega) (fun v' M' σ4 hG hP=>?_)
    refine yends_call E.ends hP (fun σ9 hP=>?_)
    have more:∀ τ,PsAt σ0 τ l (endsS ts) ((VarN (some 50) t4 s :: VarZ t2 :: Y) ++ M')->okR (blockL r f (a ++ [s]) (endsS ts)) (fun a r=>∀ σ',PsAt σ0 σ' l r Y->K (nodeAV a) σ') (∀ σ',σ0.sub σ'->X wrongV σ') ->
        ∃ m',m' < f + 1/\Inv (fun a:Nat × List NTree × List Tok × AV=>[AV.addr l 0,.addr t2 0,a.2.2.2]) (fun a _=>a.1) (blockI r σ0 l Y K X t2) m' [.addr l 0,.addr t2 0,v'] τ:=by
      intro τ hP hK
      exact back (f,a ++ [s],endsS ts,v') rfl (Nat.lt_succ_self f) ⟨⟨M',hG,hP.dropN 1⟩,by simp only [List.length_append,List.length_singleton]; omega,hK⟩
    rw [guard_false]
    refine iteI (fun g1=>?_) (fun g1=>?_)
    · rw [if_pos (.inl g1)] at hK
      exact ymust_call E (fun _=>more _ hP hK) (fun h=>absurd h (by decide))
    · rw [un_not,guard_false]
      cases op with
      | false =>
        rw [if_pos (.inr (.inl rfl))] at hK
        rw [if_pos (show (!false)=true from rfl)]
        exact ymust_call E (fun _=>more _ hP hK) (fun h=>absurd h (by decide))
      | true =>
        rw [if_neg (by decide)]
        refine at0 E.toPE0 hP ?_
        refine op_call E.toPE0 ?_
        rw [tokEq]
        refine ymust_call E (fun g2=>?_) (fun g2=>?_)
        · rw [if_pos (.inr (.inr (of_decide_eq_true g2)))] at hK
          exact more _ hP hK
        · rw [if_neg (fun h=>h.elim g1 (fun h=>h.elim (fun h=>absurd (show true=false from h) (by decide)) (fun h=>absurd (decide_eq_true h) (by rw [g2]; decide))))] at hK
          exact ⟨_,sub_refl _,hK _ hP.sub⟩
theorem T_yStatement_ok (E:PE2 env) (hb:env 78=T_N (blockS r)) (hc:env 158=T_NB (choiceS r)) (hp:env 159=T_N (parenS r)) (hbo:env 160=T_NB (bodyS r)) (hl:env 161=T_NB (loopS r)) (hs:env 162=T_N (simpleS r)) (h:T_NB (statementS r) args σ K X):bodyD PS env an127 Tryz.f127 args σ K X:=by
  obtain ⟨σ0,l,ts,Y,rfl,hP,hK⟩:=h
  rw [<- S127_eq env,S127]
  simp only [lock_eq]
  unfold statementS at hK
  refine allocN hP (fun t2 σ1 hP=>?_)
  refine at0 E.toPE0 hP ?_
  refine allocT hP (fun t4 σ3 hP=>?_)
  refine storeT (A:=[]) hP (fun σ4 hP=>?_)
  repeat' first
    | exact trivial
    | with_reducible refine And.intro ?_ ?_
    | refine ldT 0 hP rfl ?_
    | refine op_call E.toPE0 ?_
    | rw [tokEq]
  all_goals
    rw [cond_bool]
    refine iteI (fun g1=>?_) (fun g1=>?_)
    · rw [if_pos (of_decide_eq_true g1),okR_bnd] at hK
      refine callN hb hP (okR_mono hK (fun e ts hK σ6 hP=>?_) panX)
      refine storeZ (A:=[_]) hP (fun σ7 hP=>?_)
      refine ldN 1 hP rfl ?_
      exact retV_self (hK _ (hP.dropN 2))
    rw [if_neg (fun e=>g1 (decide_eq_true e))] at hK
    refine op_call E.toPE0 ?_
    refine ytake_call E.take hP (opT_ne _) (fun g2 σ5 hP=>?_) (fun g2 σ5 hP=>?_)
    · rw [if_pos g2] at hK
      simp only [cond_bool,if_true]
      refine ynone_call E ?_
      refine storeZ (A:=[_]) hP (fun σ7 hP=>?_)
      refine ldN 1 hP rfl ?_
      exact retV_self (hK _ (hP.dropN 2))
    rw [if_neg g2] at hK
    simp only [cond_bool,Bool.false_eq_true,if_false]
    refine word_call E.toPE0 ?_
    refine ytake_call E.take hP (wordT_ne _) (fun g3 σ5 hP=>?_) (fun g3 σ5 hP=>?_)
    · rw [if_pos (show atS 0 ts=wordT oIf from g3)] at hK
      simp only [cond_bool,if_true]
      refine callNB hc hP (okR_mono hK (fun s ts hK σ6 hP=>?_) panX)
      simp only [extractD,List.getElem?_cons_zero,List.getElem?_cons_succ]
      refine storeZ (A:=[_]) hP (fun σ7 hP=>?_)
      refine ldN 1 hP rfl ?_
      exact retV_self (hK _ (hP.dropN 2))
    rw [if_neg (show ¬ atS 0 ts=wordT oIf from g3)] at hK
    simp only [cond_bool,Bool.false_eq_true,if_false]
    refine word_call E.toPE0 ?_
    refine ytake_call E.take hP (wordT_ne _) (fun g4 σ5 hP=>?_) (fun g4 σ5 hP=>?_)
    · rw [if_pos (show atS 0 ts=wordT oWhile from g4),okR_bnd] at hK
      simp only [cond_bool,if_true]
      refine callN hp hP (okR_mono hK (fun c ts hK σ6 hP=>?_) panX)
      rw [okR_bnd] at hK
      refine allocN hP (fun t5 σ1 hP=>?_)
      refine storeZ (A:=[]) hP (fun σ7 hP=>?_)
      refine callNB hbo hP (okR_mono hK (fun s ts hK σ6 hP=>?_) panX)
      simp only [extractD,List.getElem?_cons_zero,List.getElem?_cons_succ]
      refine allocN hP (fun t6 σ1 hP=>?_)
      refine storeZ (A:=[]) hP (fun σ7 hP=>?_)
      refine ldN 1 hP rfl ?_
      refine ldN 0 hP rfl ?_
      rw [rowN2]
      refine ynode2 E ?_
      refine storeZ (A:=[_,_,_]) hP (fun σ7 hP=>?_)
      refine ldN 3 hP rfl ?_
      exact retV_self (hK _ (hP.dropN 4))
    rw [if_neg (show ¬ atS 0 ts=wordT oWhile from g4)] at hK
    simp only [cond_bool,Bool.false_eq_true,if_false]
    refine word_call E.toPE0 ?_
    refine ytake_call E.take hP (wordT_ne _) (fun g5 σ5 hP=>?_) (fun g5 σ5 hP=>?_)
    · rw [if_pos (show atS 0 ts=wordT oDo from g5),okR_bnd] at hK
      simp only [cond_bool,if_true]
      refine callNB hbo hP (okR_mono hK (fun s ts hK σ6 hP=>?_) panX)
      obtain ⟨s,op⟩:=s
      simp only [extractD,List.getElem?_cons_zero,List.getElem?_cons_succ]
      refine allocN hP (fun t8 σ1 hP=>?_)
      refine storeZ (A:=[]) hP (fun σ7 hP=>?_)
      refine yends_call E.ends hP (fun σ9 hP=>?_)
      rw [guard_false]
      refine iteI (fun g6=>?_) (fun g6=>?_)
      · rw [if_pos (.inl g6),okR_bnd] at hK
        refine ymust_call E (fun _=>?_) (fun h=>absurd h (by decide))
        unfold J127_15
        simp only [lock_eq]
        refine word_call E.toPE0 ?_
        refine yneed_call E.need hP (wordT_ne _) (okR_mono hK (fun _ ts hK σ2 hP=>?_) panX)
        rw [okR_bnd] at hK
        repeat' first
          | exact trivial
          | with_reducible refine And.intro ?_ ?_
          | refine ldN 0 hP rfl ?_
          | refine ldN 1 hP rfl ?_
          | refine ldN 2 hP rfl ?_
          | refine ldN 3 hP rfl ?_
          | refine callN hp hP (okR_mono hK (fun c ts hK σ6 hP=>?_) panX)
          | rw [rowN2]
          | refine ynode2 E ?_
          | refine storeZ (A:=[_,_]) hP (fun σ7 hP=>?_)
          | exact retV_self (hK _ (hP.dropN 3))
      · rw [un_not]
        cases op with
        | false =>
          rw [if_pos (.inr rfl),okR_bnd] at hK
          refine ymust_call E (fun _=>?_) (fun h=>absurd h (by decide))
          unfold J127_15
          simp only [lock_eq]
          refine word_call E.toPE0 ?_
          refine yneed_call E.need hP (wordT_ne _) (okR_mono hK (fun _ ts hK σ2 hP=>?_) panX)
          rw [okR_bnd] at hK
          repeat' first
            | exact trivial
            | with_reducible refine And.intro ?_ ?_
            | refine ldN 0 hP rfl ?_
            | refine ldN 1 hP rfl ?_
            | refine ldN 2 hP rfl ?_
            | refine ldN 3 hP rfl ?_
            | refine callN hp hP (okR_mono hK (fun c ts hK σ6 hP=>?_) panX)
            | rw [rowN2]
            | refine ynode2 E ?_
            | refine storeZ (A:=[_,_]) hP (fun σ7 hP=>?_)
            | exact retV_self (hK _ (hP.dropN 3))
        | true =>
          rw [if_neg (fun h=>h.elim g6 (fun h=>absurd (show true=false from h) (by decide)))] at hK
          exact ymust_call E (fun h=>absurd h (by decide)) (fun _=>⟨_,sub_refl _,hK _ hP.sub⟩)
    rw [if_neg (show ¬ atS 0 ts=wordT oDo from g5)] at hK
    simp only [cond_bool,Bool.false_eq_true,if_false]
    refine word_call E.toPE0 ?_
    refine ytake_call E.take hP (wordT_ne _) (fun g6 σ5 hP=>?_) (fun g6 σ5 hP=>?_)
    · rw [if_pos (show atS 0 ts=wordT oFor from g6)] at hK
      simp only [cond_bool,if_true]
      refine callNB hl hP (okR_mono hK (fun s ts hK σ6 hP=>?_) panX)
      simp only [extractD,List.getElem?_cons_zero,List.getElem?_cons_succ]
      refine storeZ (A:=[_]) hP (fun σ7 hP=>?_)
      refine ldN 1 hP rfl ?_
      exact retV_self (hK _ (hP.dropN 2))
    rw [if_neg (show ¬ atS 0 ts=wordT oFor from g6),okR_bnd] at hK
    simp only [cond_bool,Bool.false_eq_true,if_false]
    refine callN hs hP (okR_mono hK (fun e ts hK σ6 hP=>?_) panX)
    refine storeZ (A:=[_]) hP (fun σ7 hP=>?_)
    refine ldN 1 hP rfl ?_
    exact retV_self (hK _ (hP.dropN 2))
end
end Go.AD.Lx
set_option linter.unusedVariables false
set_option linter.unusedSimpArgs false
set_option maxRecDepth 100000
set_option maxHeartbeats 1000000
namespace Go.AD.Lx
open Go.Proofs RowKit
section
variable {env:Env} {args:List AV} {σ0 σ τ:AS} {K:AV->AS->Prop} {X:PV->AS->Prop} {l:Nat} {ts:List Tok} {L Y:Objs} {r:Rec}
def paramsI (σ0:AS) (l:Nat) (Y:Objs) (t2:Nat) (A:List NTree->List Tok->Prop) (x:Prop):Nat × List NTree × List Tok × AV × Bool->AS->Prop:=fun a τ =>
  (∃ M,RowFN a.2.2.2.1 M a.2.1/\PsAt σ0 τ l a.2.2.1 ((VarZ t2 :: Y) ++ M))/\a.2.1.length + a.1 <= 900001 /\
    (if a.2.2.2.2=true then okR (paramsL a.1 a.2.1 a.2.2.1) A x else okR (needS (opT [41]) a.2.2.1) (fun _ ts=>A a.2.1 ts) x)
theorem row_emp {L':Objs}:RowFN .nilS [] []:=.inl (by show RowV PS 50 .nilS [] 0 (flatN []); rw [flatN_nil]; exact RowV.nil PS 50)
theorem T_yFunction_ok (E:PE2 env) (hb:env 78=T_N (blockS r)) (hf:r.fuel <= 900000) (h:T_N (functionS r) args σ K X):bodyD PS env an83 Tryz.f83 args σ K X:=by
  obtain ⟨σ0,l,ts,Y,rfl,hP,hK⟩:=h
  rw [<- S83_eq env,S83]
  simp only [lock_eq]
  unfold functionS at hK
  rw [okR_bnd] at hK
  refine allocN hP (fun t2 σ1 hP=>?_)
  rw [rowS2]
  refine ykind_call E.kind hP (ks:=[kName,kFunc]) rfl (by decide) (by decide) (okR_mono hK (fun name ts hK σ2 hP=>?_) panX)
  rw [okR_bnd] at hK
  refine op_call E.toPE0 ?_
  refine yneed_call E.need hP (opT_ne _) (okR_mono hK (fun _ ts hK σ2 hP=>?_) panX)
  rw [okR_bnd] at hK
  have j12:∀ (v:AV) (a:List NTree) (M:Objs) (us:List Tok) (τ:AS),RowFN v M a->PsAt σ0 τ l us ((VarZ t2 :: Y) ++ M)->okR (bnd (blockS r (nlsS us)) fun b ts=>.ok (.mk kFunc name [.mk oParams [] a,b]) ts) (fun a r=>∀ σ',PsAt σ0 σ' l r Y->K (nodeAV a) σ') (∀ σ',σ0.sub σ'->X wrongV σ')->J83_12 env (.addr l 0) (.addr t2 0) (.pv (.str name)) v τ K X:=by
    intro v a M us τ hG hP hK
    unfold J83_12
    simp only [lock_eq]
    rw [okR_bnd] at hK
    refine ynls_call E.nls hP (fun σ3 hP=>?_)
    refine ynode_call E.node hG.toPV ?_
    refine callN hb hP (okR_mono hK (fun b ts hK σ6 hP=>?_) panX)
    rw [rowN2]
    refine ynode2 E ?_
    refine storeZ (A:=[]) hP (fun σ7 hP=>?_)
    refine ldN 0 hP rfl ?_
    exact retV_self (hK _ (hP.part ((List.sublist_append_left _ _).trans (List.sublist_cons_self _ _))))
  refine op_call E.toPE0 ?_
  refine ytake_call E.take hP (opT_ne _) (fun g σ2 hP=>?_) (fun g σ2 hP=>?_)
  · rw [if_pos g] at hK
    simp only [un_not,cond_bool,Bool.not_true,Bool.false_eq_true,if_false]
    exact j12 _ [] [] _ _ (row_emp (L':=[])) (by rw [List.append_nil]; exact hP) hK
  · rw [if_neg g] at hK
    simp only [un_not,cond_bool,Bool.not_false,if_true]
    refine lp83_6 (fun (a:Nat × List NTree × List Tok × AV × Bool) _=>2 * a.1 + (if a.2.2.2.2=true then 1 else 0)) (paramsI σ0 l Y t2 _ _) (fun a=>a.2.2.2.1) (fun a=>.pv (.bool a.2.2.2.2)) (r.fuel,[],ts,.nilS,true) ⟨⟨[],row_emp (L':=[]),by rw [List.append_nil]; exact hP⟩,by simp only [List.length_nil]; omega,by rw [if_pos rfl]; exact hK⟩ ?_
    clear hP hK
    rintro ⟨f,a,ts,v,m⟩ τ ⟨⟨M,hG,hP⟩,hn,hK⟩
    simp only at hG hP hn hK
    unfold L83_6
    simp only [lock_eq]
    cases m with
    | false =>
      rw [if_neg (by decide)] at hK
      simp only [cond_bool,Bool.false_eq_true,if_false]
      refine op_call E.toPE0 ?_
      refine yneed_call E.need hP (opT_ne _) (okR_mono hK (fun _ ts hK σ2 hP=>?_) panX)
      exact j12 v a M _ _ hG hP hK
    | true =>
      rw [if_pos rfl] at hK
      cases f with
      | zero=>exact hK.elim
      | succ f =>
      rw [paramsL,okR_bnd] at hK
      simp only [cond_bool,if_true]
      rw [len_of (by rw [T.el23]; rfl) hG.toPV]
      simp only [bin_gtr,cond_bool]
      have fin:∀ (us:List Tok) (τ:AS),us=(if a=[] then ts else nlsS ts)->PsAt σ0 τ l us ((VarZ t2 :: Y) ++ M)->J83_10 env (Inv (fun a:Nat × List NTree × List Tok × AV × Bool=>[AV.addr l 0,.addr t2 0,.pv (.str name),a.2.2.2.1,.pv (.bool a.2.2.2.2)]) (fun a _=>2 * a.1 + (if a.2.2.2.2=true then 1 else 0)) (paramsI σ0 l Y t2 (fun ls ts=>okR (bnd (blockS r (nlsS ts)) fun b ts=>.ok (NTree.mk kFunc name [.mk oParams [] ls,b]) ts) (fun a r=>∀ σ',PsAt σ0 σ' l r Y->K (nodeAV a) σ') (∀ σ',σ0.sub σ'->X wrongV σ')) (∀ σ',σ0.sub σ'->X wrongV σ'))) (2 * (f + 1) + 1) (.addr l 0) (.addr t2 0) (.pv (.str name)) v τ K X:=by
        intro us τ hu hP
        rw [<- hu] at hK
        unfold J83_10
        simp only [lock_eq]
        rw [rowS1]
        refine ykind_call E.kind hP (ks:=[kName]) rfl (by decide) (by decide) (okR_mono hK (fun x ts hK σ2 hP=>?_) panX)
        refine ynode0 E ?_
        rw [rowN1]
        refine hG.append hP (by omega) (fun v' M' σ4 hG hP=>?_)
        refine op_call E.toPE0 ?_
        refine ytake_call E.take hP (opT_ne _) (fun g σ2 hP=>?_) (fun g σ2 hP=>?_)
        · rw [if_pos g] at hK
          exact back (f,_,_,v',true) rfl (by simp only [if_true]; omega) ⟨⟨M',hG,hP⟩,by simp only [List.length_append,List.length_singleton]; omega,by rw [if_pos rfl]; exact hK⟩
        · rw [if_neg g,okR_bnd] at hK
          exact back (f,_,_,v',false) rfl (by simp only [Bool.false_eq_true,if_false]; omega) ⟨⟨M',hG,hP⟩,by simp only [List.length_append,List.length_singleton]; omega,by rw [if_neg (show ¬ false=true by decide)]; exact hK⟩
      refine iteI (fun g1=>?_) (fun g1=>?_)
      · have g1:a ≠ []:=by
          rintro rfl
          exact absurd (of_decide_eq_true g1) (by decide)
        refine ynls_call E.nls hP (fun σ3 hP=>?_)
        exact fin _ _ (by rw [if_neg g1]) hP
      · have g1:a=[]:=by
          cases a with
          | nil=>rfl
          | cons x a=>exact absurd (decide_eq_true (show (0:Int) < ((x :: a).length:Nat) by rw [List.length_cons]; omega)) g1
        exact fin _ _ (by rw [if_pos g1]) hP
theorem T_yItem1_ok (E:PE2 env) (hb:env 78=T_N (blockS r)) (h:T_CNB (blkS r) args σ K X):bodyD PS env an77 Tryz.f77 args σ K X:=by
  obtain ⟨σ0,l,ts,Y,t,rfl,hm,hP,hK⟩:=h
  rw [<- S77_eq env,S77]
  simp only [lock_eq]
  unfold blkS at hK
  refine allocN hP (fun t1 σ1 hP=>?_)
  refine ldPm hP (List.mem_cons_of_mem _ hm) ?_
  refine at0 E.toPE0 hP ?_
  refine op_call E.toPE0 ?_
  rw [tokEq,cond_bool]
  refine iteI (fun g=>?_) (fun g=>?_)
  · rw [if_pos (of_decide_eq_true g),okR_bnd] at hK
    refine ldPm hP (List.mem_cons_of_mem _ hm) ?_
    refine callN hb hP (okR_mono hK (fun e ts hK σ6 hP=>?_) panX)
    refine storeZ (A:=[]) hP (fun σ7 hP=>?_)
    refine ldN 0 hP rfl ?_
    exact retV_self (hK _ (hP.dropN 1))
  · rw [if_neg (fun e=>g (decide_eq_true e))] at hK
    refine ynone_call E ?_
    refine storeZ (A:=[]) hP (fun σ7 hP=>?_)
    refine ldN 0 hP rfl ?_
    exact retV_self (hK _ (hP.dropN 1))
theorem T_yItem_ok (E:PE2 env) (he:env 84=T_E r.expr) (hb:env 78=T_N (blockS r)) (hf:env 83=T_N (functionS r)) (h1:env 77=T_CNB (blkS r)) (h:T_NB (itemS r) args σ K X):bodyD PS env an37 Tryz.f37 args σ K X:=by
  obtain ⟨σ0,l,ts,Y,rfl,hP,hK⟩:=h
  rw [<- S37_eq env,S37]
  simp only [lock_eq]
  unfold itemS at hK
  refine boxP hP (fun t1 σ1 hP=>?_)
  refine allocN hP (fun t2 σ1 hP=>?_)
  by_cases g1:atS 0 ts=wordT oBegin
  · rw [if_pos g1,okR_bnd] at hK
    repeat' first
      | exact trivial
      | with_reducible refine And.intro ?_ ?_
      | refine ldN 0 hP rfl ?_
      | refine ldP 1 hP rfl ?_
      | refine word_call E.toPE0 ?_
      | refine ytakeT E.take hP g1 (wordT_ne _) (fun σ5 hP=>?_)
      | simp only [cond_bool,if_true]
      | refine callN hb hP (okR_mono hK (fun e ts hK σ6 hP=>?_) panX)
      | rw [rowN1]
      | refine ynode1 E ?_
      | refine storeZ (A:=[]) hP (fun σ7 hP=>?_)
      | exact retV_self (hK _ (hP.dropN 2))
  rw [if_neg g1] at hK
  by_cases g2:atS 0 ts=wordT oEnd
  · rw [if_pos g2,okR_bnd] at hK
    repeat' first
      | exact trivial
      | with_reducible refine And.intro ?_ ?_
      | refine ldN 0 hP rfl ?_
      | refine ldP 1 hP rfl ?_
      | refine word_call E.toPE0 ?_
      | refine ytakeF E.take hP g1 (wordT_ne _) (fun σ5 hP=>?_)
      | refine ytakeT E.take hP g2 (wordT_ne _) (fun σ5 hP=>?_)
      | simp only [cond_bool,if_true,Bool.false_eq_true,if_false]
      | refine callN hb hP (okR_mono hK (fun e ts hK σ6 hP=>?_) panX)
      | rw [rowN1]
      | refine ynode1 E ?_
      | refine storeZ (A:=[]) hP (fun σ7 hP=>?_)
      | exact retV_self (hK _ (hP.dropN 2))
  rw [if_neg g2] at hK
  by_cases g3:atS 0 ts=wordT oFunction
  · rw [if_pos g3,okR_bnd] at hK
    repeat' first
      | exact trivial
      | with_reducible refine And.intro ?_ ?_
      | refine ldN 0 hP rfl ?_
      | refine ldP 1 hP rfl ?_
      | refine word_call E.toPE0 ?_
      | refine ytakeF E.take hP g1 (wordT_ne _) (fun σ5 hP=>?_)
      | refine ytakeF E.take hP g2 (wordT_ne _) (fun σ5 hP=>?_)
      | refine ytakeT E.take hP g3 (wordT_ne _) (fun σ5 hP=>?_)
      | simp only [cond_bool,if_true,Bool.false_eq_true,if_false]
      | refine callN hf hP (okR_mono hK (fun e ts hK σ6 hP=>?_) panX)
      | refine storeZ (A:=[]) hP (fun σ7 hP=>?_)
      | exact retV_self (hK _ (hP.dropN 2))
  rw [if_neg g3] at hK
  by_cases g4:atS 0 ts=opT [123]
  · rw [if_pos g4,okR_bnd] at hK
    repeat' first
      | exact trivial
      | with_reducible refine And.intro ?_ ?_
      | refine ldN 0 hP rfl ?_
      | refine ldP 1 hP rfl ?_
      | refine word_call E.toPE0 ?_
      | refine ytakeF E.take hP g1 (wordT_ne _) (fun σ5 hP=>?_)
      | refine ytakeF E.take hP g2 (wordT_ne _) (fun σ5 hP=>?_)
      | refine ytakeF E.take hP g3 (wordT_ne _) (fun σ5 hP=>?_)
      | simp only [cond_bool,if_true,Bool.false_eq_true,if_false]
      | refine at0 E.toPE0 hP ?_
      | refine op_call E.toPE0 ?_
      | rw [tokEq,decide_eq_true g4]
      | refine ynone_call E ?_
      | refine callN hb hP (okR_mono hK (fun e ts hK σ6 hP=>?_) panX)
      | rw [rowN2]
      | refine ynode2 E ?_
      | refine storeZ (A:=[]) hP (fun σ7 hP=>?_)
      | exact retV_self (hK _ (hP.dropN 2))
  rw [if_neg g4,okR_bnd] at hK
  repeat' first
    | exact trivial
    | with_reducible refine And.intro ?_ ?_
    | refine ldP 1 hP rfl ?_
    | refine word_call E.toPE0 ?_
    | refine ytakeF E.take hP g1 (wordT_ne _) (fun σ5 hP=>?_)
    | refine ytakeF E.take hP g2 (wordT_ne _) (fun σ5 hP=>?_)
    | refine ytakeF E.take hP g3 (wordT_ne _) (fun σ5 hP=>?_)
    | simp only [cond_bool,if_true,Bool.false_eq_true,if_false]
    | refine at0 E.toPE0 hP ?_
    | refine op_call E.toPE0 ?_
    | rw [tokEq,decide_eq_false g4]
    | refine callE1 he hP (okR_mono hK (fun a ts hK σ6 hP=>?_) panX)
    | refine allocN hP (fun t5 σ1 hP=>?_)
    | refine storeZ (A:=[]) hP (fun σ7 hP=>?_)
    | refine ldP 2 hP rfl ?_
  all_goals
    refine ytake_call E.take hP (opT_ne _) (fun g5 σ5 hP=>?_) (fun g5 σ5 hP=>?_)
    · rw [if_pos g5,okR_bnd] at hK
      simp only [cond_bool,if_true]
      refine ldP 2 hP rfl ?_
      refine ynls_call E.nls hP (fun σ3 hP=>?_)
      refine ldP 2 hP rfl ?_
      refine callE1 he hP (okR_mono hK (fun b ts hK σ6 hP=>?_) panX)
      rw [okR_bnd] at hK
      refine allocN hP (fun t6 σ1 hP=>?_)
      refine storeZ (A:=[]) hP (fun σ7 hP=>?_)
      refine callCNB (n:=77) h1 hP (mem_at (k:=3) rfl) (okR_mono hK (fun c ts hK σ6 hP=>?_) panX)
      simp only [extractD,List.getElem?_cons_zero,List.getElem?_cons_succ]
      refine allocN hP (fun t7 σ1 hP=>?_)
      refine storeZ (A:=[]) hP (fun σ7 hP=>?_)
      refine ldN 2 hP rfl ?_
      refine ldN 1 hP rfl ?_
      refine ldN 0 hP rfl ?_
      rw [rowN3]
      refine ynode3 E ?_
      refine storeZ (A:=[_,_,_]) hP (fun σ7 hP=>?_)
      refine ldN 3 hP rfl ?_
      exact retV_self (hK _ (hP.dropN 5))
    · rw [if_neg g5,okR_bnd] at hK
      simp only [cond_bool,Bool.false_eq_true,if_false]
      refine callCNB (n:=77) h1 hP (mem_at (k:=2) rfl) (okR_mono hK (fun c ts hK σ6 hP=>?_) panX)
      simp only [extractD,List.getElem?_cons_zero,List.getElem?_cons_succ]
      refine allocN hP (fun t9 σ1 hP=>?_)
      refine storeZ (A:=[]) hP (fun σ7 hP=>?_)
      refine ldN 1 hP rfl ?_
      refine ldN 0 hP rfl ?_
      rw [rowN2]
      refine ynode2 E ?_
      refine storeZ (A:=[_,_]) hP (fun σ7 hP=>?_)
      refine ldN 2 hP rfl ?_
      exact retV_self (hK _ (hP.dropN 4))
end
end Go.AD.Lx
