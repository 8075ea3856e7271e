import Derived.Test.YtjgjmpophpifgaaGreatDoorM22
import Derived.Test.YtjgjmpophpifgaaGreatDoorM7
set_option linter.unusedVariables false
set_option linter.unusedSimpArgs false
set_option maxRecDepth 100000
namespace Go.AD.Lx
open Go.Proofs RowKit
section
variable {env:Env} {args:List AV} {σ0 σ τ:AS} {K:AV->AS->Prop} {X:PV->AS->Prop} {L Y M A B:Objs} {t F V:Nat} {fs:List NTree} {bad:Bool} {rs l1 l2:List VR} {fl:Marks} {r:VR} {E:List Ev}
def NS (σ0 σ:AS) (t F V:Nat) (fs:List NTree) (L:Objs) (E:List Ev):Prop:=∃ bad rs fl,NM σ0 σ t F V fs bad rs fl L/\Told E rs fl/\(bad=true ↔ Ev.bad ∈ E)
theorem NS.part {L':Objs} (h:NS σ0 σ t F V fs L E) (hs:L'.Sublist L):NS σ0 σ t F V fs L' E:=by
  obtain ⟨bad,rs,fl,h1,h2,h3⟩:=h
  exact ⟨bad,rs,fl,h1.part hs,h2,h3⟩
theorem NM.allocN {KS:AV->AS->Prop} (h:NM σ0 σ t F V fs bad rs fl L) (hK:∀ i σ',NM σ0 σ' t F V fs bad rs fl ((i,.cells zeroN (some 50)) :: L)->KS (.addr i 0) σ'):allocD PS σ 50 KS :=
  alloc_of T.zo50 rfl (fun i hi=>hK i _ (h.alloc hi _))
theorem NM.storeN {KS:AS->Prop} {i:Nat} {v:Option TypeId} {a b c:AV} {n:NTree} (h:NM σ0 σ t F V fs bad rs fl ((i,.cells [a,b,c] v) :: L)) (hK:∀ σ',NM σ0 σ' t F V fs bad rs fl (boxV i v n :: L)->KS σ'):storeD PS σ 50 (.addr i 0) (nodeAV n) KS:=by
  have hg:=h.at (i:=i) (o:=.cells [a,b,c] v) (by simp)
  rw [storeD]
  simp only [hg]
  refine ⟨T.hT50,by rw [T.sz50]; exact node_len _,node_ok _,by rw [node_len]; exact Nat.le_refl _,?_⟩
  have e1:setAll [a,b,c] 0 (nodeAV n).cells=[.pv (.str n.op),.pv (.str n.text),.pv (.lst n.kids.length (flatN n.kids))]:=by rw [nodeCellsD]; rfl
  rw [e1]
  exact hK _ (NM.turn (A:=[]) (p:=(i,.cells [a,b,c] v)) h)
theorem NM.storeZ {KS:AS->Prop} {i:Nat} {v:Option TypeId} {a b c:AV} (h:NM σ0 σ t F V fs bad rs fl ((i,.cells [a,b,c] v) :: L)) (hK:∀ σ',NM σ0 σ' t F V fs bad rs fl ((i,.cells zeroN v) :: L)->KS σ'):storeD PS σ 50 (.addr i 0) (.agg zeroN) KS:=by
  have hg:=h.at (i:=i) (o:=.cells [a,b,c] v) (by simp)
  rw [storeD]
  simp only [hg]
  refine ⟨T.hT50,by rw [T.sz50]; rfl,rfl,by simp [AV.cells,zeroN],?_⟩
  have e1:setAll [a,b,c] 0 (AV.agg zeroN).cells=zeroN:=rfl
  rw [e1]
  exact hK _ (NM.turn (A:=[]) (p:=(i,.cells [a,b,c] v)) h)
theorem NM.boxN {KS:AV->AS->Prop} {n:NTree} (h:NM σ0 σ t F V fs bad rs fl L) (hK:∀ i σ',NM σ0 σ' t F V fs bad rs fl (boxV i none n :: L)->KS (.addr i 0) σ'):boxD σ (nodeAV n) KS:=by
  refine ⟨node_ok _,fun i hi=>?_⟩
  rw [nodeCellsD]
  exact hK i _ (h.alloc hi _)
theorem NM.ldF {KV:AV->Prop} (h:NM σ0 σ t F V fs bad rs fl L) (hK:KV (.amap F)):loadD PS σ 56 (.addr t 0) KV:=by
  rw [T.ld56,h.gT,ldM_cells]
  exact ⟨_,rfl,hK⟩
theorem NM.ldText {KV:AV->Prop} {i:Nat} {v:Option TypeId} {n:NTree} (h:NM σ0 σ t F V fs bad rs fl L) (hi:boxV i v n ∈ L) (hK:KV (.pv (.str n.text))):loadD PS σ 9 (.addr i 1) KV:=by
  rw [T.ld9,h.at hi,ldM_cells]
  exact ⟨_,rfl,hK⟩
theorem NM.ldOp {KV:AV->Prop} {i:Nat} {v:Option TypeId} {n:NTree} (h:NM σ0 σ t F V fs bad rs fl L) (hi:boxV i v n ∈ L) (hK:KV (.pv (.str n.op))):loadD PS σ 9 (.addr i 0) KV:=by
  rw [T.ld9,h.at hi,ldM_cells]
  exact ⟨_,rfl,hK⟩
theorem NM.ldKids {KV:AV->Prop} {i:Nat} {v:Option TypeId} {n:NTree} (h:NM σ0 σ t F V fs bad rs fl L) (hi:boxV i v n ∈ L) (hK:KV (rowN n.kids)):loadD PS σ 23 (.addr i 2) KV:=by
  rw [T.ld23,h.at hi,ldM_cells]
  exact ⟨_,rfl,hK⟩
theorem NM.ldBox {KV:AV->Prop} {i:Nat} {v:Option TypeId} {n:NTree} (h:NM σ0 σ t F V fs bad rs fl L) (hi:boxV i v n ∈ L) (hK:KV (nodeAV n)):loadD PS σ 50 (.addr i 0) KV:=loadBox (h.at hi) hK
theorem NM.look {KV:AV->Prop} {x:Bytes} {g:NTree} (h:NM σ0 σ t F V fs bad rs fl L) (hf:funF fs x=some g) (hK:KV (.tuple [nodeAV g,.pv (.bool true)])):lookupD PS σ 56 (.amap F) (.pv (.str x)) true KV:=by
  rw [mapLook mapTN keyT zN h.gF,funE_get,hf]
  exact hK
theorem NM.lookZ {KV:AV->Prop} {x:Bytes} (h:NM σ0 σ t F V fs bad rs fl L) (hf:funF fs x=none) (hK:KV (.tuple [.agg zeroN,.pv (.bool false)])):lookupD PS σ 56 (.amap F) (.pv (.str x)) true KV:=by
  rw [mapLook mapTN keyT zN h.gF,funE_get,hf]
  exact hK
theorem ext0 {KV:AV->Prop} {a b:AV} (hK:KV a):extractD (.tuple [a,b]) 0 KV:=hK
theorem ext1 {KV:AV->Prop} {a b:AV} (hK:KV b):extractD (.tuple [a,b]) 1 KV:=hK
theorem par_call {f:FuncId} (h:env f=T_nParams) {n:NTree} (hx:okX n) (hK:∀ σ',σ.sub σ'->K (rowN (paramsN n)) σ'):env f [nodeAV n] σ K X:=by
  rw [h]; exact ⟨n,rfl,hx,hK⟩
theorem rowLen {l:List NTree} {KV:AV->Prop} (hK:KV (.pv (.int .i64 (l.length:Nat)))):lenD PS 23 (rowN l) KV:=by
  unfold rowN; rw [T.lnl23]; exact hK
theorem rowIx {l:List NTree} {i:Nat} (h:i < l.length) {KV:AV->Prop} (hK:KV (.elemP (flatN l) (i * 3))):indexAddrD PS 23 (rowN l) (.pv (.int .i64 (i:Nat))) KV:=by
  unfold rowN; rw [node_ix h]; exact hK
theorem elemN {l:List NTree} {i:Nat} (h:i < l.length) {KV:AV->Prop} (hK:KV (nodeAV l[i])):loadD PS σ 50 (.elemP (flatN l) (i * 3)) KV:=by
  rw [ldK h,kidD h]; exact hK
theorem elemText {l:List NTree} {i:Nat} (h:i < l.length) {KV:AV->Prop} (hK:KV (.pv (.str l[i].text))):loadD PS σ 9 (.elemP (flatN l) (i * 3 + 1)) KV:=by
  rw [T.le9]; exact ⟨_,nc1 h,hK⟩
theorem elemOp {l:List NTree} {i:Nat} (h:i < l.length) {KV:AV->Prop} (hK:KV (.pv (.str l[i].op))):loadD PS σ 9 (.elemP (flatN l) (i * 3)) KV:=by
  rw [T.le9]; exact ⟨_,nc0 h,hK⟩
def T_nNode (m:Nat):Tr:=fun args σ K _=>∃ (σ0:AS) (t F V:Nat) (fs:List NTree) (L:Objs) (E:List Ev) (n f:NTree),args=[.addr t 0,nodeAV n,nodeAV f]/\depthN n < m/\okX n/\okX f/\(∀ g ∈ fs,okX g)/\E.length + 3 * wN n <= 400000000 /\
  NS σ0 σ t F V fs L E/\∀ σ',NS σ0 σ' t F V fs L (E ++ evN fs f n)->K (.tuple []) σ'
def T_nCall (m:Nat):Tr:=fun args σ K _=>∃ (σ0:AS) (t F V:Nat) (fs:List NTree) (L:Objs) (E:List Ev) (n f:NTree),args=[.addr t 0,nodeAV n,nodeAV f]/\depthN n <= m/\okX n/\okX f/\(∀ g ∈ fs,okX g)/\E.length + 3 * wN n <= 400000000 /\
  NS σ0 σ t F V fs L E/\∀ σ',NS σ0 σ' t F V fs L (E ++ (match funF fs n.text with
    | none=>[.bad]
    | some g=>if (paramsN g).length < n.kids.length then [.bad] else evAs fs f g n.kids (paramsN g)))->K (.tuple []) σ'
theorem evAs_snoc (f g k p:NTree):∀ (ks ps:List NTree),ks.length=ps.length->evAs fs f g (ks ++ [k]) (ps ++ [p])=evAs fs f g ks ps ++ (if k.op=oVar then [.link (fullN f k.text) (fullN g p.text)] else .sc (fullN g p.text) :: evN fs f k)
  | [],[],_=>by
    have e0:evAs fs f g [] []=[]:=by unfold evAs; rfl
    rw [List.nil_append,List.nil_append,evAs,e0,List.append_nil,List.nil_append]
  | k' :: ks,p' :: ps,h=>by
    rw [List.cons_append,List.cons_append,evAs,evAs,evAs_snoc f g k p ks ps (by simpa using h),List.append_assoc]
theorem evAs_take (f g:NTree):∀ (ks ps:List NTree),evAs fs f g ks (ps.take ks.length)=evAs fs f g ks ps
  | [],ps=>by unfold evAs; rfl
  | k :: ks,[]=>by rw [List.take_nil]
  | k :: ks,p :: ps=>by rw [List.length_cons,List.take_succ_cons,evAs,evAs,evAs_take f g ks ps]
theorem wNs_take:∀ (l:List NTree) (i:Nat) (h:i < l.length),wNs (l.take i) + wN l[i] <= wNs l
  | n :: l,0,_=>by rw [List.take_zero,wNs,wNs]; simp only [List.getElem_cons_zero]; omega
  | n :: l,i + 1,h=>by
    have:=wNs_take l i (by simpa using h)
    rw [List.take_succ_cons,wNs,wNs]
    simp only [List.getElem_cons_succ]
    omega
theorem sl1 {a:Nat × AObj}:L.Sublist (a :: L):=List.sublist_cons_self _ _
theorem sl2 {a b:Nat × AObj}:L.Sublist (a :: b :: L):=sl1.trans sl1
theorem sl3 {a b c:Nat × AObj}:L.Sublist (a :: b :: c :: L):=sl2.trans sl1
theorem feN1 {cs:List PV} {off:Nat} {KV:AV->Prop} (hK:KV (.elemP cs (off + 1))):fieldAddrD PS 50 (.elemP cs off) 1 KV:=by rw [T.fe50_1]; exact hK
theorem bad_snoc {e:Ev} (he:e ≠ .bad) (hb:bad=true ↔ Ev.bad ∈ E):bad=true ↔ Ev.bad ∈ E ++ [e]:=by
  rw [hb,mem_snoc]
  exact ⟨.inl,fun h=>h.elim id fun h=>absurd h.symm he⟩
theorem evAs_len' (f g:NTree):∀ l ps:List NTree,(evAs fs f g l ps).length <= 3 * wNs l:=evAs_len fs f g
theorem T_nCall_ok {m:Nat} (h1:env 64=T_nParams) (h2:env 66=T_nVariable) (h3:env 97=T_nLink) (h4:env 21=T_nNode m) (h:T_nCall m args σ K X):bodyD PS env an65 Tryz.f65 args σ K X:=by
  obtain ⟨σ0,t,F,V,fs,L,E,n,f,rfl,hd,hn,hf,hfs,hE,⟨bad,rs,fl,hN,hT,hb⟩,hK⟩:=h
  rw [<- S65_eq env,S65]
  simp only [lock_eq]
  refine hN.boxN (fun t4 σ1 hN=>?_)
  refine hN.boxN (fun t5 σ2 hN=>?_)
  have j3t:∀ (t6:Nat) (o:AObj) (τ:AS),NM σ0 τ t F V fs bad rs fl ((t6,o) :: boxV t5 none f :: boxV t4 none n :: L)->(match funF fs n.text with
    | none=>[.bad]
    | some g=>if (paramsN g).length < n.kids.length then [.bad] else evAs fs f g n.kids (paramsN g))=[Ev.bad]->J65_3 env (.addr t 0) (.addr t4 0) (.addr t5 0) (.addr t6 0) (.pv (.bool true)) τ K X:=by
    intro t6 o τ hN he
    unfold J65_3
    simp only [lock_eq,cond_bool,nil_addr,T.fa59_2,Nat.zero_add]
    refine iteI (fun _=>?_) (fun h=>absurd trivial h)
    refine hN.setBad (fun σ' hN'=>retV_self (hK σ' ?_))
    rw [he]
    exact ⟨true,rs,fl,hN'.part sl3,hT.bad,by simp⟩
  unfold J65_1
  simp only [lock_eq,nil_addr,T.fa59_0,T.fa50_1,Nat.zero_add]
  cases hg:funF fs n.text with
  | none =>
    rw [hg] at j3t
    have j2:∀ (t6:Nat) (τ:AS),NM σ0 τ t F V fs bad rs fl ((t6,.cells zeroN (some 50)) :: boxV t5 none f :: boxV t4 none n :: L)->J65_2 env (.addr t 0) (.addr t4 0) (.addr t5 0) (.addr t6 0) (.pv (.bool false)) τ K X:=by
      intro t6 τ hN
      have:=j3t t6 _ τ hN rfl
      unfold J65_2
      simp only [lock_eq,un_not,guard_false,Bool.not_false,if_true]
      repeat' first
        | exact trivial
        | exact this
        | with_reducible refine And.intro ?_ ?_
    repeat' first
      | exact trivial
      | with_reducible refine And.intro ?_ ?_
      | (with_reducible refine NM.ldF hN ?_)
      | (with_reducible refine NM.ldText (n:=n) (v:=none) hN (by simp) ?_)
      | (with_reducible refine NM.lookZ hN hg ?_)
      | (with_reducible refine ext0 ?_)
      | (with_reducible refine ext1 ?_)
      | (with_reducible refine NM.allocN hN ?_; intro t6 σ6 hN)
      | (with_reducible refine NM.storeZ hN ?_; intro σ7 hN; exact j2 _ _ hN)
  | some g =>
    rw [hg] at j3t hK
    dsimp only at j3t hK
    obtain ⟨hgm,hgt⟩:g ∈ fs/\g.text=n.text:=by
      unfold funF at hg
      have hh:=List.find?_some hg
      exact ⟨List.mem_of_find?_eq_some hg,beq_iff_eq.1 hh⟩
    have hgx:=hfs g hgm
    have hpl:=paramsOk hgx
    have hkl:=okX_kids hn
    have j4:∀ (t6:Nat) (τ:AS),¬ (paramsN g).length < n.kids.length->NM σ0 τ t F V fs bad rs fl (boxV t6 (some 50) g :: boxV t5 none f :: boxV t4 none n :: L)->J65_4 env (.addr t 0) (.addr t4 0) (.addr t5 0) (.addr t6 0) τ K X:=by
      intro t6 τ hle hN
      rw [if_neg hle] at hK
      unfold J65_4
      simp only [lock_eq,T.fa50_2,Nat.zero_add]
      refine NM.ldKids (n:=n) (v:=none) hN (by simp) ?_
      refine rowLen ?_
      unfold J65_5
      refine lp65_5 (fun (i:Nat) _=>n.kids.length - i) (fun i τ=>i <= n.kids.length/\NS σ0 τ t F V fs (boxV t6 (some 50) g :: boxV t5 none f :: boxV t4 none n :: L) (E ++ evAs fs f g (n.kids.take i) ((paramsN g).take i))) (fun i=>.pv (.int .i64 (i:Nat))) 0 ⟨Nat.zero_le _,bad,rs,fl,hN,?_⟩ ?_
      · have e0:evAs fs f g (n.kids.take 0) ((paramsN g).take 0)=[]:=by rw [List.take_zero,List.take_zero]; unfold evAs; rfl
        rw [e0,List.append_nil]
        exact ⟨hT,hb⟩
      clear hN hT hb j3t
      rintro i τ ⟨hi,bad,rs,fl,hN,hT,hb⟩
      unfold L65_5
      simp (disch:=omega) only [lock_eq,bin_lss]
      unfold J65_6
      simp only [cond_bool,decide_eq_true_eq]
      refine iteI (fun g1=>?_) (fun g1=>?_)
      rotate_left
      · have e:i=n.kids.length:=by omega
        subst e
        refine retV_self (hK _ ?_)
        have e1:evAs fs f g (n.kids.take n.kids.length) ((paramsN g).take n.kids.length)=evAs fs f g n.kids (paramsN g):=by
          rw [List.take_length]
          exact evAs_take f g n.kids (paramsN g)
        rw [e1] at hT hb
        exact ⟨bad,rs,fl,hN.part sl3,hT,hb⟩
      have hik:i < n.kids.length:=by omega
      have hip:i < (paramsN g).length:=by omega
      have hkx:okX n.kids[i]:=okXs_mem hkl.2.2 i hik
      have hpx:okX (paramsN g)[i]:=okXs_mem hpl.2 i hip
      have hkt:=(okX_kids hkx).1
      have hpt:=(okX_kids hpx).1
      have hdk:depthN n.kids[i] < depthN n:=by have:=depthNs_mem hik; have:=depthN_kids n; omega
      have hw:=wNs_take n.kids i hik
      have hwn:=wN_kids n
      have hEl:=evAs_len' (fs:=fs) f g (n.kids.take i) ((paramsN g).take i)
      have hEl2:(E ++ evAs fs f g (n.kids.take i) ((paramsN g).take i)).length + 3 * wN n.kids[i] + 1 <= 400000000:=by
        rw [List.length_append]; omega
      have hnext:E ++ evAs fs f g (n.kids.take (i + 1)) ((paramsN g).take (i + 1))=E ++ evAs fs f g (n.kids.take i) ((paramsN g).take i) ++ (if n.kids[i].op=oVar then [.link (fullN f n.kids[i].text) (fullN g (paramsN g)[i].text)] else .sc (fullN g (paramsN g)[i].text) :: evN fs f n.kids[i]):=by
        rw [List.take_succ_eq_append_getElem hik,List.take_succ_eq_append_getElem hip,evAs_snoc f g _ _ _ _ (by rw [List.length_take,List.length_take]; omega),List.append_assoc]
      generalize E ++ evAs fs f g (n.kids.take i) ((paramsN g).take i)=E2 at hT hb hEl2 hnext
      unfold J65_6x
      simp only [lock_eq]
      refine rowIx hik ?_
      refine elemN hik ?_
      refine NM.allocN hN ?_
      intro t9 σ8 hN
      refine NM.storeN hN ?_
      intro σ9 hN
      unfold J65_7
      simp only [lock_eq]
      repeat' first
        | exact trivial
        | with_reducible refine And.intro ?_ ?_
        | (with_reducible refine NM.ldBox (n:=g) (v:=some 50) hN (by simp) ?_)
        | (with_reducible refine par_call h1 hgx ?_; intro σs hs; have hN:=hN.up hs)
        | (with_reducible refine rowIx hip ?_)
        | (with_reducible refine feN1 ?_)
        | (with_reducible refine elemText hip ?_)
        | (with_reducible refine var_call h2 hgx hpt hN hT ?_; intro σv rs fl r hN hT hr hrn hxt)
      all_goals
        unfold J65_8
        simp only [lock_eq,T.fa50_0,Nat.zero_add]
        refine NM.ldOp (n:=n.kids[i]) (v:=some 50) hN (by simp) ?_
        simp only [bin_seql]
        unfold J65_9
        simp only [lock_eq,cond_bool,T.fa50_1,Nat.zero_add]
        refine iteI (fun g2=>?_) (fun g2=>?_)
        · have g2':n.kids[i].op=oVar:=beq_iff_eq.1 g2
          refine NM.ldBox (n:=f) (v:=none) hN (by simp) ?_
          refine NM.ldText (n:=n.kids[i]) (v:=some 50) hN (by simp) ?_
          refine var_call h2 hf hkt hN hT ?_
          intro σ12 rs2 fl2 r2 hN2 hT2 hr2 hrn2 hx2
          obtain ⟨r',hr',hid,hnm⟩:=hx2 r hr
          rw [<- hid,h3]
          refine ⟨σ0,t,F,V,fs,bad,rs2,fl2,_,E2,r2,r',rfl,hr2,hr',by omega,hN2,by rw [hnm,hrn,hrn2]; exact hT2,fun σ13 rs3 hN3 hT3 hx3=>?_⟩
          simp (disch:=omega) only [go_sem]
          refine back (i + 1) rfl (by omega) ⟨by omega,?_⟩
          rw [hnext,if_pos g2']
          rw [hnm,hrn,hrn2] at hT3
          exact ⟨bad,rs3,fl2,hN3.part sl1,hT3,bad_snoc (by intro h; cases h) hb⟩
        · have g2':¬ n.kids[i].op=oVar:=fun h=>g2 (beq_iff_eq.2 h)
          unfold J65_10
          simp only [lock_eq,nil_addr,T.fa65_1,Nat.zero_add]
          refine NM.markS hN hT.ni hr (fun σ14 hN4=>?_)
          have hT4:=hT.markS hr hrn
          unfold J65_11
          simp only [lock_eq]
          refine NM.ldBox (n:=n.kids[i]) (v:=some 50) hN4 (by simp) ?_
          refine NM.ldBox (n:=f) (v:=none) hN4 (by simp) ?_
          rw [h4]
          refine ⟨σ0,t,F,V,fs,_,_,n.kids[i],f,rfl,by omega,hkx,hf,hfs,?_,⟨bad,_,_,hN4,hT4,bad_snoc (by intro h; cases h) hb⟩,fun σ15 hNS=>?_⟩
          · rw [List.length_append,List.length_singleton]; omega
          simp (disch:=omega) only [go_sem]
          refine back (i + 1) rfl (by omega) ⟨by omega,?_⟩
          rw [hnext,if_neg g2']
          have:=hNS.part sl1
          rw [List.append_assoc] at this
          exact this
    have j2:∀ (t6:Nat) (τ:AS),NM σ0 τ t F V fs bad rs fl (boxV t6 (some 50) g :: boxV t5 none f :: boxV t4 none n :: L)->J65_2 env (.addr t 0) (.addr t4 0) (.addr t5 0) (.addr t6 0) (.pv (.bool true)) τ K X:=by
      intro t6 τ hN
      have j3:∀ τ:AS,NM σ0 τ t F V fs bad rs fl (boxV t6 (some 50) g :: boxV t5 none f :: boxV t4 none n :: L)->J65_3 env (.addr t 0) (.addr t4 0) (.addr t5 0) (.addr t6 0) (.pv (.bool (decide ((n.kids.length:Int) > ((paramsN g).length:Int))))) τ K X:=by
        intro τ hN
        by_cases hc:(paramsN g).length < n.kids.length
        · rw [decide_eq_true (by omega:(n.kids.length:Int) > ((paramsN g).length:Int))]
          exact j3t t6 _ τ hN (by rw [if_pos hc])
        · rw [decide_eq_false (by omega:¬ (n.kids.length:Int) > ((paramsN g).length:Int))]
          unfold J65_3
          simp only [cond_bool]
          refine iteI (fun h=>absurd h (by decide)) (fun _=>?_)
          exact j4 t6 τ hc hN
      unfold J65_2
      simp only [lock_eq,un_not,guard_false,Bool.not_true,Bool.false_eq_true,if_false,T.fa50_2,Nat.zero_add]
      repeat' first
        | exact trivial
        | with_reducible refine And.intro ?_ ?_
        | (with_reducible refine NM.ldKids (n:=n) (v:=none) hN (by simp) ?_)
        | (with_reducible refine rowLen ?_)
        | (with_reducible refine NM.ldBox (n:=g) (v:=some 50) hN (by simp) ?_)
        | (with_reducible refine par_call h1 hgx ?_; intro σs hs; have hN:=hN.up hs)
        | (rw [Go.AD.bin_gtr]; exact j3 _ hN)
    repeat' first
      | exact trivial
      | with_reducible refine And.intro ?_ ?_
      | (with_reducible refine NM.ldF hN ?_)
      | (with_reducible refine NM.ldText (n:=n) (v:=none) hN (by simp) ?_)
      | (with_reducible refine NM.look hN hg ?_)
      | (with_reducible refine ext0 ?_)
      | (with_reducible refine ext1 ?_)
      | (with_reducible refine NM.allocN hN ?_; intro t6 σ6 hN)
      | (with_reducible refine NM.storeN hN ?_; intro σ7 hN; exact j2 _ _ hN)
end
end Go.AD.Lx

set_option linter.unusedVariables false
set_option maxRecDepth 100000
namespace Go.AD
open Go.Proofs.Tryz
def an20:An:={ mu:=[],cut:=[(1,[0,1]),(2,[0,16,17,18]),(3,[0,16,17,18,19]),(4,[0,6,16,17,18]),(5,[0,6,16,17,18]),(6,[0,6,8,16,17,18]),(8,[0,6,16,17,18]),(10,[0]),(11,[0,59]),(12,[0,59,61]),(13,[0,10,59]),(14,[0,10,11,59]),(15,[0,11,59,66,67,68]),(16,[0,11,59,66,67,68,69]),(17,[0,11,13,59,66,67,68]),(18,[0,11,13,15,59,66,67,68]),(20,[0,11,13,59,66,67,68])],loop:=[(2,[0,16,17,18]),(11,[0,59]),(15,[0,11,59,66,67,68])],any:=[5,17] }
def J20_8 (env:Env) (I2:Nat->List AV->AS->Prop) (m2:Nat) (t0_j8 n6_j8 t16_j8 t17_j8 t18_j8:AV) (s:AS) (K:AV->AS->Prop) (X:PV->AS->Prop):Prop :=
 (lock nilD t0_j8 fun t48 =>
 (lock fieldAddrD prog 59 t48 0 fun t49 =>
 (lock loadD prog s 56 t49 fun t50 =>
 (lock fieldAddrD prog 50 n6_j8 1 fun t51 =>
 (lock loadD prog s 9 t51 fun t52 =>
 (lock loadD prog s 50 n6_j8 fun t53 =>
 (lock mapUpdateD prog s 56 t50 t52 t53 fun s7 =>
 (lock binD prog .add 3 t18_j8 (.pv (.int .i64 1)) fun t54 =>
 (∃ m',m' < m2/\I2 m' [t0_j8,t16_j8,t17_j8,t54] s7)))))))))
def J20_6 (env:Env) (I2:Nat->List AV->AS->Prop) (m2:Nat) (t0_j6 n6_j6 twice8_j6 t16_j6 t17_j6 t18_j6:AV) (s:AS) (K:AV->AS->Prop) (X:PV->AS->Prop):Prop :=
 (guardD twice8_j6 false
 (lock fieldAddrD prog 50 n6_j6 1 fun t37 =>
 (lock loadD prog s 9 t37 fun t38 =>
 (env 22 [t38] s (fun t39 s6 =>
 (guardD t39 false
 (lock fieldAddrD prog 50 n6_j6 2 fun t42 =>
 (lock loadD prog s6 23 t42 fun t43 =>
 (lock lenD prog 23 t43 fun t44 =>
 (lock binD prog .eql 3 t44 (.pv (.int .i64 0)) fun t45 =>
 (condD t45
 (retV ((.pv (.bool false))) s6 K)
 (J20_8 env I2 m2 (t0_j6) (n6_j6) (t16_j6) (t17_j6) (t18_j6) s6 K X))))))
 (retV ((.pv (.bool false))) s6 K))) (panV X))))
 (retV ((.pv (.bool false))) s K))
def J20_5 (env:Env) (I2:Nat->List AV->AS->Prop) (m2:Nat) (t0_j5 n6_j5 t16_j5 t17_j5 t18_j5:AV) (s:AS) (K:AV->AS->Prop) (X:PV->AS->Prop):Prop :=
 (lock nilD t0_j5 fun t27 =>
 (lock fieldAddrD prog 59 t27 0 fun t28 =>
 (lock fieldAddrD prog 50 n6_j5 1 fun t30 =>
 ((lock loadD prog s 56 t28 fun t29 =>
 ((lock loadD prog s 9 t30 fun t31 =>
 ((lock lookupD prog s 56 t29 t31 true fun t32 =>
 (lock extractD t32 0 fun t33 =>
 (lock extractD t32 1 fun t34 =>
 ((lock allocD prog s 50 fun t7 s19 =>
 ((lock storeD prog s19 50 t7 t33 fun s20 =>
 (J20_6 env I2 m2 (t0_j5) (n6_j5) (t34) (t16_j5) (t17_j5) (t18_j5) s20 K X))/\True))/\True))))/\((lock allocD prog s 50 fun t7 s17 =>
 ((lock lookupD prog s17 56 t29 t31 true fun t32 =>
 (lock extractD t32 0 fun t33 =>
 (lock extractD t32 1 fun t34 =>
 ((lock storeD prog s17 50 t7 t33 fun s18 =>
 (J20_6 env I2 m2 (t0_j5) (n6_j5) (t34) (t16_j5) (t17_j5) (t18_j5) s18 K X))/\True))))/\True))/\True)))/\((lock allocD prog s 50 fun t7 s15 =>
 ((lock loadD prog s15 9 t30 fun t31 =>
 ((lock lookupD prog s15 56 t29 t31 true fun t32 =>
 (lock extractD t32 0 fun t33 =>
 (lock extractD t32 1 fun t34 =>
 ((lock storeD prog s15 50 t7 t33 fun s16 =>
 (J20_6 env I2 m2 (t0_j5) (n6_j5) (t34) (t16_j5) (t17_j5) (t18_j5) s16 K X))/\True))))/\True))/\True))/\True)))/\((lock loadD prog s 9 t30 fun t31 =>
 ((lock loadD prog s 56 t28 fun t29 =>
 ((lock lookupD prog s 56 t29 t31 true fun t32 =>
 (lock extractD t32 0 fun t33 =>
 (lock extractD t32 1 fun t34 =>
 ((lock allocD prog s 50 fun t7 s13 =>
 ((lock storeD prog s13 50 t7 t33 fun s14 =>
 (J20_6 env I2 m2 (t0_j5) (n6_j5) (t34) (t16_j5) (t17_j5) (t18_j5) s14 K X))/\True))/\True))))/\((lock allocD prog s 50 fun t7 s11 =>
 ((lock lookupD prog s11 56 t29 t31 true fun t32 =>
 (lock extractD t32 0 fun t33 =>
 (lock extractD t32 1 fun t34 =>
 ((lock storeD prog s11 50 t7 t33 fun s12 =>
 (J20_6 env I2 m2 (t0_j5) (n6_j5) (t34) (t16_j5) (t17_j5) (t18_j5) s12 K X))/\True))))/\True))/\True)))/\((lock allocD prog s 50 fun t7 s9 =>
 ((lock loadD prog s9 56 t28 fun t29 =>
 ((lock lookupD prog s9 56 t29 t31 true fun t32 =>
 (lock extractD t32 0 fun t33 =>
 (lock extractD t32 1 fun t34 =>
 ((lock storeD prog s9 50 t7 t33 fun s10 =>
 (J20_6 env I2 m2 (t0_j5) (n6_j5) (t34) (t16_j5) (t17_j5) (t18_j5) s10 K X))/\True))))/\True))/\True))/\True)))/\((lock allocD prog s 50 fun t7 s4 =>
 ((lock loadD prog s4 56 t28 fun t29 =>
 ((lock loadD prog s4 9 t30 fun t31 =>
 ((lock lookupD prog s4 56 t29 t31 true fun t32 =>
 (lock extractD t32 0 fun t33 =>
 (lock extractD t32 1 fun t34 =>
 ((lock storeD prog s4 50 t7 t33 fun s8 =>
 (J20_6 env I2 m2 (t0_j5) (n6_j5) (t34) (t16_j5) (t17_j5) (t18_j5) s8 K X))/\True))))/\True))/\True))/\((lock loadD prog s4 9 t30 fun t31 =>
 ((lock loadD prog s4 56 t28 fun t29 =>
 ((lock lookupD prog s4 56 t29 t31 true fun t32 =>
 (lock extractD t32 0 fun t33 =>
 (lock extractD t32 1 fun t34 =>
 ((lock storeD prog s4 50 t7 t33 fun s5 =>
 (J20_6 env I2 m2 (t0_j5) (n6_j5) (t34) (t16_j5) (t17_j5) (t18_j5) s5 K X))/\True))))/\True))/\True))/\True)))/\True))))))
def J20_4 (env:Env) (I2:Nat->List AV->AS->Prop) (m2:Nat) (t0_j4 n6_j4 t16_j4 t17_j4 t18_j4:AV) (s:AS) (K:AV->AS->Prop) (X:PV->AS->Prop):Prop :=
 (lock fieldAddrD prog 50 n6_j4 0 fun t22 =>
 (lock loadD prog s 9 t22 fun t23 =>
 (lock binD prog .neq 9 t23 (.pv (.str [102,117,110,99])) fun t24 =>
 (condD t24
 (lock binD prog .add 3 t18_j4 (.pv (.int .i64 1)) fun t54 =>
 (∃ m',m' < m2/\I2 m' [t0_j4,t16_j4,t17_j4,t54] s))
 (J20_5 env I2 m2 (t0_j4) (n6_j4) (t16_j4) (t17_j4) (t18_j4) s K X)))))
def J20_3x (env:Env) (I2:Nat->List AV->AS->Prop) (m2:Nat) (t0_j3 t16_j3 t17_j3 t18_j3 t19_j3:AV) (s:AS) (K:AV->AS->Prop) (X:PV->AS->Prop):Prop :=
 (lock indexAddrD prog 23 t16_j3 t18_j3 fun t20 =>
 (lock loadD prog s 50 t20 fun t21 =>
 (lock allocD prog s 50 fun t6 s2 =>
 (lock storeD prog s2 50 t6 t21 fun s3 =>
 (J20_4 env I2 m2 (t0_j3) (t6) (t16_j3) (t17_j3) (t18_j3) s3 K X)))))
def J20_20 (env:Env) (I11:Nat->List AV->AS->Prop) (m11:Nat) (I15:Nat->List AV->AS->Prop) (m15:Nat) (t0_j20 seen11_j20 p13_j20 t59_j20 t66_j20 t67_j20 t68_j20:AV) (s:AS) (K:AV->AS->Prop) (X:PV->AS->Prop):Prop :=
 (lock fieldAddrD prog 50 p13_j20 1 fun t95 =>
 (lock loadD prog s 9 t95 fun t96 =>
 (lock mapUpdateD prog s 33 seen11_j20 t96 (.pv (.bool true)) fun s34 =>
 (lock binD prog .add 3 t68_j20 (.pv (.int .i64 1)) fun t97 =>
 (∃ m',m' < m15/\I15 m' [t0_j20,seen11_j20,t59_j20,t66_j20,t67_j20,t97] s34)))))
def J20_18 (env:Env) (I11:Nat->List AV->AS->Prop) (m11:Nat) (I15:Nat->List AV->AS->Prop) (m15:Nat) (t0_j18 seen11_j18 p13_j18 is15_j18 t59_j18 t66_j18 t67_j18 t68_j18:AV) (s:AS) (K:AV->AS->Prop) (X:PV->AS->Prop):Prop :=
 (guardD is15_j18 false
 (lock fieldAddrD prog 50 p13_j18 1 fun t85 =>
 (lock loadD prog s 9 t85 fun t86 =>
 (lock lookupD prog s 33 seen11_j18 t86 false fun t87 =>
 (guardD t87 false
 (lock fieldAddrD prog 50 p13_j18 1 fun t90 =>
 (lock loadD prog s 9 t90 fun t91 =>
 (env 22 [t91] s (fun t92 s33 =>
 (condD t92
 (retV ((.pv (.bool false))) s33 K)
 (J20_20 env I11 m11 I15 m15 (t0_j18) (seen11_j18) (p13_j18) (t59_j18) (t66_j18) (t67_j18) (t68_j18) s33 K X))) (panV X))))
 (retV ((.pv (.bool false))) s K)))))
 (retV ((.pv (.bool false))) s K))
def J20_17 (env:Env) (I11:Nat->List AV->AS->Prop) (m11:Nat) (I15:Nat->List AV->AS->Prop) (m15:Nat) (t0_j17 seen11_j17 p13_j17 t59_j17 t66_j17 t67_j17 t68_j17:AV) (s:AS) (K:AV->AS->Prop) (X:PV->AS->Prop):Prop :=
 (lock nilD t0_j17 fun t74 =>
 (lock fieldAddrD prog 59 t74 0 fun t75 =>
 (lock fieldAddrD prog 50 p13_j17 1 fun t77 =>
 ((lock loadD prog s 56 t75 fun t76 =>
 ((lock loadD prog s 9 t77 fun t78 =>
 ((lock lookupD prog s 56 t76 t78 true fun t79 =>
 (lock extractD t79 0 fun t80 =>
 (lock extractD t79 1 fun t81 =>
 ((lock allocD prog s 50 fun t14 s46 =>
 ((lock storeD prog s46 50 t14 t80 fun s47 =>
 (J20_18 env I11 m11 I15 m15 (t0_j17) (seen11_j17) (p13_j17) (t81) (t59_j17) (t66_j17) (t67_j17) (t68_j17) s47 K X))/\True))/\True))))/\((lock allocD prog s 50 fun t14 s44 =>
 ((lock lookupD prog s44 56 t76 t78 true fun t79 =>
 (lock extractD t79 0 fun t80 =>
 (lock extractD t79 1 fun t81 =>
 ((lock storeD prog s44 50 t14 t80 fun s45 =>
 (J20_18 env I11 m11 I15 m15 (t0_j17) (seen11_j17) (p13_j17) (t81) (t59_j17) (t66_j17) (t67_j17) (t68_j17) s45 K X))/\True))))/\True))/\True)))/\((lock allocD prog s 50 fun t14 s42 =>
 ((lock loadD prog s42 9 t77 fun t78 =>
 ((lock lookupD prog s42 56 t76 t78 true fun t79 =>
 (lock extractD t79 0 fun t80 =>
 (lock extractD t79 1 fun t81 =>
 ((lock storeD prog s42 50 t14 t80 fun s43 =>
 (J20_18 env I11 m11 I15 m15 (t0_j17) (seen11_j17) (p13_j17) (t81) (t59_j17) (t66_j17) (t67_j17) (t68_j17) s43 K X))/\True))))/\True))/\True))/\True)))/\((lock loadD prog s 9 t77 fun t78 =>
 ((lock loadD prog s 56 t75 fun t76 =>
 ((lock lookupD prog s 56 t76 t78 true fun t79 =>
 (lock extractD t79 0 fun t80 =>
 (lock extractD t79 1 fun t81 =>
 ((lock allocD prog s 50 fun t14 s40 =>
 ((lock storeD prog s40 50 t14 t80 fun s41 =>
 (J20_18 env I11 m11 I15 m15 (t0_j17) (seen11_j17) (p13_j17) (t81) (t59_j17) (t66_j17) (t67_j17) (t68_j17) s41 K X))/\True))/\True))))/\((lock allocD prog s 50 fun t14 s38 =>
 ((lock lookupD prog s38 56 t76 t78 true fun t79 =>
 (lock extractD t79 0 fun t80 =>
 (lock extractD t79 1 fun t81 =>
 ((lock storeD prog s38 50 t14 t80 fun s39 =>
 (J20_18 env I11 m11 I15 m15 (t0_j17) (seen11_j17) (p13_j17) (t81) (t59_j17) (t66_j17) (t67_j17) (t68_j17) s39 K X))/\True))))/\True))/\True)))/\((lock allocD prog s 50 fun t14 s36 =>
 ((lock loadD prog s36 56 t75 fun t76 =>
 ((lock lookupD prog s36 56 t76 t78 true fun t79 =>
 (lock extractD t79 0 fun t80 =>
 (lock extractD t79 1 fun t81 =>
 ((lock storeD prog s36 50 t14 t80 fun s37 =>
 (J20_18 env I11 m11 I15 m15 (t0_j17) (seen11_j17) (p13_j17) (t81) (t59_j17) (t66_j17) (t67_j17) (t68_j17) s37 K X))/\True))))/\True))/\True))/\True)))/\((lock allocD prog s 50 fun t14 s31 =>
 ((lock loadD prog s31 56 t75 fun t76 =>
 ((lock loadD prog s31 9 t77 fun t78 =>
 ((lock lookupD prog s31 56 t76 t78 true fun t79 =>
 (lock extractD t79 0 fun t80 =>
 (lock extractD t79 1 fun t81 =>
 ((lock storeD prog s31 50 t14 t80 fun s35 =>
 (J20_18 env I11 m11 I15 m15 (t0_j17) (seen11_j17) (p13_j17) (t81) (t59_j17) (t66_j17) (t67_j17) (t68_j17) s35 K X))/\True))))/\True))/\True))/\((lock loadD prog s31 9 t77 fun t78 =>
 ((lock loadD prog s31 56 t75 fun t76 =>
 ((lock lookupD prog s31 56 t76 t78 true fun t79 =>
 (lock extractD t79 0 fun t80 =>
 (lock extractD t79 1 fun t81 =>
 ((lock storeD prog s31 50 t14 t80 fun s32 =>
 (J20_18 env I11 m11 I15 m15 (t0_j17) (seen11_j17) (p13_j17) (t81) (t59_j17) (t66_j17) (t67_j17) (t68_j17) s32 K X))/\True))))/\True))/\True))/\True)))/\True))))))
def J20_16x (env:Env) (I11:Nat->List AV->AS->Prop) (m11:Nat) (I15:Nat->List AV->AS->Prop) (m15:Nat) (t0_j16 seen11_j16 t59_j16 t66_j16 t67_j16 t68_j16 t69_j16:AV) (s:AS) (K:AV->AS->Prop) (X:PV->AS->Prop):Prop :=
 (lock indexAddrD prog 23 t66_j16 t68_j16 fun t70 =>
 (lock loadD prog s 50 t70 fun t71 =>
 (lock allocD prog s 50 fun t13 s29 =>
 (lock storeD prog s29 50 t13 t71 fun s30 =>
 (J20_17 env I11 m11 I15 m15 (t0_j16) (seen11_j16) (t13) (t59_j16) (t66_j16) (t67_j16) (t68_j16) s30 K X)))))
def J20_16 (env:Env) (I11:Nat->List AV->AS->Prop) (m11:Nat) (I15:Nat->List AV->AS->Prop) (m15:Nat) (t0_j16 seen11_j16 t59_j16 t66_j16 t67_j16 t68_j16 t69_j16:AV) (s:AS) (K:AV->AS->Prop) (X:PV->AS->Prop):Prop :=
 (condD t69_j16
 (J20_16x env I11 m11 I15 m15 (t0_j16) (seen11_j16) (t59_j16) (t66_j16) (t67_j16) (t68_j16) (t69_j16) s K X)
 (∃ m',m' < m11/\I11 m' [t0_j16,t59_j16] s))
def L20_15 (env:Env) (I11:Nat->List AV->AS->Prop) (m11:Nat) (I15:Nat->List AV->AS->Prop) (m15:Nat) (t0_l15 seen11_l15 t59_l15 t66_l15 t67_l15 t68_l15:AV) (s:AS) (K:AV->AS->Prop) (X:PV->AS->Prop):Prop :=
 (lock binD prog .lss 3 t68_l15 t67_l15 fun t69 =>
 (J20_16 env I11 m11 I15 m15 (t0_l15) (seen11_l15) (t59_l15) (t66_l15) (t67_l15) (t68_l15) (t69) s K X))
theorem lp20_15 {α:Type} {env:Env} {I11:Nat->List AV->AS->Prop} {m11:Nat} {t0_l15 seen11_l15 t59_l15 t66_l15 t67_l15:AV} {s:AS} {K:AV->AS->Prop} {X:PV->AS->Prop} (μ:α->AS->Nat) (I:α->AS->Prop) (et68_l15:α->AV) (a0:α) (h0:I a0 s)
 (h:∀ a s,I a s->L20_15 env I11 m11 (Inv (fun a=>[t0_l15,seen11_l15,t59_l15,t66_l15,t67_l15,et68_l15 a]) μ I) (μ a s) t0_l15 seen11_l15 t59_l15 t66_l15 t67_l15 (et68_l15 a) s K X) :
 ∃ I15:Nat->List AV->AS->Prop,(∃ m,I15 m [t0_l15,seen11_l15,t59_l15,t66_l15,t67_l15,et68_l15 a0] s)/\∀ (m:Nat) (x0 x1 x2 x3 x4 x5:AV),∀ s,I15 m [x0,x1,x2,x3,x4,x5] s ->
 L20_15 env I11 m11 I15 m x0 x1 x2 x3 x4 x5 s K X:=by
  refine ⟨Inv (fun a=>[t0_l15,seen11_l15,t59_l15,t66_l15,t67_l15,et68_l15 a]) μ I,⟨_,a0,rfl,rfl,h0⟩,?_⟩
  rintro m x0 x1 x2 x3 x4 x5 s' ⟨a,hv,rfl,hI⟩
  simp only [List.cons.injEq,and_true] at hv
  obtain ⟨rfl,rfl,rfl,rfl,rfl,rfl⟩:=hv
  exact h a s' hI
def J20_15 (env:Env) (I11:Nat->List AV->AS->Prop) (m11:Nat) (t0_j15 seen11_j15 t59_j15 t66_j15 t67_j15 t68_j15:AV) (s:AS) (K:AV->AS->Prop) (X:PV->AS->Prop):Prop :=
 (∃ I15:Nat->List AV->AS->Prop,(∃ m,I15 m [t0_j15,seen11_j15,t59_j15,t66_j15,t67_j15,t68_j15] s)/\∀ (m15:Nat) (t0_l15 seen11_l15 t59_l15 t66_l15 t67_l15 t68_l15:AV),∀ s28,I15 m15 [t0_l15,seen11_l15,t59_l15,t66_l15,t67_l15,t68_l15] s28 ->
 (L20_15 env I11 m11 I15 m15 t0_l15 seen11_l15 t59_l15 t66_l15 t67_l15 t68_l15 s28 K X))
def J20_14 (env:Env) (I11:Nat->List AV->AS->Prop) (m11:Nat) (t0_j14 f10_j14 seen11_j14 t59_j14:AV) (s:AS) (K:AV->AS->Prop) (X:PV->AS->Prop):Prop :=
 (lock loadD prog s 50 f10_j14 fun t65 =>
 (env 64 [t65] s (fun t66 s27 =>
 (lock lenD prog 23 t66 fun t67 =>
 (J20_15 env I11 m11 (t0_j14) (seen11_j14) (t59_j14) (t66) (t67) (.pv (.int .i64 0)) s27 K X))) (panV X)))
def J20_13 (env:Env) (I11:Nat->List AV->AS->Prop) (m11:Nat) (t0_j13 f10_j13 t59_j13:AV) (s:AS) (K:AV->AS->Prop) (X:PV->AS->Prop):Prop :=
 (lock makeMapD prog s 33 none fun t64 s26 =>
 (J20_14 env I11 m11 (t0_j13) (f10_j13) (t64) (t59_j13) s26 K X))
def J20_12x (env:Env) (I11:Nat->List AV->AS->Prop) (m11:Nat) (t0_j12 t59_j12 t61_j12:AV) (s:AS) (K:AV->AS->Prop) (X:PV->AS->Prop):Prop :=
 (lock entryD s t59_j12 fun t62 =>
 (lock extractD t62 1 fun t63 =>
 (lock allocD prog s 50 fun t10 s24 =>
 (lock storeD prog s24 50 t10 t63 fun s25 =>
 (J20_13 env I11 m11 (t0_j12) (t10) (t59_j12) s25 K X)))))
def J20_12 (env:Env) (I11:Nat->List AV->AS->Prop) (m11:Nat) (t0_j12 t59_j12 t61_j12:AV) (s:AS) (K:AV->AS->Prop) (X:PV->AS->Prop):Prop :=
 (condD t61_j12
 (J20_12x env I11 m11 (t0_j12) (t59_j12) (t61_j12) s K X)
 (retV ((.pv (.bool true))) s K))
def L20_11 (env:Env) (I11:Nat->List AV->AS->Prop) (m11:Nat) (t0_l11 t59_l11:AV) (s:AS) (K:AV->AS->Prop) (X:PV->AS->Prop):Prop :=
 (lock nextMapD s t59_l11 fun t60 s23 =>
 (lock extractD t60 0 fun t61 =>
 (J20_12 env I11 m11 (t0_l11) (t59_l11) (t61) s23 K X)))
theorem lp20_11 {α:Type} {env:Env}  {t0_l11 t59_l11:AV} {s:AS} {K:AV->AS->Prop} {X:PV->AS->Prop} (μ:α->AS->Nat) (I:α->AS->Prop) (a0:α) (h0:I a0 s)
 (h:∀ a s,I a s->L20_11 env  (Inv (fun a=>[t0_l11,t59_l11]) μ I) (μ a s) t0_l11 t59_l11 s K X) :
 ∃ I11:Nat->List AV->AS->Prop,(∃ m,I11 m [t0_l11,t59_l11] s)/\∀ (m:Nat) (x0 x1:AV),∀ s,I11 m [x0,x1] s ->
 L20_11 env  I11 m x0 x1 s K X:=by
  refine ⟨Inv (fun a=>[t0_l11,t59_l11]) μ I,⟨_,a0,rfl,rfl,h0⟩,?_⟩
  rintro m x0 x1 s' ⟨a,hv,rfl,hI⟩
  simp only [List.cons.injEq,and_true] at hv
  obtain ⟨rfl,rfl⟩:=hv
  exact h a s' hI
def J20_11 (env:Env)  (t0_j11 t59_j11:AV) (s:AS) (K:AV->AS->Prop) (X:PV->AS->Prop):Prop :=
 (∃ I11:Nat->List AV->AS->Prop,(∃ m,I11 m [t0_j11,t59_j11] s)/\∀ (m11:Nat) (t0_l11 t59_l11:AV),∀ s22,I11 m11 [t0_l11,t59_l11] s22 ->
 (L20_11 env I11 m11 t0_l11 t59_l11 s22 K X))
def J20_10 (env:Env)  (t0_j10:AV) (s:AS) (K:AV->AS->Prop) (X:PV->AS->Prop):Prop :=
 (lock nilD t0_j10 fun t56 =>
 (lock fieldAddrD prog 59 t56 0 fun t57 =>
 (lock loadD prog s 56 t57 fun t58 =>
 (lock rangeMapD prog s 56 t58 fun t59 s21 =>
 (J20_11 env  (t0_j10) (t59) s21 K X)))))
def J20_3 (env:Env) (I2:Nat->List AV->AS->Prop) (m2:Nat) (t0_j3 t16_j3 t17_j3 t18_j3 t19_j3:AV) (s:AS) (K:AV->AS->Prop) (X:PV->AS->Prop):Prop :=
 (condD t19_j3
 (J20_3x env I2 m2 (t0_j3) (t16_j3) (t17_j3) (t18_j3) (t19_j3) s K X)
 (J20_10 env  (t0_j3) s K X))
def L20_2 (env:Env) (I2:Nat->List AV->AS->Prop) (m2:Nat) (t0_l2 t16_l2 t17_l2 t18_l2:AV) (s:AS) (K:AV->AS->Prop) (X:PV->AS->Prop):Prop :=
 (lock binD prog .lss 3 t18_l2 t17_l2 fun t19 =>
 (J20_3 env I2 m2 (t0_l2) (t16_l2) (t17_l2) (t18_l2) (t19) s K X))
theorem lp20_2 {α:Type} {env:Env}  {t0_l2 t16_l2 t17_l2:AV} {s:AS} {K:AV->AS->Prop} {X:PV->AS->Prop} (μ:α->AS->Nat) (I:α->AS->Prop) (et18_l2:α->AV) (a0:α) (h0:I a0 s)
 (h:∀ a s,I a s->L20_2 env  (Inv (fun a=>[t0_l2,t16_l2,t17_l2,et18_l2 a]) μ I) (μ a s) t0_l2 t16_l2 t17_l2 (et18_l2 a) s K X) :
 ∃ I2:Nat->List AV->AS->Prop,(∃ m,I2 m [t0_l2,t16_l2,t17_l2,et18_l2 a0] s)/\∀ (m:Nat) (x0 x1 x2 x3:AV),∀ s,I2 m [x0,x1,x2,x3] s ->
 L20_2 env  I2 m x0 x1 x2 x3 s K X:=by
  refine ⟨Inv (fun a=>[t0_l2,t16_l2,t17_l2,et18_l2 a]) μ I,⟨_,a0,rfl,rfl,h0⟩,?_⟩
  rintro m x0 x1 x2 x3 s' ⟨a,hv,rfl,hI⟩
  simp only [List.cons.injEq,and_true] at hv
  obtain ⟨rfl,rfl,rfl,rfl⟩:=hv
  exact h a s' hI
def J20_2 (env:Env)  (t0_j2 t16_j2 t17_j2 t18_j2:AV) (s:AS) (K:AV->AS->Prop) (X:PV->AS->Prop):Prop :=
 (∃ I2:Nat->List AV->AS->Prop,(∃ m,I2 m [t0_j2,t16_j2,t17_j2,t18_j2] s)/\∀ (m2:Nat) (t0_l2 t16_l2 t17_l2 t18_l2:AV),∀ s1,I2 m2 [t0_l2,t16_l2,t17_l2,t18_l2] s1 ->
 (L20_2 env I2 m2 t0_l2 t16_l2 t17_l2 t18_l2 s1 K X))
def J20_1 (env:Env)  (t0_j1 l1_j1:AV) (s:AS) (K:AV->AS->Prop) (X:PV->AS->Prop):Prop :=
 (lock lenD prog 23 l1_j1 fun t17 =>
 (J20_2 env  (t0_j1) (l1_j1) (t17) (.pv (.int .i64 0)) s K X))
def S20 (env:Env) (t0_a l1_a:AV) (s:AS) (K:AV->AS->Prop) (X:PV->AS->Prop):Prop :=
 (J20_1 env  (t0_a) (l1_a) s K X)
theorem S20_eq (env:Env) (t0_a l1_a:AV) (s:AS) (K:AV->AS->Prop) (X:PV->AS->Prop):S20 env t0_a l1_a s K X=bodyD prog env an20 f20 [t0_a,l1_a] s K X:=by
  unfold S20
  kernel_rfl
theorem S20_ok:(match f20.body with | some c=>okCode an20 prog f20.ntmps c | none=>false)=true:=by kernel_rfl
def an21:An:={ mu:=[],cut:=[(8,[0,4,5,6,12,19]),(18,[0,5,6,78]),(21,[0,5,6])],loop:=[(22,[0,5,96,97,98])] }
def L21_22 (env:Env) (I22:Nat->List AV->AS->Prop) (m22:Nat) (t0_l22 f5_l22 t96_l22 t97_l22 t98_l22:AV) (s:AS) (K:AV->AS->Prop) (X:PV->AS->Prop):Prop :=
 (lock binD prog .lss 3 t98_l22 t97_l22 fun t99 =>
 (condD t99
 (lock indexAddrD prog 23 t96_l22 t98_l22 fun t100 =>
 (lock loadD prog s 50 t100 fun t101 =>
 (lock allocD prog s 50 fun t8 s7 =>
 (lock storeD prog s7 50 t8 t101 fun s8 =>
 (lock loadD prog s8 50 t8 fun t103 =>
 (lock loadD prog s8 50 f5_l22 fun t104 =>
 (env 21 [t0_l22,t103,t104] s8 (fun t105 s9 =>
 (lock binD prog .add 3 t98_l22 (.pv (.int .i64 1)) fun t106 =>
 (∃ m',m' < m22/\I22 m' [t0_l22,f5_l22,t96_l22,t97_l22,t106] s9))) (panV X))))))))
 (retV (.tuple []) s K)))
theorem lp21_22 {α:Type} {env:Env}  {t0_l22 f5_l22 t96_l22 t97_l22:AV} {s:AS} {K:AV->AS->Prop} {X:PV->AS->Prop} (μ:α->AS->Nat) (I:α->AS->Prop) (et98_l22:α->AV) (a0:α) (h0:I a0 s)
 (h:∀ a s,I a s->L21_22 env  (Inv (fun a=>[t0_l22,f5_l22,t96_l22,t97_l22,et98_l22 a]) μ I) (μ a s) t0_l22 f5_l22 t96_l22 t97_l22 (et98_l22 a) s K X) :
 ∃ I22:Nat->List AV->AS->Prop,(∃ m,I22 m [t0_l22,f5_l22,t96_l22,t97_l22,et98_l22 a0] s)/\∀ (m:Nat) (x0 x1 x2 x3 x4:AV),∀ s,I22 m [x0,x1,x2,x3,x4] s ->
 L21_22 env  I22 m x0 x1 x2 x3 x4 s K X:=by
  refine ⟨Inv (fun a=>[t0_l22,f5_l22,t96_l22,t97_l22,et98_l22 a]) μ I,⟨_,a0,rfl,rfl,h0⟩,?_⟩
  rintro m x0 x1 x2 x3 x4 s' ⟨a,hv,rfl,hI⟩
  simp only [List.cons.injEq,and_true] at hv
  obtain ⟨rfl,rfl,rfl,rfl,rfl⟩:=hv
  exact h a s' hI
def J21_21 (env:Env)  (t0_j21 f5_j21 kids6_j21:AV) (s:AS) (K:AV->AS->Prop) (X:PV->AS->Prop):Prop :=
 (lock lenD prog 23 kids6_j21 fun t97 =>
 (∃ I22:Nat->List AV->AS->Prop,(∃ m,I22 m [t0_j21,f5_j21,kids6_j21,t97,(.pv (.int .i64 0))] s)/\∀ (m22:Nat) (t0_l22 f5_l22 t96_l22 t97_l22 t98_l22:AV),∀ s6,I22 m22 [t0_l22,f5_l22,t96_l22,t97_l22,t98_l22] s6 ->
 (L21_22 env I22 m22 t0_l22 f5_l22 t96_l22 t97_l22 t98_l22 s6 K X)))
def J21_18 (env:Env)  (t0_j18 f5_j18 kids6_j18 t78_j18:AV) (s:AS) (K:AV->AS->Prop) (X:PV->AS->Prop):Prop :=
 (condD t78_j18
 (lock loadD prog s 50 f5_j18 fun t80 =>
 (lock indexAddrD prog 23 kids6_j18 (.pv (.int .i64 1)) fun t82 =>
 (lock fieldAddrD prog 50 t82 1 fun t83 =>
 (lock loadD prog s 9 t83 fun t84 =>
 (env 66 [t0_j18,t80,t84] s (fun t85 s16 =>
 (lock nilD t85 fun t86 =>
 (lock fieldAddrD prog 65 t86 2 fun t87 =>
 (lock storeD prog s16 4 t87 (.pv (.bool true)) fun s17 =>
 (lock indexAddrD prog 23 kids6_j18 (.pv (.int .i64 0)) fun t90 =>
 (lock loadD prog s17 50 t90 fun t91 =>
 (lock loadD prog s17 50 f5_j18 fun t92 =>
 (env 21 [t0_j18,t91,t92] s17 (fun t93 s18 =>
 (lock sliceD prog 23 kids6_j18 (some (.pv (.int .i64 2))) none fun t95 =>
 (J21_21 env  (t0_j18) (f5_j18) (t95) s18 K X))) (panV X))))))))) (panV X))))))
 (J21_21 env  (t0_j18) (f5_j18) (kids6_j18) s K X))
def J21_8 (env:Env)  (t0_j8 n4_j8 f5_j8 kids6_j8 t12_j8 t19_j8:AV) (s:AS) (K:AV->AS->Prop) (X:PV->AS->Prop):Prop :=
 (condD t19_j8
 (lock loadD prog s 50 f5_j8 fun t24 =>
 (lock fieldAddrD prog 50 n4_j8 1 fun t25 =>
 (lock loadD prog s 9 t25 fun t26 =>
 (env 66 [t0_j8,t24,t26] s (fun t27 s4 =>
 (lock nilD t27 fun t28 =>
 (lock fieldAddrD prog 65 t28 2 fun t29 =>
 (lock storeD prog s4 4 t29 (.pv (.bool true)) fun s5 =>
 (J21_21 env  (t0_j8) (f5_j8) (kids6_j8) s5 K X))))) (panV X)))))
 (lock binD prog .eql 9 t12_j8 (.pv (.str [118,97,114])) fun t31 =>
 (condD t31
 (lock loadD prog s 50 f5_j8 fun t33 =>
 (lock fieldAddrD prog 50 n4_j8 1 fun t34 =>
 (lock loadD prog s 9 t34 fun t35 =>
 (env 66 [t0_j8,t33,t35] s (fun t36 s10 =>
 (lock nilD t36 fun t37 =>
 (lock fieldAddrD prog 65 t37 1 fun t38 =>
 (lock storeD prog s10 4 t38 (.pv (.bool true)) fun s11 =>
 (J21_21 env  (t0_j8) (f5_j8) (kids6_j8) s11 K X))))) (panV X)))))
 (lock binD prog .eql 9 t12_j8 (.pv (.str [102,111,114,105,110])) fun t40 =>
 (condD t40
 (lock loadD prog s 50 f5_j8 fun t42 =>
 (lock fieldAddrD prog 50 n4_j8 1 fun t43 =>
 (lock loadD prog s 9 t43 fun t44 =>
 (env 66 [t0_j8,t42,t44] s (fun t45 s12 =>
 (lock nilD t45 fun t46 =>
 (lock fieldAddrD prog 65 t46 1 fun t47 =>
 (lock storeD prog s12 4 t47 (.pv (.bool true)) fun s13 =>
 (lock lenD prog 23 kids6_j8 fun t49 =>
 (lock binD prog .gtr 3 t49 (.pv (.int .i64 0)) fun t50 =>
 (condD t50
 (lock loadD prog s13 50 f5_j8 fun t52 =>
 (lock indexAddrD prog 23 kids6_j8 (.pv (.int .i64 0)) fun t54 =>
 (lock fieldAddrD prog 50 t54 1 fun t55 =>
 (lock loadD prog s13 9 t55 fun t56 =>
 (env 66 [t0_j8,t52,t56] s13 (fun t57 s14 =>
 (lock nilD t57 fun t58 =>
 (lock fieldAddrD prog 65 t58 2 fun t59 =>
 (lock storeD prog s14 4 t59 (.pv (.bool true)) fun s15 =>
 (lock sliceD prog 23 kids6_j8 (some (.pv (.int .i64 1))) none fun t61 =>
 (J21_21 env  (t0_j8) (f5_j8) (t61) s15 K X)))))) (panV X))))))
 (J21_21 env  (t0_j8) (f5_j8) (kids6_j8) s13 K X)))))))) (panV X)))))
 (lock binD prog .eql 9 t12_j8 (.pv (.str [98,117,105,108,116])) fun t63 =>
 (condD t63
 (lock fieldAddrD prog 50 n4_j8 1 fun t64 =>
 (lock loadD prog s 9 t64 fun t65 =>
 (lock binD prog .eql 9 t65 (.pv (.str [115,112,108,105,116])) fun t66 =>
 (guardD t66 true
 (lock lenD prog 23 kids6_j8 fun t69 =>
 (lock binD prog .gtr 3 t69 (.pv (.int .i64 1)) fun t70 =>
 (guardD t70 true
 (lock indexAddrD prog 23 kids6_j8 (.pv (.int .i64 1)) fun t74 =>
 (lock fieldAddrD prog 50 t74 0 fun t75 =>
 (lock loadD prog s 9 t75 fun t76 =>
 (lock binD prog .eql 9 t76 (.pv (.str [118,97,114])) fun t77 =>
 (J21_18 env  (t0_j8) (f5_j8) (kids6_j8) (t77) s K X)))))
 (J21_18 env  (t0_j8) (f5_j8) (kids6_j8) (.pv (.bool false)) s K X))))
 (J21_18 env  (t0_j8) (f5_j8) (kids6_j8) (.pv (.bool false)) s K X)))))
 (J21_21 env  (t0_j8) (f5_j8) (kids6_j8) s K X))))))))
def S21 (env:Env) (t0_a n1_a f2_a:AV) (s:AS) (K:AV->AS->Prop) (X:PV->AS->Prop):Prop :=
 (lock boxD s n1_a fun t4 s1 =>
 (lock boxD s1 f2_a fun t5 s2 =>
 (lock fieldAddrD prog 50 t4 2 fun t9 =>
 (lock loadD prog s2 23 t9 fun t10 =>
 (lock fieldAddrD prog 50 t4 0 fun t11 =>
 (lock loadD prog s2 9 t11 fun t12 =>
 (lock binD prog .eql 9 t12 (.pv (.str [99,97,108,108])) fun t14 =>
 (condD t14
 (lock loadD prog s2 50 t4 fun t16 =>
 (lock loadD prog s2 50 t5 fun t17 =>
 (env 65 [t0_a,t16,t17] s2 (fun t18 s3 =>
 (retV (.tuple []) s3 K)) (panV X))))
 (lock binD prog .eql 9 t12 (.pv (.str [101,108,101,109])) fun t20 =>
 (condD t20
 (J21_8 env  (t0_a) (t4) (t5) (t10) (t12) (t20) s2 K X)
 (lock binD prog .eql 9 t12 (.pv (.str [105,110])) fun t21 =>
 (condD t21
 (J21_8 env  (t0_a) (t4) (t5) (t10) (t12) (t21) s2 K X)
 (lock binD prog .eql 9 t12 (.pv (.str [100,101,108,101,116,101])) fun t22 =>
 (J21_8 env  (t0_a) (t4) (t5) (t10) (t12) (t22) s2 K X))))))))))))))
theorem S21_eq (env:Env) (t0_a n1_a f2_a:AV) (s:AS) (K:AV->AS->Prop) (X:PV->AS->Prop):S21 env t0_a n1_a f2_a s K X=bodyD prog env an21 f21 [t0_a,n1_a,f2_a] s K X:=by
  unfold S21
  kernel_rfl
theorem S21_ok:(match f21.body with | some c=>okCode an21 prog f21.ntmps c | none=>false)=true:=by kernel_rfl
end Go.AD

set_option linter.unusedVariables false
set_option linter.unusedSimpArgs false
set_option maxRecDepth 100000
namespace Go.AD.Lx
open Go.Proofs RowKit
section
variable {env:Env} {args:List AV} {σ0 σ τ:AS} {K:AV->AS->Prop} {X:PV->AS->Prop} {L Y M A B:Objs} {t F V:Nat} {fs:List NTree} {bad:Bool} {rs l1 l2:List VR} {fl:Marks} {r:VR} {E:List Ev}
theorem NS.ldText {KV:AV->Prop} {i:Nat} {v:Option TypeId} {n:NTree} (h:NS σ0 σ t F V fs L E) (hi:boxV i v n ∈ L) (hK:KV (.pv (.str n.text))):loadD PS σ 9 (.addr i 1) KV:=by
  obtain ⟨bad,rs,fl,hN,_⟩:=h; exact hN.ldText hi hK
theorem NS.ldOp {KV:AV->Prop} {i:Nat} {v:Option TypeId} {n:NTree} (h:NS σ0 σ t F V fs L E) (hi:boxV i v n ∈ L) (hK:KV (.pv (.str n.op))):loadD PS σ 9 (.addr i 0) KV:=by
  obtain ⟨bad,rs,fl,hN,_⟩:=h; exact hN.ldOp hi hK
theorem NS.ldKids {KV:AV->Prop} {i:Nat} {v:Option TypeId} {n:NTree} (h:NS σ0 σ t F V fs L E) (hi:boxV i v n ∈ L) (hK:KV (rowN n.kids)):loadD PS σ 23 (.addr i 2) KV:=by
  obtain ⟨bad,rs,fl,hN,_⟩:=h; exact hN.ldKids hi hK
theorem NS.ldBox {KV:AV->Prop} {i:Nat} {v:Option TypeId} {n:NTree} (h:NS σ0 σ t F V fs L E) (hi:boxV i v n ∈ L) (hK:KV (nodeAV n)):loadD PS σ 50 (.addr i 0) KV:=by
  obtain ⟨bad,rs,fl,hN,_⟩:=h; exact hN.ldBox hi hK
theorem NS.boxN {KS:AV->AS->Prop} {n:NTree} (h:NS σ0 σ t F V fs L E) (hK:∀ i σ',NS σ0 σ' t F V fs (boxV i none n :: L) E->KS (.addr i 0) σ'):boxD σ (nodeAV n) KS:=by
  obtain ⟨bad,rs,fl,hN,h2⟩:=h; exact hN.boxN fun i σ' h'=>hK i σ' ⟨bad,rs,fl,h',h2⟩
theorem NS.newN {KS:AV->AS->Prop} {n:NTree} (h:NS σ0 σ t F V fs L E) (hK:∀ i σ',NS σ0 σ' t F V fs (boxV i (some 50) n :: L) E->KS (.addr i 0) σ'):allocD PS σ 50 fun a σ1=>storeD PS σ1 50 a (nodeAV n) (KS a):=by
  obtain ⟨bad,rs,fl,hN,h2⟩:=h
  exact hN.allocN fun i σ1 h1=>h1.storeN fun σ2 h3=>hK i σ2 ⟨bad,rs,fl,h3,h2⟩
theorem NS.markA {KS:AS->Prop} {f:NTree} {x:Bytes} (h2:env 66=T_nVariable) (hf:okX f) (hx:x.length <= 1000000) (h:NS σ0 σ t F V fs L E) (hK:∀ σ',NS σ0 σ' t F V fs L (E ++ [.ar (fullN f x)])->KS σ') :
    env 66 [.addr t 0,nodeAV f,.pv (.str x)] σ (fun t27 σ4=>nilD t27 fun t28=>fieldAddrD PS 65 t28 2 fun t29=>storeD PS σ4 4 t29 (.pv (.bool true)) KS) X:=by
  obtain ⟨bad,rs,fl,hN,hT,hb⟩:=h
  refine var_call h2 hf hx hN hT ?_
  intro σ' rs' fl' r hN hT hr hrn hxt
  simp only [nil_addr,T.fa65_2,Nat.zero_add]
  exact NM.markA hN hT.ni hr fun σ2 hN2=>hK σ2 ⟨bad,_,_,hN2,hT.markA hr hrn,bad_snoc (by intro h; cases h) hb⟩
theorem NS.markS {KS:AS->Prop} {f:NTree} {x:Bytes} (h2:env 66=T_nVariable) (hf:okX f) (hx:x.length <= 1000000) (h:NS σ0 σ t F V fs L E) (hK:∀ σ',NS σ0 σ' t F V fs L (E ++ [.sc (fullN f x)])->KS σ') :
    env 66 [.addr t 0,nodeAV f,.pv (.str x)] σ (fun t27 σ4=>nilD t27 fun t28=>fieldAddrD PS 65 t28 1 fun t29=>storeD PS σ4 4 t29 (.pv (.bool true)) KS) X:=by
  obtain ⟨bad,rs,fl,hN,hT,hb⟩:=h
  refine var_call h2 hf hx hN hT ?_
  intro σ' rs' fl' r hN hT hr hrn hxt
  simp only [nil_addr,T.fa65_1,Nat.zero_add]
  exact NM.markS hN hT.ni hr fun σ2 hN2=>hK σ2 ⟨bad,_,_,hN2,hT.markS hr hrn,bad_snoc (by intro h; cases h) hb⟩
theorem flatN_drop:∀ (l:List NTree) (k:Nat),flatN (l.drop k)=(flatN l).drop (k * 3)
  | l,0=>by simp
  | [],k + 1=>by rw [List.drop_nil,flatN,List.drop_nil]
  | n :: l,k + 1=>by
    rw [List.drop_succ_cons,flatN_drop l k]
    show _=(nodeCells n ++ flatN l).drop _
    rw [List.drop_append,nodeCells_len]
    have e1:(nodeCells n).drop ((k + 1) * 3)=[]:=List.drop_eq_nil_of_le (by rw [nodeCells_len]; omega)
    rw [e1,List.nil_append]
    congr 1
    omega
theorem rowCut {l:List NTree} {k:Nat} (h:k <= l.length) {KV:AV->Prop} (hK:KV (rowN (l.drop k))):sliceD PS 23 (rowN l) (some (.pv (.int .i64 (k:Nat)))) none KV:=by
  unfold rowN sliceD
  simp only [T.el23,T.iS50,T.sz50,cutAt,true_and,Int.toNat_natCast]
  refine ⟨by omega,by omega,?_⟩
  have e1:(flatN l).take (l.length * 3)=flatN l:=List.take_of_length_le (by rw [flatN_len]; exact Nat.le_refl _)
  rw [e1,<- flatN_drop]
  have e2:l.length - k=(l.drop k).length:=(List.length_drop ..).symm
  rw [e2]
  exact hK
theorem evNs_snoc (f k:NTree):∀ l:List NTree,evNs fs f (l ++ [k])=evNs fs f l ++ evN fs f k
  | []=>by simp [evNs]
  | n :: l=>by rw [List.cons_append,evNs,evNs,evNs_snoc f k l,List.append_assoc]
theorem evN_eq (f n:NTree):evN fs f n =
    if n.op=oCall then (match funF fs n.text with
      | none=>[.bad]
      | some g=>if (paramsN g).length < n.kids.length then [.bad] else evAs fs f g n.kids (paramsN g))
    else if n.op=oElem \/ n.op=wIn \/ n.op=oDelete then .ar (fullN f n.text) :: evNs fs f n.kids
    else if n.op=oVar then .sc (fullN f n.text) :: evNs fs f n.kids
    else if n.op=oForin then .sc (fullN f n.text) :: (match n.kids with
      | []=>[]
      | k :: ks=>.ar (fullN f k.text) :: evNs fs f ks)
    else if n.op=kBuilt/\n.text=kSplit then (match n.kids with
      | a :: b :: ks=>if b.op=oVar then .ar (fullN f b.text) :: (evN fs f a ++ evNs fs f ks) else evN fs f a ++ (evN fs f b ++ evNs fs f ks)
      | ks=>evNs fs f ks)
    else evNs fs f n.kids:=by
  cases n with
  | mk op text kids=>rw [evN.eq_def]; rfl
theorem T_nNode_ok {m:Nat} (h1:env 66=T_nVariable) (h2:env 65=T_nCall m) (h3:env 21=T_nNode m) (h:T_nNode (m + 1) args σ K X):bodyD PS env an21 Tryz.f21 args σ K X:=by
  obtain ⟨σ0,t,F,V,fs,L,E,n,f,rfl,hd,hn,hf,hfs,hE,hS,hK⟩:=h
  rw [<- S21_eq env,S21]
  simp only [lock_eq]
  refine hS.boxN (fun t4 σ1 hS=>?_)
  refine hS.boxN (fun t5 σ2 hS=>?_)
  have hkl:=okX_kids hn
  have hwn:=wN_kids n
  have hdn:=depthN_kids n
  rw [evN_eq] at hK
  have j21:∀ (ks:List NTree) (τ:AS) (E2:List Ev),okXs ks->ks.length <= 1000000->depthNs ks < m->E2.length + 3 * wNs ks <= 400000000->NS σ0 τ t F V fs (boxV t5 none f :: boxV t4 none n :: L) E2->(∀ σ',NS σ0 σ' t F V fs L (E2 ++ evNs fs f ks)->K (.tuple []) σ')->J21_21 env (.addr t 0) (.addr t5 0) (rowN ks) τ K X:=by
    intro ks τ E2 hx hl hdk hE2 hS hK
    unfold J21_21
    simp only [lock_eq]
    refine rowLen ?_
    refine lp21_22 (fun (i:Nat) _=>ks.length - i) (fun i τ=>i <= ks.length/\NS σ0 τ t F V fs (boxV t5 none f :: boxV t4 none n :: L) (E2 ++ evNs fs f (ks.take i))) (fun i=>.pv (.int .i64 (i:Nat))) 0 ⟨Nat.zero_le _,?_⟩ ?_
    · rw [List.take_zero,evNs,List.append_nil]; exact hS
    clear hS
    rintro i τ ⟨hi,hS⟩
    unfold L21_22
    simp (disch:=omega) only [lock_eq,bin_lss,cond_bool,decide_eq_true_eq]
    refine iteI (fun g1=>?_) (fun g1=>?_)
    · have hik:i < ks.length:=by omega
      refine rowIx hik ?_
      refine elemN hik ?_
      refine hS.newN (fun t8 σ8 hS=>?_)
      refine hS.ldBox (n:=ks[i]) (v:=some 50) (by simp) ?_
      refine hS.ldBox (n:=f) (v:=none) (by simp) ?_
      rw [h3]
      have hw:=wNs_take ks i hik
      have hev:=evNs_len fs f (ks.take i)
      refine ⟨σ0,t,F,V,fs,_,_,ks[i],f,rfl,by have:=depthNs_mem hik; omega,okXs_mem hx i hik,hf,hfs,by rw [List.length_append]; omega,hS,fun σ9 hS9=>?_⟩
      simp (disch:=omega) only [go_sem]
      refine back (i + 1) rfl (by omega) ⟨by omega,?_⟩
      rw [List.take_succ_eq_append_getElem hik,evNs_snoc,<- List.append_assoc]
      exact hS9.part sl1
    · have e:i=ks.length:=by omega
      subst e
      rw [List.take_length] at hS
      exact retV_self (hK _ (hS.part sl2))
  have j8:∀ b:Bool,b=decide (n.op=oElem \/ n.op=wIn \/ n.op=oDelete)->n.op ≠ oCall->J21_8 env (.addr t 0) (.addr t4 0) (.addr t5 0) (rowN n.kids) (.pv (.str n.op)) (.pv (.bool b)) σ2 K X:=by
    intro b hb hc
    subst hb
    rw [if_neg hc] at hK
    unfold J21_8
    simp only [lock_eq,cond_bool,decide_eq_true_eq,T.fa50_1,Nat.zero_add]
    refine iteI (fun g1=>?_) (fun g1=>?_)
    · rw [if_pos g1] at hK
      refine hS.ldBox (n:=f) (v:=none) (by simp) ?_
      refine hS.ldText (n:=n) (v:=none) (by simp) ?_
      refine NS.markA h1 hf hkl.1 hS (fun σ5 hS5=>?_)
      refine j21 n.kids σ5 _ hkl.2.2 hkl.2.1 (by omega) (by rw [List.length_append,List.length_singleton]; omega) hS5 (fun σ' h'=>hK σ' ?_)
      rw [List.append_assoc] at h'; exact h'
    rw [if_neg g1] at hK
    simp only [bin_seql,cond_bool]
    refine iteI (fun g2=>?_) (fun g2=>?_)
    · have g2':n.op=oVar:=beq_iff_eq.1 g2
      rw [if_pos g2'] at hK
      refine hS.ldBox (n:=f) (v:=none) (by simp) ?_
      refine hS.ldText (n:=n) (v:=none) (by simp) ?_
      refine NS.markS h1 hf hkl.1 hS (fun σ5 hS5=>?_)
      refine j21 n.kids σ5 _ hkl.2.2 hkl.2.1 (by omega) (by rw [List.length_append,List.length_singleton]; omega) hS5 (fun σ' h'=>hK σ' ?_)
      rw [List.append_assoc] at h'; exact h'
    have g2':¬ n.op=oVar:=fun h=>g2 (beq_iff_eq.2 h)
    rw [if_neg g2'] at hK
    refine iteI (fun g3=>?_) (fun g3=>?_)
    · have g3':n.op=oForin:=beq_iff_eq.1 g3
      rw [if_pos g3'] at hK
      refine hS.ldBox (n:=f) (v:=none) (by simp) ?_
      refine hS.ldText (n:=n) (v:=none) (by simp) ?_
      refine NS.markS h1 hf hkl.1 hS (fun σ5 hS5=>?_)
      refine rowLen ?_
      simp only [bin_gtr,cond_bool,decide_eq_true_eq]
      refine iteI (fun g4=>?_) (fun g4=>?_)
      · have i0:0 < n.kids.length:=by omega
        have hk0:okX n.kids[0]:=okXs_mem hkl.2.2 0 i0
        refine hS5.ldBox (n:=f) (v:=none) (by simp) ?_
        refine rowIx (i:=0) i0 ?_
        refine feN1 ?_
        refine elemText (i:=0) i0 ?_
        refine NS.markA h1 hf (okX_kids hk0).1 hS5 (fun σ6 hS6=>?_)
        refine rowCut (k:=1) i0 ?_
        have ek0:∀ (l:List NTree) (h:0 < l.length),l=l[0] :: l.drop 1:=by
          intro l h
          cases l with
          | nil=>simp at h
          | cons k ks=>rfl
        have ek:=ek0 n.kids i0
        have hx1:okXs (n.kids.drop 1):=okXs_iff.2 fun x hx=>okXs_iff.1 hkl.2.2 x (List.mem_of_mem_drop hx)
        have hdd:depthNs (n.kids.drop 1) <= depthNs n.kids:=by
          conv=>rhs; rw [ek]
          rw [depthNs]; exact Nat.le_max_right ..
        have hww:wN n.kids[0] + wNs (n.kids.drop 1)=wNs n.kids:=by
          conv=>rhs; rw [ek]
          rw [wNs]
        have hp:=wN_pos n.kids[0]
        refine j21 (n.kids.drop 1) σ6 _ hx1 (by rw [List.length_drop]; omega) (by omega) (by rw [List.length_append,List.length_append,List.length_singleton,List.length_singleton]; omega) hS6 (fun σ' h'=>hK σ' ?_)
        have e2:(match n.kids with
          | []=>[]
          | k :: ks=>.ar (fullN f k.text) :: evNs fs f ks)=Ev.ar (fullN f n.kids[0].text) :: evNs fs f (n.kids.drop 1):=by
          generalize hkk:n.kids=ll at *
          cases ll with
          | nil=>simp at i0
          | cons k ks=>simp
        rw [e2]
        rw [List.append_assoc,List.append_assoc] at h'
        exact h'
      · have e:n.kids=[]:=List.eq_nil_of_length_eq_zero (by omega)
        refine j21 n.kids σ5 _ hkl.2.2 hkl.2.1 (by omega) (by rw [List.length_append,List.length_singleton]; omega) hS5 (fun σ' h'=>hK σ' ?_)
        rw [e] at h' ⊢
        rw [evNs,List.append_nil] at h'
        exact h'
    have g3':¬ n.op=oForin:=fun h=>g3 (beq_iff_eq.2 h)
    rw [if_neg g3'] at hK
    have jall:¬ (n.op=kBuilt/\n.text=kSplit)->J21_21 env (.addr t 0) (.addr t5 0) (rowN n.kids) σ2 K X:=by
      intro hno
      rw [if_neg hno] at hK
      exact j21 n.kids σ2 E hkl.2.2 hkl.2.1 (by omega) (by omega) hS hK
    refine iteI (fun g4=>?_) (fun g4=>jall fun h=>g4 (beq_iff_eq.2 h.1))
    have g4':n.op=kBuilt:=beq_iff_eq.1 g4
    refine hS.ldText (n:=n) (v:=none) (by simp) ?_
    simp only [bin_seql,guard_true]
    have jno:(match n.kids with
      | a :: b :: ks=>b.op ≠ oVar
      | _=>True) \/ n.text ≠ kSplit->J21_18 env (.addr t 0) (.addr t5 0) (rowN n.kids) (.pv (.bool false)) σ2 K X:=by
      intro hno
      unfold J21_18
      simp only [lock_eq,cond_bool]
      refine iteI (fun h=>absurd h (by decide)) (fun _=>?_)
      by_cases ht:n.text=kSplit
      · rw [if_pos ⟨g4',ht⟩] at hK
        refine j21 n.kids σ2 E hkl.2.2 hkl.2.1 (by omega) (by omega) hS (fun σ' h'=>hK σ' ?_)
        have hno:=hno.resolve_right fun h=>h ht
        generalize n.kids=ll at h' hno
        match ll,h',hno with
        | [],h',_=>exact h'
        | [a],h',_=>exact h'
        | a :: b :: ks,h',hno =>
          dsimp only at hno ⊢
          rw [if_neg hno]
          rw [evNs,evNs] at h'
          exact h'
      · exact jall fun h=>ht h.2
    refine iteI (fun g5=>?_) (fun g5=>jno (.inr fun h=>g5 (beq_iff_eq.2 h)))
    have g5':n.text=kSplit:=beq_iff_eq.1 g5
    refine rowLen ?_
    simp only [bin_gtr,guard_true,decide_eq_true_eq]
    refine iteI (fun g6=>?_) (fun g6=>jno (.inl ?_))
    rotate_left
    · generalize n.kids=ll at g6
      match ll,g6 with
      | [],_=>trivial
      | [a],_=>trivial
      | a :: b :: ks,g6=>exact absurd (by simp only [List.length_cons]; omega) g6
    have i0:0 < n.kids.length:=by omega
    have i1:1 < n.kids.length:=by omega
    refine rowIx (i:=1) i1 ?_
    simp only [T.fe50_0,Nat.add_zero]
    refine elemOp (i:=1) i1 ?_
    simp only [bin_seql]
    have ek:n.kids=n.kids[0] :: n.kids[1] :: n.kids.drop 2:=by
      generalize n.kids=ll at i0 i1
      match ll,i0,i1 with
      | a :: b :: ks,_,_=>rfl
    by_cases hv:n.kids[1].op=oVar
    · rw [show (n.kids[1].op == [118,97,114])=true from beq_iff_eq.2 hv]
      rw [if_pos ⟨g4',g5'⟩] at hK
      unfold J21_18
      simp only [lock_eq,cond_bool]
      refine iteI (fun _=>?_) (fun h=>absurd trivial h)
      refine hS.ldBox (n:=f) (v:=none) (by simp) ?_
      refine rowIx (i:=1) i1 ?_
      refine feN1 ?_
      refine elemText (i:=1) i1 ?_
      have hk0:okX n.kids[0]:=okXs_mem hkl.2.2 0 i0
      have hk1:okX n.kids[1]:=okXs_mem hkl.2.2 1 i1
      refine NS.markA h1 hf (okX_kids hk1).1 hS (fun σ6 hS6=>?_)
      refine rowIx (i:=0) i0 ?_
      refine elemN (i:=0) i0 ?_
      refine hS6.ldBox (n:=f) (v:=none) (by simp) ?_
      rw [h3]
      have hww:wN n.kids[0] + (wN n.kids[1] + wNs (n.kids.drop 2))=wNs n.kids:=by
        conv=>rhs; rw [ek]
        rw [wNs,wNs]
      have hp:=wN_pos n.kids[1]
      have hx2:okXs (n.kids.drop 2):=okXs_iff.2 fun x hx=>okXs_iff.1 hkl.2.2 x (List.mem_of_mem_drop hx)
      have hdd:depthN n.kids[0] <= depthNs n.kids/\depthNs (n.kids.drop 2) <= depthNs n.kids:=by
        refine ⟨depthNs_mem i0,?_⟩
        conv=>rhs; rw [ek]
        rw [depthNs,depthNs]
        exact Nat.le_trans (Nat.le_max_right ..) (Nat.le_max_right ..)
      have hev:=evN_len fs f n.kids[0]
      refine ⟨σ0,t,F,V,fs,_,_,n.kids[0],f,rfl,by omega,hk0,hf,hfs,by rw [List.length_append,List.length_singleton]; omega,hS6,fun σ7 hS7=>?_⟩
      refine rowCut (k:=2) i1 ?_
      refine j21 (n.kids.drop 2) σ7 _ hx2 (by rw [List.length_drop]; omega) (by omega) (by rw [List.length_append,List.length_append,List.length_singleton]; omega) hS7 (fun σ' h'=>hK σ' ?_)
      have e2:(match n.kids with
        | a :: b :: ks=>if b.op=oVar then Ev.ar (fullN f b.text) :: (evN fs f a ++ evNs fs f ks) else evN fs f a ++ (evN fs f b ++ evNs fs f ks)
        | ks=>evNs fs f ks)=Ev.ar (fullN f n.kids[1].text) :: (evN fs f n.kids[0] ++ evNs fs f (n.kids.drop 2)):=by
        generalize hkk:n.kids=ll at i0 i1 hv
        match ll,i0,i1,hv with
        | a :: b :: ks,_,_,hv=>exact if_pos hv
      rw [e2]
      rw [List.append_assoc,List.append_assoc] at h'
      exact h'
    · rw [show (n.kids[1].op == [118,97,114])=false from beq_eq_false_iff_ne.2 hv]
      refine jno (.inl ?_)
      generalize n.kids=ll at i0 i1 hv
      match ll,i0,i1,hv with
      | a :: b :: ks,_,_,hv=>exact hv
  simp only [T.fa50_2,T.fa50_0,Nat.zero_add]
  refine hS.ldKids (n:=n) (v:=none) (by simp) ?_
  refine hS.ldOp (n:=n) (v:=none) (by simp) ?_
  simp only [bin_seql,cond_bool]
  refine iteI (fun g1=>?_) (fun g1=>?_)
  · have g1':n.op=oCall:=beq_iff_eq.1 g1
    rw [if_pos g1'] at hK
    refine hS.ldBox (n:=n) (v:=none) (by simp) ?_
    refine hS.ldBox (n:=f) (v:=none) (by simp) ?_
    rw [h2]
    exact ⟨σ0,t,F,V,fs,_,_,n,f,rfl,by omega,hn,hf,hfs,hE,hS,fun σ3 h'=>retV_self (hK σ3 (h'.part sl2))⟩
  have g1':¬ n.op=oCall:=fun h=>g1 (beq_iff_eq.2 h)
  refine iteI (fun g2=>?_) (fun g2=>?_)
  · have g2':n.op=oElem:=beq_iff_eq.1 g2
    rw [g2]
    exact j8 true (by rw [g2']; rfl) g1'
  have g2':¬ n.op=oElem:=fun h=>g2 (beq_iff_eq.2 h)
  refine iteI (fun g3=>?_) (fun g3=>?_)
  · have g3':n.op=wIn:=beq_iff_eq.1 g3
    rw [g3]
    exact j8 true (by rw [g3']; rfl) g1'
  have g3':¬ n.op=wIn:=fun h=>g3 (beq_iff_eq.2 h)
  refine j8 _ ?_ g1'
  by_cases h4:n.op=oDelete
  · rw [h4]; rfl
  · rw [show (n.op == [100,101,108,101,116,101])=false from beq_eq_false_iff_ne.2 h4]
    exact (decide_eq_false (fun h=>h.elim g2' fun h=>h.elim g3' h4)).symm
end
end Go.AD.Lx
