import Derived.Test.YtjgjmpophpifgaaGreatDoorM25
import Derived.Test.YtjgjmpophpifgaaGreatDoorM7
set_option linter.unusedVariables false
set_option linter.unusedSimpArgs false
set_option maxRecDepth 100000
namespace Go.AD.Lx
open Go.Proofs RowKit
section
variable {env:Env} {args:List AV} {σ0 σ τ:AS} {K:AV->AS->Prop} {X:PV->AS->Prop} {L Y M A B:Objs} {t F V:Nat} {fs:List NTree} {bad:Bool} {rs l1 l2:List VR} {fl:Marks} {r:VR} {E:List Ev}
structure EndK (fs:List NTree) (bad:Bool) (rs:List VR) (fl:Marks) (σ0:AS) (K:AV->AS->Prop):Prop where
  no:(bad || rs.any (conf fs fl))=true->∀ σ',σ0.sub σ'->K (.tuple [namesAV [] [] [] [],.pv (.bool false)]) σ'
  yes:(bad || rs.any (conf fs fl))=false->∀ (QF:List NTree) (Q:List VR),(∀ f,f ∈ QF ↔ f ∈ fs)->(QF.map (·.text)).Nodup->(∀ r,r ∈ Q ↔ r ∈ rs)->(Q.map (·.name)).Nodup->∀ σ',σ0.sub σ' ->
    K (.tuple [namesAV (sortS (QF.map (·.text))) (sortS (pickN (isSB fs fl) Q)) (sortS (pickN (isAB fs fl) Q)) (sortS (pickN (isPB fs fl) Q)),.pv (.bool true)]) σ'
abbrev GoC (env:Env) (t2 t t13 it:Nat) (σ:AS) (K:AV->AS->Prop) (X:PV->AS->Prop):Prop :=
  ∃ I26:Nat->List AV->AS->Prop,(∃ m,I26 m [.addr t2 0,.addr t 0,.addr t13 0,.iter it] σ)/\∀ (m26:Nat) (x0 x1 x2 x3:AV),∀ σ28,I26 m26 [x0,x1,x2,x3] σ28->L9_26 env I26 m26 x0 x1 x2 x3 σ28 K X
theorem rsC (h1:env 25=T_sort) (h2:env 24=strT2 fun s t=>.pv (.bool (Lib.contains s t))) {t2 t13 it:Nat} {G:Objs} {c1 c2 c3 c4:AV} (hσ:L=[outO t2 c1 c2 c3 c4])
    (nF:fs.length <= 900000000) (hft:(fs.map (·.text)).Nodup) (nR:rs.length <= 900000000) (hnn:(rs.map (·.name)).Nodup) (hsh:∀ r ∈ rs,r.name.length <= 100000)
    (hN:NM σ0 σ t F V fs bad rs fl ((it,.mapIt F (funE fs).length []) :: (outO t13 .nilS .nilS .nilS .nilS :: (G ++ L)))) (hE:EndK fs bad rs fl σ0 K):GoC env t2 t t13 it σ (fz4 K) X:=by
  refine lp9_26 (fun (a:List Nat × List NTree) _=>fs.length - a.1.length) (fun a τ=>Went fs a.1 a.2/\(a.2.map (·.text)).Nodup/\∃ G vF RF,RowB vF RF (a.2.map (·.text)) /\
    NM σ0 τ t F V fs bad rs fl (G ++ (it,.mapIt F (funE fs).length a.1) :: outO t13 vF .nilS .nilS .nilS :: (RF ++ L))) ([],[]) ⟨Went.start fs,by simp,[],.nilS,[],.inl ⟨rfl,rfl,rfl⟩,?_⟩ ?_
  · refine hN.part ?_
    exact List.Sublist.cons_cons _ (List.Sublist.cons_cons _ (List.sublist_append_right G _))
  clear hN G
  rintro ⟨seen,Q⟩ τ ⟨hW,hQn,G,vF,RF,gF,hN⟩
  dsimp only at hW hQn gF hN ⊢
  have hvl:(funE fs).length=fs.length:=by unfold funE; simp
  unfold L9_26
  simp only [lock_eq]
  refine iterNext hN.gF (hN.at (o:=.mapIt F (funE fs).length seen) (by simp)) (fun hall=>?_) (fun i hi hns=>?_)
  · have hall':∀ i < fs.length,i ∈ seen:=fun i hi=>hall i (by omega)
    have hQ:=hW.all hall'
    refine ext0' ?_
    refine cF ?_
    simp only [nil_addr,T.fa59_1,Nat.zero_add,T.ld57,hN.gT,ldM_cells,List.getElem?_cons_zero,List.getElem?_cons_succ,someEx]
    refine NM.range (l:=varE rs) (by rw [mapTV]; rfl) hN hN.gV (fun it2 σ33 hN2=>?_)
    refine rsD h1 h2 hσ gF (by rw [List.length_map,hW.len]; exact Nat.le_trans (nodup_len fs.length seen hW.nd hW.lt) (by omega)) nR hnn hsh (G:=G ++ [(it,.mapIt F (funE fs).length seen)]) (by simpa using hN2) hE.no ?_
    intro hb Q2 h3 h4 σ' hs
    exact hE.yes hb Q Q2 hQ hQn h3 h4 σ' hs
  · have hi':i < fs.length:=by omega
    have hlt:=hW.room hi' hns
    have hN:=NM.turn (A:=G) (p:=(it,.mapIt F (funE fs).length seen)) (o:=.mapIt F (funE fs).length (seen ++ [i])) hN
    dsimp only at hN
    generalize τ.set it (.mapIt F (funE fs).length (seen ++ [i]))=τ2 at hN ⊢
    have hW2:=hW.step hi' hns
    have hnew:=hW.new (·.text) hft hi' hns
    refine ext0'' ?_
    refine cT ?_
    refine iterEntry hN.gF (hN.at (o:=.mapIt F (funE fs).length (seen ++ [i])) (by simp)) hi ?_
    rw [funE_at hi hi']
    refine ext0 ?_
    generalize fs[i]=f at hW2 hnew ⊢
    have hg:=hN.at (i:=t13) (o:=.cells [vF,.nilS,.nilS,.nilS] (some 28)) (by simp [outO])
    simp only [T.fa28_0,Nat.zero_add,ldA T.hT26 T.ag26,hg,ldM_cells,List.getElem?_cons_zero,someEx]
    refine NM.pushB (A:=G ++ (it,.mapIt F (funE fs).length (seen ++ [i])) :: [outO t13 vF .nilS .nilS .nilS]) (R:=RF) (B:=L) (by simpa using hN) gF (by rw [List.length_map,hW.len]; omega) (fun σ' v' R' g' hN'=>?_)
    have hg':=hN'.at (i:=t13) (o:=.cells [vF,.nilS,.nilS,.nilS] (some 28)) (by simp [outO])
    rw [stA T.hT26 T.sz26 g'.cells g'.ok,hg',stM_cells]
    refine ⟨by simp,?_⟩
    have hN2:=NM.turn (A:=G ++ [(it,.mapIt F (funE fs).length (seen ++ [i]))]) (p:=outO t13 vF .nilS .nilS .nilS) (B:=R' ++ L) (o:=.cells [v',.nilS,.nilS,.nilS] (some 28)) (by simpa using hN')
    refine back (seen ++ [i],Q ++ [f]) rfl (by dsimp only; rw [List.length_append,List.length_singleton]; omega) ⟨hW2,?_,G,v',R',?_,?_⟩
    · rw [List.map_append,List.nodup_append]
      refine ⟨hQn,by simp,?_⟩
      intro a ha b hb e
      simp only [List.map_cons,List.map_nil,List.mem_singleton] at hb
      obtain ⟨q,hq,hqa⟩:=List.mem_map.1 ha
      exact hnew q hq (by rw [hqa,e,hb])
    · rw [List.map_append]; exact g'
    · simpa [outO] using hN2
theorem cF' {b:Bool} {A B:Prop} (hb:b=false) (h:B):condD (.pv (.bool b)) A B:=by subst hb; exact cF h
theorem cT' {b:Bool} {A B:Prop} (hb:b=true) (h:A):condD (.pv (.bool b)) A B:=by subst hb; exact cT h
abbrev GoB (env:Env) (t2 t:Nat) (tv:AV) (σ:AS) (K:AV->AS->Prop) (X:PV->AS->Prop):Prop :=
  ∃ I21:Nat->List AV->AS->Prop,(∃ m,I21 m [.addr t2 0,.addr t 0,tv] σ)/\∀ (m21:Nat) (x0 x1 x2:AV),∀ σ23,I21 m21 [x0,x1,x2] σ23->L9_21 env I21 m21 x0 x1 x2 σ23 K X
theorem sub1 {n:Nat} (h:n <= 4000000000) {KV:AV->Prop} (hK:KV (.pv (.int .i64 (n:Nat)))):binD PS .sub 3 (.pv (.int .i64 ((n + 1:Nat):Int))) (.pv (.int .i64 1)) KV:=by
  rw [Go.AD.bin_sub]
  have e:((n + 1:Nat):Int) - 1=(n:Nat):=by omega
  rw [e]
  simp (disch:=omega) only [go_sem]
  exact hK
theorem RowA.cut {v:AV} {R:Objs} {l:List Nat} {o:Nat} {KS:AV->AS->Prop} (G:RowA v R (l ++ [o])) (h:NM σ0 σ t F V fs bad rs fl (R ++ L)) (hK:∀ σ' v' R',RowA v' R' l->NM σ0 σ' t F V fs bad rs fl (R' ++ L)->KS v' σ') :
    takeOverD PS σ 62 v none (some (.pv (.int .i64 (l.length:Nat)))) KS:=by
  rcases G with ⟨_,_,h0⟩ | ⟨k,rfl,rfl⟩
  · simp at h0
  · have hg:=h.at (i:=k) (o:=.cells (adrs (l ++ [o])) none) (by simp)
    unfold takeOverD
    rw [T.el62]
    simp only [hg,T.sz63,T.iS63,true_and,Int.toNat_natCast]
    refine ⟨by omega,by rw [List.length_append]; omega,by rw [adrs_len]; omega,?_⟩
    have e:(adrs (l ++ [o])).take (0 + l.length * 1)=adrs l:=by
      unfold adrs
      rw [List.map_append,List.take_append_of_le_length (by simp),List.take_of_length_le (by simp)]
    rw [e]
    refine hK _ _ [(k,.cells (adrs l) none)] (.inr ⟨k,rfl,rfl⟩) ?_
    exact NM.turn (A:=[]) (p:=(k,.cells (adrs (l ++ [o])) none)) (B:=L) h
theorem rsB (h1:env 25=T_sort) (h2:env 24=strT2 fun s t=>.pv (.bool (Lib.contains s t))) (h3:env 23=T_nSpread) {t2:Nat} {tv:AV} {todo:List Nat} {R G:Objs} {c1 c2 c3 c4:AV} (hσ:L=[outO t2 c1 c2 c3 c4])
    (nF:fs.length <= 900000000) (hft:(fs.map (·.text)).Nodup) {fl0:Marks} (T0:Told E rs fl0) (nE:E.length <= 100000000) (nR:rs.length <= 100000000) (hsh:∀ r ∈ rs,r.name.length <= 100000)
    (hR:RowA tv R todo) (hN:NM σ0 σ t F V fs bad rs fl (R ++ (G ++ L))) (hM:Mid specialB E rs fl todo) (hlen:todo.length <= rs.length) (hE:∀ fl,Mid specialB E rs fl []->EndK fs bad rs fl σ0 K):GoB env t2 t tv σ (fz4 K) X:=by
  refine lp9_21 (fun (a:AV × List Nat × Marks) _=>a.2.1.length + falses a.2.2 (rs.map (·.id))) (fun a τ=>a.2.1.length + falses a.2.2 (rs.map (·.id)) <= 3 * rs.length/\Mid specialB E rs a.2.2 a.2.1/\∃ R,RowA a.1 R a.2.1/\NM σ0 τ t F V fs bad rs a.2.2 (R ++ (G ++ L))) (fun a=>a.1) (tv,todo,fl) ⟨?_,hM,R,hR,hN⟩ ?_
  · have:=falses_le fl (rs.map (·.id))
    rw [List.length_map] at this
    dsimp only; omega
  clear hN hR hM hlen
  rintro ⟨tv,todo,fl⟩ τ ⟨hlen,hM,R,hR,hN⟩
  dsimp only at hlen hM hR hN ⊢
  unfold L9_21
  simp only [lock_eq]
  rw [hR.len]
  rw [Go.AD.bin_gtr]
  rcases List.eq_nil_or_concat todo with rfl | ⟨init,o,rfl⟩
  · refine cF' rfl ?_
    refine alloc_of T.zo28 rfl (fun t13 ht13=>?_)
    have hN:=hN.alloc ht13 (.cells [.nilS,.nilS,.nilS,.nilS] (some 28))
    generalize τ.set t13 _=τ2 at hN ⊢
    simp only [nil_addr,T.fa59_0,Nat.zero_add]
    refine NM.ldF hN ?_
    refine NM.range (l:=funE fs) (by rw [mapTN]; rfl) hN hN.gF (fun it σ27 hN2=>?_)
    exact rsC h1 h2 hσ nF hft (by omega) T0.nn hsh (G:=R ++ G) (by simpa [outO] using hN2) (hE fl hM)
  · rw [List.concat_eq_append] at *
    have hll:(init ++ [o]).length=init.length + 1:=by rw [List.length_append,List.length_singleton]
    refine cT' (by rw [hll]; exact decide_eq_true (by omega)) ?_
    rw [hll] at hlen ⊢
    rw [hR.len,hll]
    refine sub1 (n:=init.length) (by omega) ?_
    obtain ⟨k,rfl,hk2,hk3⟩:=hR.ix (i:=init.length) (by rw [hll]; omega)
    rw [hk3]
    have hg:=hN.at (i:=k) (o:=.cells (adrs (init ++ [o])) none) (by rw [hk2]; simp)
    rw [T.ld63,hg,ldM_cells,adrs_get (by rw [hll]; omega)]
    simp only [someEx]
    have eo:(init ++ [o])[init.length]'(by rw [hll]; omega)=o:=by simp
    rw [eo]
    have hll2:∀ KV:AV->Prop,lenD PS 62 (.msl k 0 (init ++ [o]).length 1) KV=KV (.pv (.int .i64 ((init.length + 1:Nat):Int))):=fun KV=>by rw [T.lnm62,hll]
    first
      | rw [hll2]
      | rw [hll] at hll2; rw [hll2]
    refine sub1 (n:=init.length) (by omega) ?_
    refine RowA.cut hR hN (fun σ24 v' R' hR' hN'=>?_)
    obtain ⟨v,hv,hvo⟩:=hM.ids o (by simp)
    subst hvo
    have hfew:=T0.few v hv
    have hcl:=cntL_le E
    rw [h3]
    refine ⟨σ0,t,F,V,fs,bad,rs,fl,G ++ L,R',v,v',init,rfl,hv,T0.ni,fun p hp=>?_,by omega,hR',hN',fun σ25 tv2 R2 hR2 hN2=>?_⟩
    · obtain ⟨r',h4,h5,_⟩:=T0.sound v hv p hp
      exact ⟨r',h4,h5⟩
    have hmes:=spreadL_measure (v:=v.id) (l:=rs.map (·.id)) T0.ni v.lks fl init (fun p hp=>by
      obtain ⟨r',h4,h5,_⟩:=T0.sound v hv p hp
      exact List.mem_map.2 ⟨r',h4,h5⟩)
    exact back (tv2,(spreadL v.id v.lks fl init).2,(spreadL v.id v.lks fl init).1) rfl (by dsimp only; omega) ⟨by dsimp only; omega,Mid.round T0 hv hM,R2,hR2,hN2⟩
end
end Go.AD.Lx

set_option linter.unusedVariables false
set_option linter.unusedSimpArgs false
set_option maxRecDepth 100000
namespace Go.AD.Lx
open Go.Proofs RowKit
section
variable {env:Env} {args:List AV} {σ0 σ τ:AS} {K:AV->AS->Prop} {X:PV->AS->Prop} {L Y M A B:Objs} {t F V:Nat} {fs:List NTree} {bad:Bool} {rs l1 l2:List VR} {fl:Marks} {r:VR} {E:List Ev}
theorem NM.ldName {KV:AV->Prop} (h:NM σ0 σ t F V fs bad rs fl L) (hr:r ∈ rs) (hK:KV (.pv (.str r.name))):loadD PS σ 9 (.addr r.id 0) KV:=by
  rw [T.ld9,h.gR hr,ldM_cells]
  exact ⟨_,rfl,hK⟩
def Laid (fl0 fl:Marks) (Q rs:List VR):Prop:=∀ r ∈ rs,(fl r.id).2=(fl0 r.id).2/\(r ∈ Q->(fl r.id).1=((fl0 r.id).1 || specialB r.name))/\(r ∉ Q->(fl r.id).1=(fl0 r.id).1)
theorem mid_start {fl0:Marks} {Q:List VR} (T0:Told E rs fl0) (hQ:∀ r,r ∈ Q ↔ r ∈ rs) (hL:Laid fl0 fl Q rs):Mid specialB E rs fl (Q.map (·.id)):=by
  have h1:∀ r ∈ rs,(fl r.id).1=((fl0 r.id).1 || specialB r.name):=fun r hr=>(hL r hr).2.1 ((hQ r).2 hr)
  refine ⟨fun r hr h=>?_,fun r hr h=>?_,fun r hr h=>?_,fun r hr h=>?_,fun r hr h=>?_,fun o ho=>?_⟩
  · rw [h1 r hr,Bool.or_eq_true] at h
    rcases h with h | h
    · exact ⟨r.name,.inl ((T0.msc r hr).1 h),.refl _⟩
    · exact ⟨r.name,.inr ⟨h,(T0.named _).1 ⟨r,hr,rfl⟩⟩,.refl _⟩
  · rw [(hL r hr).1] at h
    exact ⟨r.name,(T0.mar r hr).1 h,.refl _⟩
  · rw [h1 r hr,Bool.or_eq_true]
    rcases h with h | h
    · exact .inl ((T0.msc r hr).2 h)
    · exact .inr h.1
  · rw [(hL r hr).1]; exact (T0.mar r hr).2 h
  · exact absurd (List.mem_map.2 ⟨r,(hQ r).2 hr,rfl⟩) h
  · obtain ⟨r,hr,e⟩:=List.mem_map.1 ho
    exact ⟨r,(hQ r).1 hr,e⟩
abbrev GoA (env:Env) (t2 t it:Nat) (σ:AS) (K:AV->AS->Prop) (X:PV->AS->Prop):Prop :=
  ∃ I17:Nat->List AV->AS->Prop,(∃ m,I17 m [.addr t2 0,.addr t 0,.nilS,.iter it] σ)/\∀ (m17:Nat) (x0 x1 x2 x3:AV),∀ σ16,I17 m17 [x0,x1,x2,x3] σ16->L9_17 env I17 m17 x0 x1 x2 x3 σ16 K X
theorem rsA (h1:env 25=T_sort) (h2:env 24=strT2 fun s t=>.pv (.bool (Lib.contains s t))) (h3:env 23=T_nSpread) (h4:env 22=T_nSpecial) {t2 it:Nat} {G:Objs} {c1 c2 c3 c4:AV} (hσ:L=[outO t2 c1 c2 c3 c4])
    (nF:fs.length <= 900000000) (hft:(fs.map (·.text)).Nodup) {fl0:Marks} (T0:Told E rs fl0) (nE:E.length <= 100000000) (nR:rs.length <= 100000000) (hsh:∀ r ∈ rs,r.name.length <= 100000)
    (hN:NM σ0 σ t F V fs bad rs fl0 ((it,.mapIt V (varE rs).length []) :: (G ++ L))) (hE:∀ fl,Mid specialB E rs fl []->EndK fs bad rs fl σ0 K):GoA env t2 t it σ (fz4 K) X:=by
  refine lp9_17 (fun (a:AV × List Nat × List VR) _=>rs.length - a.2.1.length) (fun a τ=>Went rs a.2.1 a.2.2/\∃ R G fl,RowA a.1 R (a.2.2.map (·.id))/\Laid fl0 fl a.2.2 rs /\
    NM σ0 τ t F V fs bad rs fl (R ++ (G ++ (it,.mapIt V (varE rs).length a.2.1) :: L))) (fun a=>a.1) (.nilS,[],[]) ⟨Went.start rs,[],[],fl0,.inl ⟨rfl,rfl,rfl⟩,?_,?_⟩ ?_
  · exact fun r hr=>⟨rfl,fun h=>absurd h (by simp),fun _=>rfl⟩
  · exact hN.part (List.Sublist.cons_cons _ (List.sublist_append_right G _))
  clear hN G
  rintro ⟨tv,seen,Q⟩ τ ⟨hW,R,G,fl,hR,hL,hN⟩
  dsimp only at hW hR hL hN ⊢
  have hvl:(varE rs).length=rs.length:=by unfold varE; simp
  unfold L9_17
  simp only [lock_eq]
  refine iterNext hN.gV (hN.at (o:=.mapIt V (varE rs).length seen) (by simp)) (fun hall=>?_) (fun i hi hns=>?_)
  · have hall':∀ i < rs.length,i ∈ seen:=fun i hi=>hall i (by omega)
    have hQ:=hW.all hall'
    refine ext0' ?_
    refine cF ?_
    exact rsB h1 h2 h3 hσ nF hft T0 nE nR hsh hR (G:=G ++ [(it,.mapIt V (varE rs).length seen)]) (by simpa using hN) (mid_start T0 hQ hL) (by rw [List.length_map,hW.len]; exact nodup_len rs.length seen hW.nd hW.lt) hE
  · have hi':i < rs.length:=by omega
    have hlt:=hW.room hi' hns
    have hN:=NM.turn (A:=R ++ G) (p:=(it,.mapIt V (varE rs).length seen)) (B:=L) (o:=.mapIt V (varE rs).length (seen ++ [i])) (by simpa using hN)
    dsimp only at hN
    generalize τ.set it (.mapIt V (varE rs).length (seen ++ [i]))=τ2 at hN ⊢
    have hW2:=hW.step hi' hns
    have hnew:=hW.new (·.id) T0.ni hi' hns
    refine ext0'' ?_
    refine cT ?_
    refine iterEntry hN.gV (hN.at (o:=.mapIt V (varE rs).length (seen ++ [i])) (by simp)) hi ?_
    have e1:(varE rs)[i]=(rs[i].name,.addr rs[i].id 0):=List.getElem_map (fun r:VR=>(r.name,AV.addr r.id 0)) (h:=hi)
    rw [e1]
    refine ext1 ?_
    have hr:rs[i] ∈ rs:=List.getElem_mem hi'
    generalize rs[i]=r at hr hW2 hnew ⊢
    have hrQ:r ∉ Q:=fun h=>hnew r h rfl
    simp only [nil_addr,T.fa65_0,T.fa65_1,Nat.zero_add]
    have hr1:(fl r.id).1=(fl0 r.id).1:=(hL r hr).2.2 hrQ
    refine NM.ldS hN hr hr1 ?_
    have jl:∀ x:Bool,x=((fl0 r.id).1 || specialB r.name)->Laid fl0 (fset fl r.id (x,(fl r.id).2)) (Q ++ [r]) rs:=by
      rintro x rfl q hq
      by_cases e:q.id=r.id
      · have:q=r:=nodup_on _ T0.ni hq hr e
        subst this
        rw [fset_same]
        exact ⟨(hL q hq).1,fun _=>rfl,fun h=>absurd (by simp) h⟩
      · rw [fset_ne _ _ e]
        refine ⟨(hL q hq).1,fun h=>(hL q hq).2.1 ?_,fun h=>(hL q hq).2.2 fun h'=>h (List.mem_append_left _ h')⟩
        rcases List.mem_append.1 h with h | h
        · exact h
        · rw [List.mem_singleton] at h; rw [h] at e; exact absurd rfl e
    have j20:∀ (x:Bool) (σ':AS),x=((fl0 r.id).1 || specialB r.name)->NM σ0 σ' t F V fs bad rs (fset fl r.id (x,(fl r.id).2)) (R ++ G ++ (it,.mapIt V (varE rs).length (seen ++ [i])) :: L)->J9_20 env (Inv (fun (a:AV × List Nat × List VR)=>[.addr t2 0,.addr t 0,a.1,.iter it]) (fun (a:AV × List Nat × List VR) _=>rs.length - a.2.1.length) (fun a τ=>Went rs a.2.1 a.2.2/\∃ R G fl,RowA a.1 R (a.2.2.map (·.id))/\Laid fl0 fl a.2.2 rs /\
        NM σ0 τ t F V fs bad rs fl (R ++ (G ++ (it,.mapIt V (varE rs).length a.2.1) :: L)))) (rs.length - seen.length) (.addr t2 0) (.addr t 0) tv (.addr r.id 0) (.iter it) σ' (fz4 K) X:=by
      intro x σ' hx hN
      unfold J9_20
      simp only [lock_eq]
      refine NM.pushT (R:=R) (L:=G ++ (it,.mapIt V (varE rs).length (seen ++ [i])) :: L) (by simpa using hN) hR (by rw [List.length_map,hW.len]; omega) (fun σ5 k5 hN5=>?_)
      refine back (.msl k5 0 ((Q.map (·.id)).length + 1) 1,seen ++ [i],Q ++ [r]) rfl (by dsimp only; rw [List.length_append,List.length_singleton]; omega) ⟨hW2,[(k5,.cells (adrs (Q.map (·.id) ++ [r.id])) none)],G,_,?_,jl x hx,hN5⟩
      dsimp only
      rw [List.map_append]
      exact .inr ⟨k5,by rw [List.length_append]; rfl,rfl⟩
    cases hb:(fl0 r.id).1 with
    | true =>
      refine gTf ?_
      exact NM.markS hN T0.ni hr (fun σ22 hN2=>j20 true σ22 (by rw [hb]; rfl) hN2)
    | false =>
      refine gFf ?_
      refine NM.ldName hN hr ?_
      refine special_call h4 (Nat.le_trans (hsh r hr) (by decide)) ?_
      exact NM.markS hN T0.ni hr (fun σ22 hN2=>j20 _ σ22 (by rw [hb]; rfl) hN2)
theorem evL_snoc (fs:List NTree) (l:List NTree) (n:NTree):evL fs (l ++ [n])=evL fs l ++ evI fs n:=by
  unfold evL
  rw [List.flatMap_append]
  simp
theorem bldKids {l:List NTree} {KV:AV->Prop} (hK:KV (nodeAV (.mk [] [] l))):buildD PS 50 [(2,rowN l)] KV:=by
  have:buildD PS 50 [(2,rowN l)] KV=KV (nodeAV (.mk [] [] l)):=by
    unfold rowN
    simp [buildD,buildFill,go_sem,AV.cells,AV.cellOk,setAll,nodeAV,nodeCells]
  rw [this]; exact hK
theorem bldNo {KV:AV->Prop} (hK:KV (.agg zeroN)):buildD PS 50 [] KV:=by
  have:buildD PS 50 [] KV=KV (.agg zeroN):=by simp [buildD,buildFill,go_sem,zeroN]
  rw [this]; exact hK
theorem wk_refl (v:AV):wk v v:=.inl (.inl rfl)
theorem wk_noF:wk (.agg zeroN) (nodeAV noF):=by
  refine .inr ?_
  show wkL zeroN ((nodeCells noF).map .pv)
  rw [nodeCells_eq]
  exact ⟨.inl rfl,.inl rfl,.inr ⟨_,rfl,rfl⟩,trivial⟩
def NamesR (l:List NTree) (b:Bool) (F S A P:List Bytes):Prop:=if b=true then ¬ WrongN specialB l/\NamesOf Op.bytesLess l F S A P else WrongN specialB l/\F=[]/\S=[]/\A=[]/\P=[]
theorem end_names {l:List NTree} (hd:DeclS specialB (funcsN l)) {fl0:Marks} (T0:Told (evL (funcsN l) l) rs fl0) (hb:bad=true ↔ Ev.bad ∈ evL (funcsN l) l) (hK:∀ σ' b F S A P,σ0.sub σ'->NamesR l b F S A P->K (.tuple [namesAV F S A P,.pv (.bool b)]) σ') :
    ∀ fl,Mid specialB (evL (funcsN l) l) rs fl []->EndK (funcsN l) bad rs fl σ0 K:=by
  intro fl hM
  have hlast:=hM.last T0
  have hconf:∀ r ∈ rs,conf (funcsN l) fl r=true ↔ ((IsS specialB (evL (funcsN l) l) r.name/\IsA (evL (funcsN l) l) r.name) \/ (funF (funcsN l) r.name).isSome=true):=by
    intro r hr
    unfold conf
    rw [Bool.or_eq_true,Bool.and_eq_true,(hlast r hr).1,(hlast r hr).2]
  have hwrong:WrongN specialB l ↔ (bad || rs.any (conf (funcsN l) fl))=true:=by
    rw [Bool.or_eq_true,hb,List.any_eq_true]
    unfold WrongN
    constructor
    · rintro (h | h | ⟨x,h1,h2⟩)
      · exact absurd hd h
      · exact .inl h
      · obtain ⟨r,hr,rfl⟩:=(T0.named x).2 h1
        exact .inr ⟨r,hr,(hconf r hr).2 h2⟩
    · rintro (h | ⟨r,hr,h⟩)
      · exact .inr (.inl h)
      · exact .inr (.inr ⟨r.name,(T0.named _).1 ⟨r,hr,rfl⟩,(hconf r hr).1 h⟩)
  refine ⟨fun h σ' hs=>hK σ' false [] [] [] [] hs ?_,fun h QF Q h1 h2 h3 h4 σ' hs=>hK σ' true _ _ _ _ hs ?_⟩
  · exact ⟨hwrong.2 h,rfl,rfl,rfl,rfl⟩
  · have hno:∀ r ∈ rs,conf (funcsN l) fl r=false:=by
      rw [Bool.or_eq_false_iff] at h
      exact fun r hr=>by have:=List.any_eq_false.1 h.2 r hr; simpa using this
    have hnd:∀ p,(pickN p Q).Nodup:=fun p=>(List.filter_sublist.map _).nodup h4
    have mem:∀ p x,x ∈ sortS (pickN p Q) ↔ ∃ r ∈ rs,r.name=x/\p r=true:=by
      intro p x
      rw [(sortS_perm _).mem_iff]
      unfold pickN
      rw [List.mem_map]
      constructor
      · rintro ⟨r,hr,e⟩
        rw [List.mem_filter] at hr
        exact ⟨r,(h3 r).1 hr.1,e,hr.2⟩
      · rintro ⟨r,hr,e,hp⟩
        exact ⟨r,List.mem_filter.2 ⟨(h3 r).2 hr,hp⟩,e⟩
    have hw:¬ WrongN specialB l:=fun hw=>by rw [hwrong.1 hw] at h; cases h
    have named:∀ x,Named (evL (funcsN l) l) x->∃ r ∈ rs,r.name=x:=fun x hx=>(T0.named x).2 hx
    refine ⟨hw,⟨sortS_rises h2,sortS_rises (hnd _),sortS_rises (hnd _),sortS_rises (hnd _),fun x=>?_,fun x=>?_,fun x=>?_,fun x=>?_⟩⟩
    · rw [(sortS_perm _).mem_iff,List.mem_map,funF_isSome]
      exact ⟨fun ⟨f,hf,e⟩=>⟨f,(h1 f).1 hf,e⟩,fun ⟨f,hf,e⟩=>⟨f,(h1 f).2 hf,e⟩⟩
    · rw [mem]
      constructor
      · rintro ⟨r,hr,rfl,hp⟩
        unfold isSB locB at hp
        rw [hno r hr] at hp
        simp only [Bool.not_false,Bool.true_and,Bool.and_eq_true,Bool.not_eq_true',decide_eq_false_iff_not] at hp
        refine ⟨(T0.named _).1 ⟨r,hr,rfl⟩,fun ha=>?_,hp.1⟩
        rw [((hlast r hr).2).2 ha] at hp; cases hp.2
      · rintro ⟨h5,h6,h7⟩
        obtain ⟨r,hr,rfl⟩:=named x h5
        refine ⟨r,hr,rfl,?_⟩
        unfold isSB locB
        rw [hno r hr]
        have:(fl r.id).2=false:=by
          cases hh:(fl r.id).2 with
          | false=>rfl
          | true=>exact absurd (((hlast r hr).2).1 hh) h6
        simp [this,h7]
    · rw [mem]
      constructor
      · rintro ⟨r,hr,rfl,hp⟩
        unfold isAB locB at hp
        rw [hno r hr] at hp
        simp only [Bool.not_false,Bool.true_and,Bool.and_eq_true,Bool.not_eq_true',decide_eq_false_iff_not] at hp
        exact ⟨(T0.named _).1 ⟨r,hr,rfl⟩,((hlast r hr).2).1 hp.2,hp.1⟩
      · rintro ⟨h5,h6,h7⟩
        obtain ⟨r,hr,rfl⟩:=named x h5
        refine ⟨r,hr,rfl,?_⟩
        unfold isAB locB
        rw [hno r hr,((hlast r hr).2).2 h6]
        simp [h7]
    · rw [mem]
      constructor
      · rintro ⟨r,hr,rfl,hp⟩
        unfold isPB locB at hp
        rw [hno r hr] at hp
        simp only [Bool.not_false,Bool.true_and,Bool.and_eq_true,decide_eq_true_eq] at hp
        exact ⟨(T0.named _).1 ⟨r,hr,rfl⟩,((hlast r hr).2).1 hp.2,hp.1⟩
      · rintro ⟨h5,h6,h7⟩
        obtain ⟨r,hr,rfl⟩:=named x h5
        refine ⟨r,hr,rfl,?_⟩
        unfold isPB locB
        rw [hno r hr,((hlast r hr).2).2 h6]
        simp [h7]
def T_nResolve:Tr:=fun args σ K _=>∃ l:List NTree,args=[rowN l]/\l.length <= 1000000/\txNs 40000 l/\wNs l <= 1000000/\depthNs l < 400/\∀ σ' b F S A P,σ.sub σ'->NamesR l b F S A P->K (.tuple [namesAV F S A P,.pv (.bool b)]) σ'
mutual
theorem txN_mono {B C:Nat} (h:B <= C):∀ n:NTree,txN B n->txN C n
  | .mk op text kids,hn=>by rw [txN] at hn ⊢; exact ⟨Nat.le_trans hn.1 h,txNs_mono h kids hn.2⟩
theorem txNs_mono {B C:Nat} (h:B <= C):∀ l:List NTree,txNs B l->txNs C l
  | [],_=>txNs0
  | n :: l,hl=>by rw [txNs] at hl ⊢; exact ⟨txN_mono h n hl.1,txNs_mono h l hl.2⟩
end
theorem bldTable {F V:Nat} {KV:AV->Prop} (hK:KV (.agg [.amap F,.amap V,.pv (.bool false)])):buildD PS 59 [(0,.amap F),(1,.amap V)] KV:=by
  have:buildD PS 59 [(0,.amap F),(1,.amap V)] KV=KV (.agg [.amap F,.amap V,.pv (.bool false)]):=by simp [buildD,buildFill,go_sem,AV.cells,AV.cellOk,setAll]
  rw [this]; exact hK
theorem newMapN {KS:AV->AS->Prop} (hK:∀ i,σ i=none->KS (.amap i) (σ.set i (.mapO 1 [] 0))):makeMapD PS σ 56 none KS:=by
  unfold makeMapD
  rw [mapTN]
  simp only [keyT,true_and]
  exact hK
theorem newMapV {KS:AV->AS->Prop} (hK:∀ i,σ i=none->KS (.amap i) (σ.set i (.mapO 1 [] 0))):makeMapD PS σ 57 none KS:=by
  unfold makeMapD
  rw [mapTV]
  simp only [keyT,true_and]
  exact hK
theorem T_nResolve_ok (h1:env 25=T_sort) (h2:env 24=strT2 fun s t=>.pv (.bool (Lib.contains s t))) (h3:env 23=T_nSpread) (h4:env 22=T_nSpecial) (h5:env 20=T_nDeclared) (h6:env 21=(T_nNode 400).wkArgs)
    (h:T_nResolve args σ K X):bodyD PS env an9 Tryz.f9 args σ (fz4 K) X:=by
  obtain ⟨l,rfl,hl,htx,hw,hd,hK⟩:=h
  rw [<- S9_eq env,S9]
  simp only [lock_eq]
  have hx:okXs l:=okXs_of l (txNs_mono (by decide) l htx) hw
  refine alloc_of T.zo28 rfl (fun t2 ht2=>?_)
  have hS:=(Sep.start σ).alloc ht2 (.cells [.nilS,.nilS,.nilS,.nilS] (some 28))
  generalize σ.set t2 _=σ1 at hS ⊢
  refine newMapN (fun F hF=>?_)
  have hS:=hS.alloc hF (.mapO 1 [] 0)
  generalize σ1.set F _=σ2 at hS ⊢
  refine newMapV (fun V hV=>?_)
  have hS:=hS.alloc hV (.mapO 1 [] 0)
  generalize σ2.set V _=σ3 at hS ⊢
  refine bldTable ?_
  refine ⟨rfl,fun t ht=>?_⟩
  have hS:=hS.alloc ht (.cells [.amap F,.amap V,.pv (.bool false)] none)
  have e0:(AV.agg [.amap F,.amap V,.pv (.bool false)]).cells=[.amap F,.amap V,.pv (.bool false)]:=rfl
  rw [e0]
  generalize σ3.set t _=σ4 at hS ⊢
  have hN:NM σ σ4 t F V [] false [] (fun _=>(false,false)) [outO t2 .nilS .nilS .nilS .nilS]:=by
    refine ⟨hS.perm ?_,by simp⟩
    have p1:((t,AObj.cells [.amap F,.amap V,.pv (.bool false)] none) :: (V,.mapO 1 [] 0) :: (F,.mapO 1 [] 0) :: [(t2,.cells [.nilS,.nilS,.nilS,.nilS] (some 28))]:Objs).Perm
        ((t2,.cells [.nilS,.nilS,.nilS,.nilS] (some 28)) :: (t,.cells [.amap F,.amap V,.pv (.bool false)] none) :: (F,.mapO 1 [] 0) :: [(V,.mapO 1 [] 0)]):=by
      have a1:=List.perm_append_comm (l₁:=([(t,.cells [.amap F,.amap V,.pv (.bool false)] none),(V,.mapO 1 [] 0),(F,.mapO 1 [] 0)]:Objs)) (l₂:=[(t2,.cells [.nilS,.nilS,.nilS,.nilS] (some 28))])
      refine a1.trans (List.Perm.cons _ (List.Perm.cons _ (List.Perm.swap _ _ _)))
    exact p1
  rw [h5]
  refine ⟨σ,t,F,V,false,[],_,_,l,rfl,hl,hx,hN,fun σ5 hdecl hN=>?_,fun σ5 fs' hdecl hN=>?_⟩
  rotate_left
  · refine nF ?_
    refine cT ?_
    rw [bldNames]
    refine stNames (hN.at (i:=t2) (o:=.cells [.nilS,.nilS,.nilS,.nilS] (some 28)) (by simp [outO])) rfl ?_
    have hN2:=NM.turn (A:=[]) (p:=outO t2 .nilS .nilS .nilS .nilS) (B:=[]) (o:=.cells [.nilS,.nilS,.nilS,.nilS] (some 28)) hN
    refine ldNames (hN2.at (i:=t2) (o:=.cells [.nilS,.nilS,.nilS,.nilS] (some 28)) (by simp [outO])) ?_
    refine retV_self ?_
    exact fz4_ret (.inl ⟨rfl,rfl,rfl⟩) (.inl ⟨rfl,rfl,rfl⟩) (.inl ⟨rfl,rfl,rfl⟩) (.inl ⟨rfl,rfl,rfl⟩) (σ0:=σ) (hN2.sep.sublist (by simp)) (fun σ' hs=>hK σ' false [] [] [] [] hs ⟨.inl hdecl,rfl,rfl,rfl,rfl⟩)
  refine nT ?_
  refine cF ?_
  refine rowLen ?_
  have hfsx:∀ g ∈ funcsN l,okX g:=fun g hg=>okXs_iff.1 hx g (List.mem_filter.1 hg).1
  refine lp9_5 (fun (i:Nat) _=>l.length - i) (fun i τ=>i <= l.length/\∃ G,NS σ τ t F V (funcsN l) (G ++ [outO t2 .nilS .nilS .nilS .nilS]) (evL (funcsN l) (l.take i))) (fun i=>.pv (.int .i64 (i:Nat))) 0 ⟨Nat.zero_le _,[],false,[],_,hN,?_,?_⟩ ?_
  · rw [List.take_zero]; exact Told.start
  · rw [List.take_zero]; unfold evL; simp
  clear hN hS
  rintro i τ ⟨hi,G,hNS⟩
  unfold L9_5
  simp (disch:=omega) only [lock_eq,bin_lss,cond_bool,decide_eq_true_eq]
  refine iteI (fun g1=>?_) (fun g1=>?_)
  · have hil:i < l.length:=by omega
    have hxi:=okXs_mem hx i hil
    have hkl:=okX_kids hxi
    have hdi:=depthNs_mem hil
    have hdk:=depthN_kids l[i]
    have hwi:=wNs_take l i hil
    have hwk:=wN_kids l[i]
    have hel:=evL_len (funcsN l) (l.take i)
    have hsn:evL (funcsN l) (l.take (i + 1))=evL (funcsN l) (l.take i) ++ evI (funcsN l) l[i]:=by rw [List.take_succ_eq_append_getElem hil,evL_snoc]
    refine rowIx hil ?_
    refine elemN hil ?_
    refine hNS.newN (fun t6 σ9 hNS=>?_)
    simp only [T.fa50_0,T.fa50_2,Nat.zero_add]
    refine hNS.ldOp (n:=l[i]) (v:=some 50) (by simp) ?_
    simp only [bin_seql,cond_bool]
    refine iteI (fun g2=>?_) (fun g2=>?_)
    · have g2':l[i].op=kFunc:=beq_iff_eq.1 g2
      have hne:l[i].kids ≠ []:=(hdecl.plain l[i] (by unfold funcsN; rw [List.mem_filter]; exact ⟨List.getElem_mem hil,by simp [g2']⟩)).2
      have hkpos:0 < l[i].kids.length:=List.length_pos_iff.2 hne
      refine hNS.ldKids (n:=l[i]) (v:=some 50) (by simp) ?_
      refine rowCut (k:=1) hkpos ?_
      have et:l[i].kids.drop 1=l[i].kids.tail:=by cases l[i].kids <;> rfl
      rw [et]
      refine rowLen ?_
      have hxt:okXs l[i].kids.tail:=okXs_iff.2 fun x hx=>okXs_iff.1 hkl.2.2 x (List.mem_of_mem_tail hx)
      have htl:l[i].kids.tail.length <= 1000000:=by rw [List.length_tail]; have:=hkl.2.1; omega
      have hwt:wNs l[i].kids.tail <= wNs l[i].kids:=by
        cases l[i].kids with
        | nil=>exact Nat.le_refl _
        | cons k ks=>rw [List.tail_cons,wNs]; omega
      have hdt:depthNs l[i].kids.tail <= depthNs l[i].kids:=by
        cases l[i].kids with
        | nil=>exact Nat.le_refl _
        | cons k ks=>rw [List.tail_cons,depthNs]; exact Nat.le_max_right ..
      refine lp9_9 (fun (j:Nat) _=>l[i].kids.tail.length - j) (fun j τ=>j <= l[i].kids.tail.length/\∃ G,NS σ τ t F V (funcsN l) (G ++ boxV t6 (some 50) l[i] :: [outO t2 .nilS .nilS .nilS .nilS]) (evL (funcsN l) (l.take i) ++ evNs (funcsN l) l[i] (l[i].kids.tail.take j))) (fun j=>.pv (.int .i64 (j:Nat))) 0 ⟨Nat.zero_le _,[],?_⟩ ?_
      · rw [List.take_zero,evNs,List.append_nil]
        exact hNS.part (List.Sublist.cons_cons _ (List.sublist_append_right G _))
      clear hNS
      rintro j τ ⟨hj,G2,hNS⟩
      unfold L9_9
      simp (disch:=omega) only [lock_eq,bin_lss,cond_bool,decide_eq_true_eq]
      refine iteI (fun g3=>?_) (fun g3=>?_)
      · have hjl:j < l[i].kids.tail.length:=by omega
        refine rowIx hjl ?_
        refine elemN hjl ?_
        refine hNS.newN (fun t8 σ12 hNS=>?_)
        refine hNS.ldBox (n:=l[i].kids.tail[j]) (v:=some 50) (by simp) ?_
        refine hNS.ldBox (n:=l[i]) (v:=some 50) (by simp) ?_
        rw [h6]
        have hwj:=wNs_take l[i].kids.tail j hjl
        have hej:=evNs_len (funcsN l) l[i] (l[i].kids.tail.take j)
        have hdj:=depthNs_mem hjl
        refine ⟨[.addr t 0,nodeAV l[i].kids.tail[j],nodeAV l[i]],⟨wk_refl _,wk_refl _,wk_refl _,trivial⟩,σ,t,F,V,funcsN l,_,_,l[i].kids.tail[j],l[i],rfl,by omega,okXs_mem hxt j hjl,hxi,hfsx,by rw [List.length_append]; omega,hNS,fun σ13 hNS=>?_⟩
        simp (disch:=omega) only [go_sem]
        refine back (j + 1) rfl (by omega) ⟨by omega,boxV t8 (some 50) l[i].kids.tail[j] :: G2,?_⟩
        rw [List.take_succ_eq_append_getElem hjl,evNs_snoc,<- List.append_assoc]
        exact hNS
      · have e:j=l[i].kids.tail.length:=by omega
        subst e
        rw [List.take_length] at hNS
        simp (disch:=omega) only [go_sem]
        refine back (i + 1) rfl (by omega) ⟨by omega,G2 ++ [boxV t6 (some 50) l[i]],?_⟩
        rw [hsn]
        unfold evI
        rw [if_pos g2']
        simpa using hNS
    · have g2':¬ l[i].op=kFunc:=fun h=>g2 (beq_iff_eq.2 h)
      refine hNS.ldKids (n:=l[i]) (v:=some 50) (by simp) ?_
      refine bldKids ?_
      refine bldNo ?_
      rw [h6]
      have ew:wN (.mk [] [] l[i].kids)=wN l[i]:=by rw [wN,hwk]
      have ed:depthN (.mk [] [] l[i].kids)=depthN l[i]:=by rw [depthN,hdk]
      refine ⟨[.addr t 0,nodeAV (.mk [] [] l[i].kids),nodeAV noF],⟨wk_refl _,wk_refl _,wk_noF,trivial⟩,σ,t,F,V,funcsN l,_,_,.mk [] [] l[i].kids,noF,rfl,by rw [ed]; omega,okX_mk.2 ⟨by simp,hkl.2.1,hkl.2.2⟩,okX_mk.2 ⟨by simp,by simp,by rw [okXs]; trivial⟩,hfsx,by rw [ew]; omega,hNS,fun σ14 hNS=>?_⟩
      simp (disch:=omega) only [go_sem]
      refine back (i + 1) rfl (by omega) ⟨by omega,boxV t6 (some 50) l[i] :: G,?_⟩
      rw [hsn]
      unfold evI
      rw [if_neg g2']
      have ee:evN (funcsN l) noF (.mk [] [] l[i].kids)=evNs (funcsN l) noF l[i].kids:=by
        rw [evN_eq]
        show (if ([]:Bytes)=oCall then _ else if ([]:Bytes)=oElem \/ ([]:Bytes)=wIn \/ ([]:Bytes)=oDelete then _ else if ([]:Bytes)=oVar then _ else if ([]:Bytes)=oForin then _ else if ([]:Bytes)=kBuilt/\_ then _ else _)=_
        rw [if_neg (by decide),if_neg (by decide),if_neg (by decide),if_neg (by decide)]
        exact if_neg (fun h=>absurd h.1 (by decide))
      rw [ee] at hNS
      exact hNS
  · have e:i=l.length:=by omega
    subst e
    rw [List.take_length] at hNS
    obtain ⟨bad,rs,fl0,hN,hT,hb⟩:=hNS
    simp only [nil_addr,T.fa59_1,Nat.zero_add,T.ld57,hN.gT,ldM_cells,List.getElem?_cons_zero,List.getElem?_cons_succ,someEx]
    refine NM.range (l:=varE rs) (by rw [mapTV]; rfl) hN hN.gV (fun it σ15 hN2=>?_)
    have hel:=evL_len (funcsN l) l
    have hfew:=named_few hT
    have hfl:(funcsN l).length <= l.length:=by unfold funcsN; exact List.length_filter_le ..
    refine rsA h1 h2 h3 h4 rfl (by omega) hdecl.once hT (by omega) (by omega) (fun r hr=>?_) hN2 (end_names hdecl hT hb hK)
    have:=evL_short htx ((hT.named _).1 ⟨r,hr,rfl⟩)
    omega
theorem F_nResolve (hm:HM):SoundF PS 9 T_nResolve :=
  SoundF.frzA (SoundF.frzA (SoundF.frzA (SoundF.frzA (body_sound hm (EnvOk.add (EnvOk.add (EnvOk.add (EnvOk.add (EnvOk.add (EnvOk.add (env0_ok PS) F_sort) F_Contains) (F_nSpread hm)) (F_nSpecial hm)) (F_nDeclared hm)) (F_nNode hm 400).wkArgs) an9 Tryz.func9 Tryz.call9 S9_ok (fun args σ K X h=>by
    obtain ⟨_,rfl,_,rfl,_,rfl,K,rfl,h⟩:=h
    exact T_nResolve_ok rfl rfl rfl rfl rfl rfl h)))))
end
end Go.AD.Lx

set_option linter.unusedVariables false
set_option maxRecDepth 100000
namespace Go.AD
open Go.Proofs.Tryz
def an32:An:={ mu:=[],cut:=[],loop:=[(4,[0,1,5])] }
def L32_4 (env:Env) (I4:Nat->List AV->AS->Prop) (m4:Nat) (a0_l4 b1_l4 i5_l4:AV) (s:AS) (K:AV->AS->Prop) (X:PV->AS->Prop):Prop :=
 (lock lenD prog 26 a0_l4 fun t13 =>
 (lock binD prog .lss 3 i5_l4 t13 fun t14 =>
 (condD t14
 (lock indexAddrD prog 26 a0_l4 i5_l4 fun t19 =>
 (lock loadD prog s 9 t19 fun t20 =>
 (lock indexAddrD prog 26 b1_l4 i5_l4 fun t23 =>
 (lock loadD prog s 9 t23 fun t24 =>
 (lock binD prog .neq 9 t20 t24 fun t25 =>
 (condD t25
 (retV ((.pv (.bool false))) s K)
 (lock binD prog .add 3 i5_l4 (.pv (.int .i64 1)) fun t16 =>
 (∃ m',m' < m4/\I4 m' [a0_l4,b1_l4,t16] s))))))))
 (retV ((.pv (.bool true))) s K))))
theorem L32_4_eq (env:Env) (I4:Nat->List AV->AS->Prop) (m4:Nat) (a0_l4 b1_l4 i5_l4:AV) (s:AS) (K:AV->AS->Prop) (X:PV->AS->Prop):L32_4 env I4 m4 a0_l4 b1_l4 i5_l4 s K X=wpD prog env an32 (subC (bodyC f32) [1,1,0,1,0,0]) (contQ prog env an32 (bodyC f32) [1,1,0,1,0,0] [(I4,m4)] (rootQ prog f32 K X)) [(0,a0_l4),(1,b1_l4),(5,i5_l4)] s:=by
  unfold L32_4
  kernel_rfl
theorem lp32_4 {α:Type} {env:Env}  {a0_l4 b1_l4:AV} {s:AS} {K:AV->AS->Prop} {X:PV->AS->Prop} (μ:α->AS->Nat) (I:α->AS->Prop) (ei5_l4:α->AV) (a0:α) (h0:I a0 s)
 (h:∀ a s,I a s->L32_4 env  (Inv (fun a=>[a0_l4,b1_l4,ei5_l4 a]) μ I) (μ a s) a0_l4 b1_l4 (ei5_l4 a) s K X) :
 ∃ I4:Nat->List AV->AS->Prop,(∃ m,I4 m [a0_l4,b1_l4,ei5_l4 a0] s)/\∀ (m:Nat) (x0 x1 x2:AV),∀ s,I4 m [x0,x1,x2] s ->
 L32_4 env  I4 m x0 x1 x2 s K X:=by
  refine ⟨Inv (fun a=>[a0_l4,b1_l4,ei5_l4 a]) μ I,⟨_,a0,rfl,rfl,h0⟩,?_⟩
  rintro m x0 x1 x2 s' ⟨a,hv,rfl,hI⟩
  simp only [List.cons.injEq,and_true] at hv
  obtain ⟨rfl,rfl,rfl⟩:=hv
  exact h a s' hI
def S32 (env:Env) (a0_a b1_a:AV) (s:AS) (K:AV->AS->Prop) (X:PV->AS->Prop):Prop :=
 (lock lenD prog 26 a0_a fun t7 =>
 (lock lenD prog 26 b1_a fun t9 =>
 (lock binD prog .neq 3 t7 t9 fun t10 =>
 (condD t10
 (retV ((.pv (.bool false))) s K)
 (∃ I4:Nat->List AV->AS->Prop,(∃ m,I4 m [a0_a,b1_a,(.pv (.int .i64 0))] s)/\∀ (m4:Nat) (a0_l4 b1_l4 i5_l4:AV),∀ s1,I4 m4 [a0_l4,b1_l4,i5_l4] s1 ->
 (L32_4 env I4 m4 a0_l4 b1_l4 i5_l4 s1 K X))))))
theorem S32_eq (env:Env) (a0_a b1_a:AV) (s:AS) (K:AV->AS->Prop) (X:PV->AS->Prop):S32 env a0_a b1_a s K X=bodyD prog env an32 f32 [a0_a,b1_a] s K X:=by
  unfold S32
  simp only [L32_4_eq]
  kernel_rfl
theorem S32_ok:(match f32.body with | some c=>okCode an32 prog f32.ntmps c | none=>false)=true:=by kernel_rfl
def an11:An:={ mu:=[],cut:=[],loop:=[] }
def S11 (env:Env) (a0_a b1_a:AV) (s:AS) (K:AV->AS->Prop) (X:PV->AS->Prop):Prop :=
 (lock boxD s a0_a fun t2 s1 =>
 (lock boxD s1 b1_a fun t3 s2 =>
 (lock fieldAddrD prog 28 t2 0 fun t5 =>
 (lock loadD prog s2 26 t5 fun t6 =>
 (lock fieldAddrD prog 28 t3 0 fun t7 =>
 (lock loadD prog s2 26 t7 fun t8 =>
 (env 32 [t6,t8] s2 (fun t9 s3 =>
 (guardD t9 true
 (lock fieldAddrD prog 28 t2 1 fun t11 =>
 (lock loadD prog s3 26 t11 fun t12 =>
 (lock fieldAddrD prog 28 t3 1 fun t13 =>
 (lock loadD prog s3 26 t13 fun t14 =>
 (env 32 [t12,t14] s3 (fun t15 s4 =>
 (guardD t15 true
 (lock fieldAddrD prog 28 t2 2 fun t18 =>
 (lock loadD prog s4 26 t18 fun t19 =>
 (lock fieldAddrD prog 28 t3 2 fun t20 =>
 (lock loadD prog s4 26 t20 fun t21 =>
 (env 32 [t19,t21] s4 (fun t22 s5 =>
 (guardD t22 true
 (lock fieldAddrD prog 28 t2 3 fun t25 =>
 (lock loadD prog s5 26 t25 fun t26 =>
 (lock fieldAddrD prog 28 t3 3 fun t27 =>
 (lock loadD prog s5 26 t27 fun t28 =>
 (env 32 [t26,t28] s5 (fun t29 s6 =>
 (retV (t29) s6 K)) (panV X))))))
 (retV ((.pv (.bool false))) s5 K))) (panV X))))))
 (retV ((.pv (.bool false))) s4 K))) (panV X))))))
 (retV ((.pv (.bool false))) s3 K))) (panV X))))))))
theorem S11_eq (env:Env) (a0_a b1_a:AV) (s:AS) (K:AV->AS->Prop) (X:PV->AS->Prop):S11 env a0_a b1_a s K X=bodyD prog env an11 f11 [a0_a,b1_a] s K X:=by
  unfold S11
  kernel_rfl
theorem S11_ok:(match f11.body with | some c=>okCode an11 prog f11.ntmps c | none=>false)=true:=by kernel_rfl
def an7:An:={ mu:=[],cut:=[],loop:=[] }
def S7 (env:Env) (s:AS) (K:AV->AS->Prop) (X:PV->AS->Prop):Prop :=
 (env 12 [(.pv (.str [102,117,110,99,116,105,111,110,32,102,40,97,41,32,123,32,97,91,49,93,32,61,32,120,32,125,10,66,69,71,73,78,32,123,32,102,40,116,41,32,125]))] s (fun t6 s1 =>
 (lock extractD t6 0 fun t7 =>
 (lock extractD t6 1 fun t8 =>
 (env 9 [t7] s1 (fun t11 s2 =>
 (lock extractD t11 0 fun t12 =>
 (lock extractD t11 1 fun t13 =>
 (lock allocD prog s2 28 fun t3 s3 =>
 (lock storeD prog s3 28 t3 t12 fun s4 =>
 (guardD t13 true
 (lock fieldAddrD prog 28 t3 2 fun t16 =>
 (lock loadD prog s4 26 t16 fun t17 =>
 (lock lenD prog 26 t17 fun t18 =>
 (lock binD prog .eql 3 t18 (.pv (.int .i64 1)) fun t19 =>
 (guardD t19 true
 (lock fieldAddrD prog 28 t3 2 fun t22 =>
 (lock loadD prog s4 26 t22 fun t23 =>
 (lock indexAddrD prog 26 t23 (.pv (.int .i64 0)) fun t24 =>
 (lock loadD prog s4 9 t24 fun t25 =>
 (lock binD prog .eql 9 t25 (.pv (.str [116])) fun t26 =>
 (guardD t26 true
 (lock fieldAddrD prog 28 t3 3 fun t29 =>
 (lock loadD prog s4 26 t29 fun t30 =>
 (lock lenD prog 26 t30 fun t31 =>
 (lock binD prog .eql 3 t31 (.pv (.int .i64 1)) fun t32 =>
 (guardD t32 true
 (lock fieldAddrD prog 28 t3 1 fun t35 =>
 (lock loadD prog s4 26 t35 fun t36 =>
 (lock lenD prog 26 t36 fun t37 =>
 (lock binD prog .eql 3 t37 (.pv (.int .i64 1)) fun t38 =>
 (retV (t38) s4 K)))))
 (retV ((.pv (.bool false))) s4 K))))))
 (retV ((.pv (.bool false))) s4 K)))))))
 (retV ((.pv (.bool false))) s4 K))))))
 (retV ((.pv (.bool false))) s4 K))))))) (panV X))))) (panV X))
theorem S7_eq (env:Env) (s:AS) (K:AV->AS->Prop) (X:PV->AS->Prop):S7 env  s K X=bodyD prog env an7 f7 [] s K X:=by
  unfold S7
  kernel_rfl
theorem S7_ok:(match f7.body with | some c=>okCode an7 prog f7.ntmps c | none=>false)=true:=by kernel_rfl
def an4:An:={ mu:=[],cut:=[],loop:=[(13,[6,60,61,62]),(16,[6,8,60,61,62,66,67,68])] }
def L4_16 (env:Env) (I13:Nat->List AV->AS->Prop) (m13:Nat) (I16:Nat->List AV->AS->Prop) (m16:Nat) (seen6_l16 list8_l16 t60_l16 t61_l16 t62_l16 t66_l16 t67_l16 t68_l16:AV) (s:AS) (K:AV->AS->Prop) (X:PV->AS->Prop):Prop :=
 (lock binD prog .lss 3 t68_l16 t67_l16 fun t69 =>
 (condD t69
 (lock indexAddrD prog 26 t66_l16 t68_l16 fun t71 =>
 (lock loadD prog s 9 t71 fun t72 =>
 (lock lookupD prog s 33 seen6_l16 t72 false fun t75 =>
 (guardD t75 false
 (lock binD prog .gtr 3 t68_l16 (.pv (.int .i64 0)) fun t78 =>
 (guardD t78 true
 (lock binD prog .sub 3 t68_l16 (.pv (.int .i64 1)) fun t82 =>
 (lock indexAddrD prog 26 list8_l16 t82 fun t83 =>
 (lock loadD prog s 9 t83 fun t84 =>
 (lock binD prog .geq 9 t84 t72 fun t86 =>
 (condD t86
 (retV ((.pv (.bool false))) s K)
 (lock mapUpdateD prog s 33 seen6_l16 t72 (.pv (.bool true)) fun s11 =>
 (lock binD prog .add 3 t68_l16 (.pv (.int .i64 1)) fun t91 =>
 (∃ m',m' < m16/\I16 m' [seen6_l16,list8_l16,t60_l16,t61_l16,t62_l16,t66_l16,t67_l16,t91] s11))))))))
 (lock mapUpdateD prog s 33 seen6_l16 t72 (.pv (.bool true)) fun s12 =>
 (lock binD prog .add 3 t68_l16 (.pv (.int .i64 1)) fun t91 =>
 (∃ m',m' < m16/\I16 m' [seen6_l16,list8_l16,t60_l16,t61_l16,t62_l16,t66_l16,t67_l16,t91] s12)))))
 (retV ((.pv (.bool false))) s K)))))
 (lock binD prog .add 3 t62_l16 (.pv (.int .i64 1)) fun t92 =>
 (∃ m',m' < m13/\I13 m' [seen6_l16,t60_l16,t61_l16,t92] s))))
theorem L4_16_eq (env:Env) (I13:Nat->List AV->AS->Prop) (m13:Nat) (I16:Nat->List AV->AS->Prop) (m16:Nat) (seen6_l16 list8_l16 t60_l16 t61_l16 t62_l16 t66_l16 t67_l16 t68_l16:AV) (s:AS) (K:AV->AS->Prop) (X:PV->AS->Prop):L4_16 env I13 m13 I16 m16 seen6_l16 list8_l16 t60_l16 t61_l16 t62_l16 t66_l16 t67_l16 t68_l16 s K X=wpD prog env an4 (subC (bodyC f4) [1,1,1,1,1,1,1,1,0,1,0,0,1,1,0,0,1,1,0,0]) (contQ prog env an4 (bodyC f4) [1,1,1,1,1,1,1,1,0,1,0,0,1,1,0,0,1,1,0,0] [(I13,m13),(I16,m16)] (rootQ prog f4 K X)) [(6,seen6_l16),(8,list8_l16),(60,t60_l16),(61,t61_l16),(62,t62_l16),(66,t66_l16),(67,t67_l16),(68,t68_l16)] s:=by
  unfold L4_16
  kernel_rfl
theorem lp4_16 {α:Type} {env:Env} {I13:Nat->List AV->AS->Prop} {m13:Nat} {seen6_l16 list8_l16 t60_l16 t61_l16 t62_l16 t66_l16 t67_l16:AV} {s:AS} {K:AV->AS->Prop} {X:PV->AS->Prop} (μ:α->AS->Nat) (I:α->AS->Prop) (et68_l16:α->AV) (a0:α) (h0:I a0 s)
 (h:∀ a s,I a s->L4_16 env I13 m13 (Inv (fun a=>[seen6_l16,list8_l16,t60_l16,t61_l16,t62_l16,t66_l16,t67_l16,et68_l16 a]) μ I) (μ a s) seen6_l16 list8_l16 t60_l16 t61_l16 t62_l16 t66_l16 t67_l16 (et68_l16 a) s K X) :
 ∃ I16:Nat->List AV->AS->Prop,(∃ m,I16 m [seen6_l16,list8_l16,t60_l16,t61_l16,t62_l16,t66_l16,t67_l16,et68_l16 a0] s)/\∀ (m:Nat) (x0 x1 x2 x3 x4 x5 x6 x7:AV),∀ s,I16 m [x0,x1,x2,x3,x4,x5,x6,x7] s ->
 L4_16 env I13 m13 I16 m x0 x1 x2 x3 x4 x5 x6 x7 s K X:=by
  refine ⟨Inv (fun a=>[seen6_l16,list8_l16,t60_l16,t61_l16,t62_l16,t66_l16,t67_l16,et68_l16 a]) μ I,⟨_,a0,rfl,rfl,h0⟩,?_⟩
  rintro m x0 x1 x2 x3 x4 x5 x6 x7 s' ⟨a,hv,rfl,hI⟩
  simp only [List.cons.injEq,and_true] at hv
  obtain ⟨rfl,rfl,rfl,rfl,rfl,rfl,rfl,rfl⟩:=hv
  exact h a s' hI
def L4_13 (env:Env) (I13:Nat->List AV->AS->Prop) (m13:Nat) (seen6_l13 t60_l13 t61_l13 t62_l13:AV) (s:AS) (K:AV->AS->Prop) (X:PV->AS->Prop):Prop :=
 (lock binD prog .lss 3 t62_l13 t61_l13 fun t63 =>
 (condD t63
 (lock indexAddrD prog 34 t60_l13 t62_l13 fun t64 =>
 (lock loadD prog s 26 t64 fun t65 =>
 (lock lenD prog 26 t65 fun t67 =>
 (∃ I16:Nat->List AV->AS->Prop,(∃ m,I16 m [seen6_l13,t65,t60_l13,t61_l13,t62_l13,t65,t67,(.pv (.int .i64 0))] s)/\∀ (m16:Nat) (seen6_l16 list8_l16 t60_l16 t61_l16 t62_l16 t66_l16 t67_l16 t68_l16:AV),∀ s10,I16 m16 [seen6_l16,list8_l16,t60_l16,t61_l16,t62_l16,t66_l16,t67_l16,t68_l16] s10 ->
 (L4_16 env I13 m13 I16 m16 seen6_l16 list8_l16 t60_l16 t61_l16 t62_l16 t66_l16 t67_l16 t68_l16 s10 K X)))))
 (retV ((.pv (.bool true))) s K)))
theorem L4_13_eq (env:Env) (I13:Nat->List AV->AS->Prop) (m13:Nat) (seen6_l13 t60_l13 t61_l13 t62_l13:AV) (s:AS) (K:AV->AS->Prop) (X:PV->AS->Prop):L4_13 env I13 m13 seen6_l13 t60_l13 t61_l13 t62_l13 s K X=wpD prog env an4 (subC (bodyC f4) [1,1,1,1,1,1,1,1,0,1,0,0]) (contQ prog env an4 (bodyC f4) [1,1,1,1,1,1,1,1,0,1,0,0] [(I13,m13)] (rootQ prog f4 K X)) [(6,seen6_l13),(60,t60_l13),(61,t61_l13),(62,t62_l13)] s:=by
  unfold L4_13
  simp only [L4_16_eq]
  kernel_rfl
theorem lp4_13 {α:Type} {env:Env}  {seen6_l13 t60_l13 t61_l13:AV} {s:AS} {K:AV->AS->Prop} {X:PV->AS->Prop} (μ:α->AS->Nat) (I:α->AS->Prop) (et62_l13:α->AV) (a0:α) (h0:I a0 s)
 (h:∀ a s,I a s->L4_13 env  (Inv (fun a=>[seen6_l13,t60_l13,t61_l13,et62_l13 a]) μ I) (μ a s) seen6_l13 t60_l13 t61_l13 (et62_l13 a) s K X) :
 ∃ I13:Nat->List AV->AS->Prop,(∃ m,I13 m [seen6_l13,t60_l13,t61_l13,et62_l13 a0] s)/\∀ (m:Nat) (x0 x1 x2 x3:AV),∀ s,I13 m [x0,x1,x2,x3] s ->
 L4_13 env  I13 m x0 x1 x2 x3 s K X:=by
  refine ⟨Inv (fun a=>[seen6_l13,t60_l13,t61_l13,et62_l13 a]) μ I,⟨_,a0,rfl,rfl,h0⟩,?_⟩
  rintro m x0 x1 x2 x3 s' ⟨a,hv,rfl,hI⟩
  simp only [List.cons.injEq,and_true] at hv
  obtain ⟨rfl,rfl,rfl,rfl⟩:=hv
  exact h a s' hI
def S4 (env:Env) (s0_a:AV) (s:AS) (K:AV->AS->Prop) (X:PV->AS->Prop):Prop :=
 (env 7 [] s (fun t11 s1 =>
 (unD .not t11 fun t12 =>
 (condD t12
 (retV ((.pv (.bool false))) s1 K)
 (lock lenD prog 9 s0_a fun t14 =>
 (lock binD prog .gtr 3 t14 (.pv (.int .i64 3000)) fun t15 =>
 (condD t15
 (retV ((.pv (.bool true))) s1 K)
 (env 12 [s0_a] s1 (fun t18 s2 =>
 (lock extractD t18 0 fun t19 =>
 (lock extractD t18 1 fun t20 =>
 (unD .not t20 fun t22 =>
 (condD t22
 (retV ((.pv (.bool true))) s2 K)
 (env 9 [t19] s2 (fun t25 s3 =>
 (lock extractD t25 0 fun t26 =>
 (lock extractD t25 1 fun t27 =>
 (lock allocD prog s3 28 fun t5 s4 =>
 (lock storeD prog s4 28 t5 t26 fun s5 =>
 (unD .not t27 fun t29 =>
 (condD t29
 (lock loadD prog s5 28 t5 fun t30 =>
 (lock loadD prog s5 28 t5 fun t31 =>
 (env 11 [t30,t31] s5 (fun t32 s6 =>
 (guardD t32 true
 (lock fieldAddrD prog 28 t5 0 fun t34 =>
 (lock loadD prog s6 26 t34 fun t35 =>
 (lock lenD prog 26 t35 fun t36 =>
 (lock fieldAddrD prog 28 t5 1 fun t37 =>
 (lock loadD prog s6 26 t37 fun t38 =>
 (lock lenD prog 26 t38 fun t39 =>
 (lock binD prog .add 3 t36 t39 fun t40 =>
 (lock fieldAddrD prog 28 t5 2 fun t41 =>
 (lock loadD prog s6 26 t41 fun t42 =>
 (lock lenD prog 26 t42 fun t43 =>
 (lock binD prog .add 3 t40 t43 fun t44 =>
 (lock fieldAddrD prog 28 t5 3 fun t45 =>
 (lock loadD prog s6 26 t45 fun t46 =>
 (lock lenD prog 26 t46 fun t47 =>
 (lock binD prog .add 3 t44 t47 fun t48 =>
 (lock binD prog .eql 3 t48 (.pv (.int .i64 0)) fun t49 =>
 (retV (t49) s6 K)))))))))))))))))
 (retV ((.pv (.bool false))) s6 K))) (panV X))))
 (lock makeMapD prog s5 33 none fun t51 s7 =>
 (lock fieldAddrD prog 28 t5 0 fun t52 =>
 (lock loadD prog s7 26 t52 fun t53 =>
 (lock fieldAddrD prog 28 t5 1 fun t54 =>
 (lock loadD prog s7 26 t54 fun t55 =>
 (lock fieldAddrD prog 28 t5 2 fun t56 =>
 (lock loadD prog s7 26 t56 fun t57 =>
 (lock fieldAddrD prog 28 t5 3 fun t58 =>
 (lock loadD prog s7 26 t58 fun t59 =>
 (lock buildSliceD prog false s7 34 4 4 [(0,t53),(1,t55),(2,t57),(3,t59)] fun t60 s8 =>
 (lock lenD prog 34 t60 fun t61 =>
 (∃ I13:Nat->List AV->AS->Prop,(∃ m,I13 m [t51,t60,t61,(.pv (.int .i64 0))] s8)/\∀ (m13:Nat) (seen6_l13 t60_l13 t61_l13 t62_l13:AV),∀ s9,I13 m13 [seen6_l13,t60_l13,t61_l13,t62_l13] s9 ->
 (L4_13 env I13 m13 seen6_l13 t60_l13 t61_l13 t62_l13 s9 K X)))))))))))))))))))) (panV X))))))) (panV X)))))))) (panV X))
theorem S4_eq (env:Env) (s0_a:AV) (s:AS) (K:AV->AS->Prop) (X:PV->AS->Prop):S4 env s0_a s K X=bodyD prog env an4 f4 [s0_a] s K X:=by
  unfold S4
  simp only [L4_13_eq]
  kernel_rfl
theorem S4_ok:(match f4.body with | some c=>okCode an4 prog f4.ntmps c | none=>false)=true:=by kernel_rfl
def an5:An:={ mu:=[],cut:=[(5,[0,1]),(9,[5,7])],loop:=[] }
def J5_9 (env:Env)  (a5_j9 b7_j9:AV) (s:AS) (K:AV->AS->Prop) (X:PV->AS->Prop):Prop :=
 (lock lenD prog 23 a5_j9 fun t42 =>
 (lock lenD prog 23 a5_j9 fun t44 =>
 (lock cutD prog 23 a5_j9 t42 t44 fun t45 =>
 (lock appendD prog false s 23 t45 b7_j9 fun t47 s4 =>
 (env 9 [t47] s4 (fun t48 s5 =>
 (lock extractD t48 0 fun t49 =>
 (lock extractD t48 1 fun t50 =>
 (lock allocD prog s5 28 fun t9 s6 =>
 (lock storeD prog s6 28 t9 t49 fun s7 =>
 (lock lenD prog 23 b7_j9 fun t54 =>
 (lock lenD prog 23 b7_j9 fun t56 =>
 (lock cutD prog 23 b7_j9 t54 t56 fun t57 =>
 (lock appendD prog false s7 23 t57 a5_j9 fun t59 s8 =>
 (env 9 [t59] s8 (fun t60 s9 =>
 (lock extractD t60 0 fun t61 =>
 (lock extractD t60 1 fun t62 =>
 (lock allocD prog s9 28 fun t11 s10 =>
 (lock storeD prog s10 28 t11 t61 fun s11 =>
 (lock binD prog .eql 4 t50 t62 fun t65 =>
 (guardD t65 true
 (lock loadD prog s11 28 t9 fun t67 =>
 (lock loadD prog s11 28 t11 fun t68 =>
 (env 11 [t67,t68] s11 (fun t69 s12 =>
 (retV (t69) s12 K)) (panV X))))
 (retV ((.pv (.bool false))) s11 K)))))))) (panV X))))))))))) (panV X))))))
def J5_5 (env:Env)  (s0_j5 t1_j5:AV) (s:AS) (K:AV->AS->Prop) (X:PV->AS->Prop):Prop :=
 (env 12 [s0_j5] s (fun t25 s2 =>
 (lock extractD t25 0 fun t26 =>
 (lock extractD t25 1 fun t27 =>
 (env 12 [t1_j5] s2 (fun t30 s3 =>
 (lock extractD t30 0 fun t31 =>
 (lock extractD t30 1 fun t32 =>
 (unD .not t27 fun t34 =>
 (guardD t34 false
 (unD .not t32 fun t37 =>
 (condD t37
 (retV ((.pv (.bool true))) s3 K)
 (J5_9 env  (t26) (t31) s3 K X)))
 (retV ((.pv (.bool true))) s3 K)))))) (panV X))))) (panV X))
def S5 (env:Env) (s0_a t1_a:AV) (s:AS) (K:AV->AS->Prop) (X:PV->AS->Prop):Prop :=
 (env 7 [] s (fun t13 s1 =>
 (unD .not t13 fun t14 =>
 (condD t14
 (retV ((.pv (.bool false))) s1 K)
 (lock lenD prog 9 s0_a fun t16 =>
 (lock binD prog .gtr 3 t16 (.pv (.int .i64 1500)) fun t17 =>
 (guardD t17 false
 (lock lenD prog 9 t1_a fun t20 =>
 (lock binD prog .gtr 3 t20 (.pv (.int .i64 1500)) fun t21 =>
 (condD t21
 (retV ((.pv (.bool true))) s1 K)
 (J5_5 env  (s0_a) (t1_a) s1 K X))))
 (retV ((.pv (.bool true))) s1 K))))))) (panV X))
theorem S5_eq (env:Env) (s0_a t1_a:AV) (s:AS) (K:AV->AS->Prop) (X:PV->AS->Prop):S5 env s0_a t1_a s K X=bodyD prog env an5 f5 [s0_a,t1_a] s K X:=by
  unfold S5
  kernel_rfl
theorem S5_ok:(match f5.body with | some c=>okCode an5 prog f5.ntmps c | none=>false)=true:=by kernel_rfl
end Go.AD
