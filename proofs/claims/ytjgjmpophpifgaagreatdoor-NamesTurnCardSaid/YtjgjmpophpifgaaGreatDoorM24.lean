import Derived.Test.YtjgjmpophpifgaaGreatDoorM23
import Derived.Test.YtjgjmpophpifgaaGreatDoorM16
import Derived.Test.YtjgjmpophpifgaaGreatDoorM19
set_option linter.unusedVariables false
set_option linter.unusedSimpArgs false
set_option maxRecDepth 100000
namespace Go.AD.Lx
open Go.Proofs RowKit
theorem nodup_len:∀ (n:Nat) (l:List Nat),l.Nodup->(∀ i ∈ l,i < n)->l.length <= n
  | 0,[],_,_=>Nat.le_refl _
  | 0,a :: l,_,h=>absurd (h a (List.mem_cons_self ..)) (by omega)
  | n + 1,l,hn,h=>by
    have h1:=nodup_len n (l.erase n) (hn.erase n) (fun i hi=>by
      have:=h i (List.mem_of_mem_erase hi)
      have hne:i ≠ n:=fun e=>by subst e; exact absurd hi (List.Nodup.not_mem_erase hn)
      omega)
    have h2:=List.length_erase (a:=n) (l:=l)
    split at h2 <;> omega
theorem all_seen {n:Nat} {l:List Nat} (hn:l.Nodup) (h:∀ i ∈ l,i < n) (hl:n <= l.length):∀ i < n,i ∈ l:=by
  intro i hi
  refine Classical.byContradiction fun hm=>?_
  have:=nodup_len n (i :: l) (List.nodup_cons.2 ⟨hm,hn⟩) (fun j hj=>(List.mem_cons.1 hj).elim (fun e=>e ▸ hi) (h j))
  rw [List.length_cons] at this
  omega
theorem mapEs_mem {l:List (Bytes × AV)} {e:ME} (h:e ∈ mapEs l):∃ i,∃ (hi:i < l.length),e=([l[i].1],l[i].2,i):=by
  obtain ⟨i,hi,rfl⟩:=List.getElem_of_mem h
  have hl:(mapEs l).length=l.length:=mapEsF_len 0 l
  have hi':i < l.length:=by omega
  have e1:=mapEsF_at 0 l i hi'
  rw [Nat.zero_add] at e1
  refine ⟨i,hi',?_⟩
  have e2:(mapEs l)[i]?=some (mapEs l)[i]:=List.getElem?_eq_getElem hi
  unfold mapEs at *
  rw [e1] at e2
  exact (Option.some.inj e2).symm
theorem mapEs_at {l:List (Bytes × AV)} {i:Nat} (hi:i < l.length):([l[i].1],l[i].2,i) ∈ mapEs l:=by
  have e1:=mapEsF_at 0 l i hi
  rw [Nat.zero_add] at e1
  exact List.mem_of_getElem? e1
section
variable {env:Env} {args:List AV} {σ0 σ τ:AS} {K:AV->AS->Prop} {X:PV->AS->Prop} {L Y M A B:Objs} {t F V:Nat} {fs:List NTree} {bad:Bool} {rs l1 l2:List VR} {fl:Marks} {r:VR} {E:List Ev}
theorem iterNext {id m:Nat} {seen:List Nat} {l:List (Bytes × AV)} (hm:σ m=some (.mapO 1 (mapEs l) l.length)) (hi:σ id=some (.mapIt m l.length seen))
    (hend:(∀ i < l.length,i ∈ seen)->K (.tuple [.pv (.bool false)]) σ)
    (hstep:∀ (i:Nat) (h:i < l.length),i ∉ seen->K (.tuple [.pv (.bool true),.pv (.str l[i].1),l[i].2]) (σ.set id (.mapIt m l.length (seen ++ [i])))):nextMapD σ (.iter id) K:=by
  unfold nextMapD
  simp only [hi,hm,true_and]
  refine ⟨fun e he=>?_,?_⟩
  · obtain ⟨i,hil,rfl⟩:=mapEs_mem he
    exact hil
  · split
    · rename_i hnil
      refine hend fun i hil=>?_
      refine Classical.byContradiction fun hns=>?_
      have:([l[i].1],l[i].2,i) ∈ (mapEs l).filter (fun e=>!seen.contains e.2.2):=List.mem_filter.2 ⟨mapEs_at hil,by simp [hns]⟩
      rw [hnil] at this
      cases this
    · intro e he
      rw [List.mem_filter] at he
      obtain ⟨i,hil,rfl⟩:=mapEs_mem he.1
      have hns:i ∉ seen:=by simpa using he.2
      exact hstep i hil hns
theorem iterEntry {id m i:Nat} {seen:List Nat} {l:List (Bytes × AV)} (hm:σ m=some (.mapO 1 (mapEs l) l.length)) (hi:σ id=some (.mapIt m l.length (seen ++ [i]))) (h:i < l.length) {K:AV->Prop}
    (hK:K (.tuple [.pv (.str l[i].1),l[i].2])):entryD σ (.iter id) K:=by
  unfold entryD
  simp only [hi,hm,List.getLast?_append,List.getLast?_singleton,Option.some_or,true_and]
  have hf:(mapEs l).find? (fun e=>e.2.2 == i)=some ([l[i].1],l[i].2,i):=by
    have key:∀ (j:Nat) (ll:List (Bytes × AV)) (k:Nat) (hk:k < ll.length),(mapEsF j ll).find? (fun e=>e.2.2 == j + k)=some ([ll[k].1],ll[k].2,j + k):=by
      intro j ll
      induction ll generalizing j with
      | nil=>intro k hk; simp at hk
      | cons p ll ih =>
        intro k hk
        rw [mapEsF,List.find?_cons]
        cases k with
        | zero=>simp
        | succ k =>
          rw [show (j == j + (k + 1))=false from beq_eq_false_iff_ne.2 (by omega)]
          have:=ih (j + 1) k (by simpa using hk)
          rw [show j + 1 + k=j + (k + 1) by omega] at this
          simpa using this
    have:=key 0 l i h
    rw [Nat.zero_add] at this
    exact this
  rw [hf]
  exact hK
theorem funE_at {l:List NTree} {i:Nat} (h:i < (funE l).length) (h':i < l.length):(funE l)[i]=(l[i].text,nodeAV l[i]):=List.getElem_map (fun f:NTree=>(f.text,nodeAV f)) (h:=h)
theorem ext0' {KV:AV->Prop} {a:AV} (hK:KV a):extractD (.tuple [a]) 0 KV:=hK
theorem ext0'' {KV:AV->Prop} {a b c:AV} (hK:KV a):extractD (.tuple [a,b,c]) 0 KV:=hK
theorem NM.range {KS:AV->AS->Prop} {m:Nat} {l:List (Bytes × AV)} {ty:TypeId} (hty:(mapTy PS ty).isSome=true) (h:NM σ0 σ t F V fs bad rs fl L) (hm:σ m=some (.mapO 1 (mapEs l) l.length)) (hK:∀ i σ',NM σ0 σ' t F V fs bad rs fl ((i,.mapIt m l.length []) :: L)->KS (.iter i) σ'):rangeMapD PS σ ty (.amap m) KS:=by
  unfold rangeMapD
  simp only [hm]
  exact ⟨hty,fun i hi=>hK i _ (h.alloc hi _)⟩
theorem NM.putF {KS:AS->Prop} {n:NTree} (h:NM σ0 σ t F V fs bad rs fl L) (hx:funF fs n.text=none) (hK:∀ σ',NM σ0 σ' t F V (fs ++ [n]) bad rs fl L->KS σ'):mapUpdateD PS σ 56 (.amap F) (.pv (.str n.text)) (nodeAV n) KS:=by
  have e:∀ fs:List NTree,funF fs n.text=none->aPut (funE fs) n.text (nodeAV n)=funE (fs ++ [n]):=by
    intro fs
    induction fs with
    | nil=>intro _; rfl
    | cons f fs ih =>
      intro hf
      unfold funF at hf
      rw [List.find?_cons] at hf
      split at hf
      · cases hf
      · rename_i hne
        have hne':f.text ≠ n.text:=fun e=>by rw [e] at hne; simp at hne
        show (if (f.text,nodeAV f).1=n.text then _ else _)=_
        rw [if_neg hne']
        show _ :: aPut (funE fs) n.text (nodeAV n)=_
        rw [ih hf]
        rfl
  refine mapUpd mapTN keyT (A:=L ++ [TObj t F V bad]) (B:=mapA V (varE rs) :: VObjs fl rs) (by simpa [NObjs] using h.sep) (fun σ' h2=>hK σ' ⟨?_,h.rows⟩)
  rw [e fs hx] at h2
  simpa [NObjs] using h2
theorem NM.putL {KS:AS->Prop} {s:Nat} {m:List (Bytes × AV)} {x:Bytes} (h:NM σ0 σ t F V fs bad rs fl (A ++ mapA s m :: B)) (hK:∀ σ',NM σ0 σ' t F V fs bad rs fl (A ++ mapA s (aPut m x (.pv (.bool true))) :: B)->KS σ'):mapUpdateD PS σ 33 (.amap s) (.pv (.str x)) (.pv (.bool true)) KS:=by
  refine mapUpd mapTB keyT (A:=A) (B:=B ++ NObjs t F V fs bad rs fl) (by simpa using h.sep) (fun σ' h2=>hK σ' ⟨by simpa using h2,h.rows⟩)
theorem NM.newMap {KS:AV->AS->Prop} (h:NM σ0 σ t F V fs bad rs fl L) (hK:∀ i σ',NM σ0 σ' t F V fs bad rs fl (mapA i [] :: L)->KS (.amap i) σ'):makeMapD PS σ 33 none KS:=by
  unfold makeMapD
  rw [mapTB]
  simp only [keyT,true_and]
  exact fun i hi=>hK i _ (h.alloc hi _)
theorem zB:zeroV PS 4=some (.pv (.bool false)):=by kernel_rfl
def txtB (l:List NTree):List (Bytes × AV):=l.map fun p=>(p.text,.pv (.bool true))
theorem txtB_get (x:Bytes):∀ l:List NTree,aGet (txtB l) x=if l.any (fun p=>p.text == x)=true then some (.pv (.bool true)) else none
  | []=>rfl
  | p :: l=>by
    have ih:=txtB_get x l
    unfold aGet txtB at *
    rw [List.map_cons,List.find?_cons,List.any_cons]
    cases h:(p.text == x) with
    | true=>simp
    | false=>simp only [h,Bool.false_or]; exact ih
theorem txtB_put {x:NTree}:∀ {l:List NTree},(l.any fun p=>p.text == x.text)=false->aPut (txtB l) x.text (.pv (.bool true))=txtB (l ++ [x])
  | [],_=>rfl
  | p :: l,h=>by
    rw [List.any_cons,Bool.or_eq_false_iff] at h
    have ih:=txtB_put (x:=x) (l:=l) h.2
    have hne:p.text ≠ x.text:=fun e=>by rw [e] at h; simp at h
    show (if (p.text,AV.pv (.bool true)).1=x.text then _ else _)=_
    rw [if_neg hne]
    show _ :: aPut (txtB l) x.text _=_
    rw [ih]
    rfl
theorem NM.lookL {KV:AV->Prop} {s:Nat} {l:List NTree} {x:Bytes} (h:NM σ0 σ t F V fs bad rs fl L) (hs:mapA s (txtB l) ∈ L) (hK:KV (.pv (.bool (l.any fun p=>p.text == x)))):lookupD PS σ 33 (.amap s) (.pv (.str x)) false KV:=by
  rw [mapLook mapTB keyT zB (h.at hs),txtB_get]
  cases hb:l.any (fun p=>p.text == x) with
  | true=>rw [hb] at hK; exact hK
  | false=>rw [hb] at hK; exact hK
theorem special_call {f:FuncId} (h:env f=T_nSpecial) {n:Bytes} (hn:n.length <= 1000000) (hK:K (.pv (.bool (specialB n))) σ):env f [.pv (.str n)] σ K X:=by
  rw [h]; exact ⟨n,rfl,hn,hK⟩
def T_nDeclared:Tr:=fun args σ K _=>∃ (σ0:AS) (t F V:Nat) (bad:Bool) (rs:List VR) (fl:Marks) (L:Objs) (l:List NTree),args=[.addr t 0,rowN l]/\l.length <= 1000000/\okXs l/\NM σ0 σ t F V [] bad rs fl L /\
  (∀ σ',DeclS specialB (funcsN l)->NM σ0 σ' t F V (funcsN l) bad rs fl L->K (.pv (.bool true)) σ')/\(∀ σ' fs',¬ DeclS specialB (funcsN l)->NM σ0 σ' t F V fs' bad rs fl L->K (.pv (.bool false)) σ')
theorem funcs_take {l:List NTree} {i:Nat} (h:i < l.length):funcsN (l.take (i + 1))=funcsN (l.take i) ++ (if l[i].op=kFunc then [l[i]] else []):=by
  unfold funcsN
  rw [List.take_succ_eq_append_getElem h,List.filter_append]
  congr 1
  by_cases ho:l[i].op=kFunc
  · rw [if_pos ho]; simp [ho]
  · rw [if_neg ho]; simp [ho]
theorem funcs_split {l:List NTree} {i:Nat} (h:i < l.length) (ho:l[i].op=kFunc):funcsN l=funcsN (l.take i) ++ l[i] :: funcsN (l.drop (i + 1)):=by
  have e:l=l.take i ++ l[i] :: l.drop (i + 1):=by rw [<- List.drop_eq_getElem_cons h,List.take_append_drop]
  unfold funcsN
  conv=>lhs; rw [e]
  rw [List.filter_append,List.filter_cons,if_pos (by simp [ho])]
theorem T_nDeclared_ok (h1:env 64=T_nParams) (h2:env 22=T_nSpecial) (h:T_nDeclared args σ K X):bodyD PS env an20 Tryz.f20 args σ K X:=by
  obtain ⟨σ0,t,F,V,bad,rs,fl,L,l,rfl,hl,hx,hN,hKt,hKf⟩:=h
  rw [<- S20_eq env,S20]
  unfold J20_1
  simp only [lock_eq]
  refine rowLen ?_
  unfold J20_2
  refine lp20_2 (fun (i:Nat) _=>l.length - i) (fun i τ=>i <= l.length/\(∃ G,NM σ0 τ t F V (funcsN (l.take i)) bad rs fl (G ++ L))/\((funcsN (l.take i)).map (·.text)).Nodup/\∀ f ∈ funcsN (l.take i),specialB f.text=false/\f.kids ≠ []) (fun i=>.pv (.int .i64 (i:Nat))) 0 ⟨Nat.zero_le _,⟨[],hN⟩,by simp [funcsN],by simp [funcsN]⟩ ?_
  clear hN
  rintro i τ ⟨hi,⟨G,hN⟩,hnd,hpl⟩
  unfold L20_2
  simp (disch:=omega) only [lock_eq,bin_lss]
  unfold J20_3
  simp only [cond_bool,decide_eq_true_eq]
  have drop:∀ {G:Objs},L.Sublist (G ++ L):=List.sublist_append_right _ _
  refine iteI (fun g1=>?_) (fun g1=>?_)
  · have hil:i < l.length:=by omega
    have hxi:=okXs_mem hx i hil
    have hxk:=okX_kids hxi
    unfold J20_3x
    simp only [lock_eq]
    refine rowIx hil ?_
    refine elemN hil ?_
    refine NM.allocN hN (fun t6 σ2 hN=>?_)
    refine NM.storeN hN (fun σ3 hN=>?_)
    unfold J20_4
    simp only [lock_eq,T.fa50_0,Nat.zero_add]
    refine NM.ldOp (n:=l[i]) (v:=some 50) hN (by simp) ?_
    simp (disch:=omega) only [go_sem,bin_sneq]
    have hft:=funcs_take hil
    refine iteI (fun g2=>?_) (fun g2=>?_)
    · have g2':¬ l[i].op=kFunc:=fun h=>by rw [h] at g2; exact absurd g2 (by decide)
      refine back (i + 1) rfl (by omega) ⟨by omega,?_⟩
      rw [hft,if_neg g2',List.append_nil]
      exact ⟨⟨boxV t6 (some 50) l[i] :: G,hN⟩,hnd,hpl⟩
    have g2':l[i].op=kFunc:=by
      rw [Bool.not_eq_true] at g2
      simpa [kFunc] using g2
    have hsp:=funcs_split hil g2'
    unfold J20_5
    simp only [lock_eq,nil_addr,T.fa59_0,T.fa50_1,Nat.zero_add]
    have j6:∀ (b:Bool) (t7:Nat) (o:AObj) (τ:AS),b=(funF (funcsN (l.take i)) l[i].text).isSome->NM σ0 τ t F V (funcsN (l.take i)) bad rs fl ((t7,o) :: boxV t6 (some 50) l[i] :: (G ++ L))->J20_6 env (Inv (fun i=>[.addr t 0,rowN l,.pv (.int .i64 (l.length:Nat)),.pv (.int .i64 (i:Nat))]) (fun (i:Nat) _=>l.length - i) (fun i τ=>i <= l.length/\(∃ G,NM σ0 τ t F V (funcsN (l.take i)) bad rs fl (G ++ L))/\((funcsN (l.take i)).map (·.text)).Nodup/\∀ f ∈ funcsN (l.take i),specialB f.text=false/\f.kids ≠ [])) (l.length - i) (.addr t 0) (.addr t6 0) (.pv (.bool b)) (rowN l) (.pv (.int .i64 (l.length:Nat))) (.pv (.int .i64 (i:Nat))) τ K X:=by
      intro b t7 o τ hb hN
      have no:¬ DeclS specialB (funcsN l)->retV (.pv (.bool false)) τ K:=fun hd=>retV_self (hKf τ _ hd (hN.part (drop.trans sl2)))
      unfold J20_6
      simp only [lock_eq,guard_false,T.fa50_1,T.fa50_2,Nat.zero_add]
      refine iteI (fun g3=>no fun hd=>?_) (fun g3=>?_)
      · rw [hb] at g3
        obtain ⟨f,hf,e⟩:=funF_isSome.1 g3
        have:=hd.once
        rw [hsp,List.map_append,List.map_cons,List.nodup_append] at this
        exact this.2.2 _ (List.mem_map.2 ⟨f,hf,rfl⟩) _ (List.mem_cons_self ..) e
      refine NM.ldText (n:=l[i]) (v:=some 50) hN (by simp) ?_
      refine special_call h2 hxk.1 ?_
      simp only [guard_false]
      refine iteI (fun g4=>no fun hd=>?_) (fun g4=>?_)
      · have:=(hd.plain l[i] (by rw [hsp]; simp)).1
        rw [this] at g4; cases g4
      refine NM.ldKids (n:=l[i]) (v:=some 50) hN (by simp) ?_
      refine rowLen ?_
      simp (disch:=omega) only [go_sem]
      refine iteI (fun g5=>no fun hd=>?_) (fun g5=>?_)
      · exact (hd.plain l[i] (by rw [hsp]; simp)).2 (List.eq_nil_of_length_eq_zero (by simpa using g5))
      unfold J20_8
      simp only [lock_eq,nil_addr,T.fa59_0,T.fa50_1,Nat.zero_add]
      refine NM.ldF hN ?_
      refine NM.ldText (n:=l[i]) (v:=some 50) hN (by simp) ?_
      refine NM.ldBox (n:=l[i]) (v:=some 50) hN (by simp) ?_
      have hnone:funF (funcsN (l.take i)) l[i].text=none:=by
        cases hh:funF (funcsN (l.take i)) l[i].text with
        | none=>rfl
        | some f=>rw [hh] at hb; rw [hb] at g3; exact absurd rfl g3
      refine NM.putF hN hnone (fun σ7 hN7=>?_)
      simp (disch:=omega) only [go_sem]
      refine back (i + 1) rfl (by omega) ⟨by omega,?_⟩
      rw [hft,if_pos g2']
      refine ⟨⟨(t7,o) :: boxV t6 (some 50) l[i] :: G,hN7⟩,?_,?_⟩
      · rw [List.map_append,List.nodup_append]
        refine ⟨hnd,by simp,?_⟩
        intro a ha b hb e
        simp only [List.map_cons,List.map_nil,List.mem_singleton] at hb
        obtain ⟨f,hf,hfa⟩:=List.mem_map.1 ha
        have:(funF (funcsN (l.take i)) l[i].text).isSome=true:=funF_isSome.2 ⟨f,hf,by rw [hfa,e,hb]⟩
        rw [hnone] at this; cases this
      · intro f hf
        rcases List.mem_append.1 hf with hf | hf
        · exact hpl f hf
        · rw [List.mem_singleton.1 hf]
          exact ⟨by simpa using g4,fun e=>by rw [e] at g5; simp at g5⟩
    cases hh:funF (funcsN (l.take i)) l[i].text with
    | some f =>
      rw [hh] at j6
      repeat' first
        | exact trivial
        | with_reducible refine And.intro ?_ ?_
        | (with_reducible refine NM.ldF hN ?_)
        | (with_reducible refine NM.ldText (n:=l[i]) (v:=some 50) hN (by simp) ?_)
        | (with_reducible refine NM.look hN hh ?_)
        | (with_reducible refine ext0 ?_)
        | (with_reducible refine ext1 ?_)
        | (with_reducible refine NM.allocN hN ?_; intro t7 σ6 hN)
        | (with_reducible refine NM.storeN hN ?_; intro σ7 hN; exact j6 _ _ _ _ rfl hN)
    | none =>
      rw [hh] at j6
      repeat' first
        | exact trivial
        | with_reducible refine And.intro ?_ ?_
        | (with_reducible refine NM.ldF hN ?_)
        | (with_reducible refine NM.ldText (n:=l[i]) (v:=some 50) hN (by simp) ?_)
        | (with_reducible refine NM.lookZ hN hh ?_)
        | (with_reducible refine ext0 ?_)
        | (with_reducible refine ext1 ?_)
        | (with_reducible refine NM.allocN hN ?_; intro t7 σ6 hN)
        | (with_reducible refine NM.storeZ hN ?_; intro σ7 hN; exact j6 _ _ _ _ rfl hN)
  · have e:i=l.length:=by omega
    subst e
    rw [List.take_length] at hN hnd hpl
    have hfx:∀ f ∈ funcsN l,okX f:=fun f hf=>okXs_iff.1 hx f (List.mem_filter.1 hf).1
    unfold J20_10
    simp only [lock_eq,nil_addr,T.fa59_0,Nat.zero_add]
    refine NM.ldF hN ?_
    refine NM.range (l:=funE (funcsN l)) (by rw [mapTN]; rfl) hN hN.gF (fun it σ1 hN=>?_)
    have hlen:(funE (funcsN l)).length=(funcsN l).length:=by unfold funE; simp
    unfold J20_11
    refine lp20_11 (fun (seen:List Nat) _=>(funE (funcsN l)).length - seen.length) (fun seen τ=>seen.Nodup/\(∀ i ∈ seen,i < (funE (funcsN l)).length)/\(∃ G',NM σ0 τ t F V (funcsN l) bad rs fl (G' ++ (it,.mapIt F (funE (funcsN l)).length seen) :: (G ++ L)))/\∀ i ∈ seen,∀ h:i < (funcsN l).length,((paramsN (funcsN l)[i]).map (·.text)).Nodup/\∀ p ∈ paramsN (funcsN l)[i],specialB p.text=false/\funF (funcsN l) p.text=none) [] ⟨List.nodup_nil,by simp,⟨[],hN⟩,by simp⟩ ?_
    clear hN
    rintro seen τ ⟨hsn,hsl,⟨G',hN⟩,hsp⟩
    unfold L20_11
    simp only [lock_eq]
    refine iterNext (hN.gF) (hN.at (o:=.mapIt F (funE (funcsN l)).length seen) (by simp)) (fun hall=>?_) (fun i hi hns=>?_)
    · refine ext0' ?_
      unfold J20_12
      simp only [lock_eq,cond_bool]
      refine iteI (fun h=>absurd h (by decide)) (fun _=>retV_self (hKt τ ⟨hnd,hpl,fun f hf=>?_⟩ (hN.part ((List.sublist_append_right G L).trans (sl1.trans (List.sublist_append_right G' _))))))
      obtain ⟨j,hj,rfl⟩:=List.getElem_of_mem hf
      exact hsp j (hall j (by omega)) hj
    have hi':i < (funcsN l).length:=by omega
    have hlt:seen.length < (funE (funcsN l)).length:=by
      rcases Nat.lt_or_ge seen.length (funE (funcsN l)).length with h | h
      · exact h
      · exact absurd (all_seen hsn hsl h i hi) hns
    have hN:=NM.turn (A:=G') (p:=(it,.mapIt F (funE (funcsN l)).length seen)) (o:=.mapIt F (funE (funcsN l)).length (seen ++ [i])) hN
    generalize τ.set it (.mapIt F (funE (funcsN l)).length (seen ++ [i]))=τ2 at hN ⊢
    refine ext0'' ?_
    unfold J20_12
    simp only [lock_eq,cond_bool]
    refine iteI (fun _=>?_) (fun h=>absurd trivial h)
    unfold J20_12x
    simp only [lock_eq]
    refine iterEntry hN.gF (hN.at (o:=.mapIt F (funE (funcsN l)).length (seen ++ [i])) (by simp)) hi ?_
    refine ext1 ?_
    have e2:(funE (funcsN l))[i].2=nodeAV (funcsN l)[i]:=by rw [funE_at hi hi']
    rw [e2]
    have hfi:=hfx _ (List.getElem_mem hi')
    generalize hf:(funcsN l)[i]=f at hfi ⊢
    have hps:=paramsOk hfi
    refine NM.allocN hN (fun t10 σ2 hN=>?_)
    refine NM.storeN hN (fun σ3 hN=>?_)
    unfold J20_13
    simp only [lock_eq]
    refine NM.newMap hN (fun s σ4 hN=>?_)
    unfold J20_14
    simp only [lock_eq]
    refine NM.ldBox (n:=f) (v:=some 50) hN (by simp) ?_
    refine par_call h1 hfi (fun σ5 hs5=>?_)
    have hN:=hN.up hs5
    refine rowLen ?_
    unfold J20_15
    refine lp20_15 (fun (k:Nat) _=>(paramsN f).length - k) (fun k τ=>k <= (paramsN f).length/\(∃ G2,NM σ0 τ t F V (funcsN l) bad rs fl (G2 ++ mapA s (txtB ((paramsN f).take k)) :: (boxV t10 (some 50) f :: (G' ++ (it,.mapIt F (funE (funcsN l)).length (seen ++ [i])) :: (G ++ L)))))/\(((paramsN f).take k).map (·.text)).Nodup/\∀ p ∈ (paramsN f).take k,specialB p.text=false/\funF (funcsN l) p.text=none) (fun k=>.pv (.int .i64 (k:Nat))) 0 ⟨Nat.zero_le _,⟨[],hN⟩,by simp,by simp⟩ ?_
    clear hN
    rintro k τ ⟨hk,⟨G2,hN⟩,hkn,hkp⟩
    have sub:L.Sublist (G2 ++ mapA s (txtB ((paramsN f).take k)) :: (boxV t10 (some 50) f :: (G' ++ (it,.mapIt F (funE (funcsN l)).length (seen ++ [i])) :: (G ++ L)))) :=
      ((List.sublist_append_right G L).trans (sl1.trans ((List.sublist_append_right G' _).trans sl2))).trans (List.sublist_append_right G2 _)
    unfold L20_15
    simp (disch:=omega) only [lock_eq,bin_lss]
    unfold J20_16
    simp only [cond_bool,decide_eq_true_eq]
    refine iteI (fun g1=>?_) (fun g1=>?_)
    rotate_left
    · have e:k=(paramsN f).length:=by omega
      subst e
      rw [List.take_length] at hN hkn hkp
      refine back (seen ++ [i]) rfl (by rw [List.length_append,List.length_singleton]; omega) ⟨?_,?_,⟨G2 ++ mapA s (txtB (paramsN f)) :: (boxV t10 (some 50) f :: G'),by simpa using hN⟩,?_⟩
      · rw [List.nodup_append]
        exact ⟨hsn,by simp,fun a ha b hb e=>hns (by rw [List.mem_singleton] at hb; rw [<- hb,<- e]; exact ha)⟩
      · intro j hj
        rcases List.mem_append.1 hj with hj | hj
        · exact hsl j hj
        · rw [List.mem_singleton.1 hj]; exact hi
      · intro j hj h
        rcases List.mem_append.1 hj with hj | hj
        · exact hsp j hj h
        · have:j=i:=List.mem_singleton.1 hj
          subst this
          rw [hf]
          exact ⟨hkn,hkp⟩
    have hkl:k < (paramsN f).length:=by omega
    have hpx:=okXs_mem hps.2 k hkl
    have hpt:=(okX_kids hpx).1
    unfold J20_16x
    simp only [lock_eq]
    refine rowIx hkl ?_
    refine elemN hkl ?_
    refine NM.allocN hN ?_
    intro t13 σ6 hN
    refine NM.storeN hN ?_
    intro σ7 hN
    unfold J20_17
    simp only [lock_eq,nil_addr,T.fa59_0,T.fa50_1,Nat.zero_add]
    have hfm:f ∈ funcsN l:=hf ▸ List.getElem_mem hi'
    cases hh:funF (funcsN l) (paramsN f)[k].text with
    | some g =>
      repeat' first
        | exact trivial
        | with_reducible refine And.intro ?_ ?_
        | (with_reducible refine NM.ldF hN ?_)
        | (with_reducible refine NM.ldText (n:=(paramsN f)[k]) (v:=some 50) hN (by simp) ?_)
        | (with_reducible refine NM.look hN hh ?_)
        | (with_reducible refine ext0 ?_)
        | (with_reducible refine ext1 ?_)
        | (with_reducible refine NM.allocN hN ?_; intro t14 σ8 hN)
        | (with_reducible refine NM.storeN hN ?_; intro σ9 hN)
      all_goals
        unfold J20_18
        simp only [guard_false]
        refine iteI (fun _=>retV_self (hKf _ _ (fun hd=>?_) (hN.part (sub.trans sl2)))) (fun h=>absurd trivial h)
        have:=((hd.pars f hfm).2 _ (List.getElem_mem hkl)).2
        rw [hh] at this; cases this
    | none =>
      repeat' first
        | exact trivial
        | with_reducible refine And.intro ?_ ?_
        | (with_reducible refine NM.ldF hN ?_)
        | (with_reducible refine NM.ldText (n:=(paramsN f)[k]) (v:=some 50) hN (by simp) ?_)
        | (with_reducible refine NM.lookZ hN hh ?_)
        | (with_reducible refine ext0 ?_)
        | (with_reducible refine ext1 ?_)
        | (with_reducible refine NM.allocN hN ?_; intro t14 σ8 hN)
        | (with_reducible refine NM.storeZ hN ?_; intro σ9 hN)
      all_goals
        unfold J20_18
        simp only [lock_eq,guard_false,T.fa50_1,Nat.zero_add]
        refine iteI (fun h=>absurd h (by decide)) (fun _=>?_)
        refine NM.ldText (n:=(paramsN f)[k]) (v:=some 50) hN (by simp) ?_
        refine NM.lookL (l:=(paramsN f).take k) hN (by simp) ?_
        simp only [guard_false]
        refine iteI (fun g2=>retV_self (hKf _ _ (fun hd=>?_) (hN.part (sub.trans sl2)))) (fun g2=>?_)
        · obtain ⟨q,hq,e⟩:=List.any_eq_true.1 g2
          have:=(hd.pars f hfm).1
          rw [<- List.take_append_drop k (paramsN f),List.drop_eq_getElem_cons hkl,List.map_append,List.map_cons,List.nodup_append] at this
          exact this.2.2 _ (List.mem_map.2 ⟨q,hq,rfl⟩) _ (List.mem_cons_self ..) (beq_iff_eq.1 e)
        refine NM.ldText (n:=(paramsN f)[k]) (v:=some 50) hN (by simp) ?_
        refine special_call h2 hpt ?_
        simp only [cond_bool]
        refine iteI (fun g3=>retV_self (hKf _ _ (fun hd=>?_) (hN.part (sub.trans sl2)))) (fun g3=>?_)
        · have:=((hd.pars f hfm).2 _ (List.getElem_mem hkl)).1
          rw [this] at g3; cases g3
        unfold J20_20
        simp only [lock_eq,T.fa50_1,Nat.zero_add]
        refine NM.ldText (n:=(paramsN f)[k]) (v:=some 50) hN (by simp) ?_
        refine NM.putL (A:=_ :: _ :: G2) (s:=s) hN (fun σ10 hN10=>?_)
        rw [Bool.not_eq_true] at g2
        rw [txtB_put g2,<- List.take_succ_eq_append_getElem hkl] at hN10
        simp (disch:=omega) only [go_sem]
        refine back (k + 1) rfl (by omega) ⟨by omega,⟨_,hN10⟩,?_,?_⟩
        · rw [List.take_succ_eq_append_getElem hkl,List.map_append,List.nodup_append]
          refine ⟨hkn,by simp,?_⟩
          intro a ha b hb e
          simp only [List.map_cons,List.map_nil,List.mem_singleton] at hb
          obtain ⟨q,hq,hqa⟩:=List.mem_map.1 ha
          have:=List.any_eq_false.1 g2 q hq
          exact this (beq_iff_eq.2 (by rw [hqa,e,hb]))
        · intro q hq
          rw [List.take_succ_eq_append_getElem hkl] at hq
          rcases List.mem_append.1 hq with hq | hq
          · exact hkp q hq
          · rw [List.mem_singleton.1 hq]
            exact ⟨by simpa using g3,hh⟩
end
end Go.AD.Lx

set_option linter.unusedVariables false
set_option linter.unusedSimpArgs false
set_option maxRecDepth 100000
namespace Go.AD.Lx
open Go.Proofs RowKit
theorem spreadL_snoc (v o:Nat):∀ (os:List Nat) (fl:Marks) (todo:List Nat),spreadL v (os ++ [o]) fl todo=if needB (spreadL v os fl todo).1 v o=true then (mergeF (spreadL v os fl todo).1 v o,(spreadL v os fl todo).2 ++ [o]) else spreadL v os fl todo
  | [],fl,todo=>by rw [List.nil_append,spreadL,spreadL,spreadL,spreadL]
  | p :: os,fl,todo=>by
    rw [List.cons_append,spreadL,spreadL]
    split
    · exact spreadL_snoc v o os _ _
    · exact spreadL_snoc v o os _ _
theorem fset_fset (fl:Marks) (i:Nat) (a b:Bool × Bool):fset (fset fl i a) i b=fset fl i b:=by
  funext j
  unfold fset
  split <;> rfl
section
variable {env:Env} {args:List AV} {σ0 σ τ:AS} {K:AV->AS->Prop} {X:PV->AS->Prop} {L Y M A B:Objs} {t F V:Nat} {fs:List NTree} {bad:Bool} {rs l1 l2:List VR} {fl:Marks} {r:VR} {E:List Ev}
theorem NM.ldS {KV:AV->Prop} {b:Bool} (h:NM σ0 σ t F V fs bad rs fl L) (hr:r ∈ rs) (hb:(fl r.id).1=b) (hK:KV (.pv (.bool b))):loadD PS σ 4 (.addr r.id 1) KV:=by
  rw [T.ld4,h.gR hr,ldM_cells]
  exact ⟨_,rfl,by rw [hb]; exact hK⟩
theorem NM.ldR {KV:AV->Prop} {b:Bool} (h:NM σ0 σ t F V fs bad rs fl L) (hr:r ∈ rs) (hb:(fl r.id).2=b) (hK:KV (.pv (.bool b))):loadD PS σ 4 (.addr r.id 2) KV:=by
  rw [T.ld4,h.gR hr,ldM_cells]
  exact ⟨_,rfl,by rw [hb]; exact hK⟩
theorem NM.ldL {KV:AV->Prop} (h:NM σ0 σ t F V fs bad rs fl L) (hr:r ∈ rs) (hK:KV (lkV r)):loadD PS σ 62 (.addr r.id 3) KV:=by
  rw [T.ld62,h.gR hr,ldM_cells]
  exact ⟨_,rfl,hK⟩
theorem NM.pushT {R:Objs} {v:AV} {l:List Nat} {o:Nat} {KS:AV->AS->Prop} (h:NM σ0 σ t F V fs bad rs fl (R ++ L)) (G:RowA v R l) (hn:l.length < 1000000000)
    (hK:∀ σ' k,NM σ0 σ' t F V fs bad rs fl ([(k,.cells (adrs (l ++ [o])) none)] ++ L)->KS (.msl k 0 (l.length + 1) 1) σ'):buildSliceD PS true σ 62 1 1 [(0,.addr o 0)] fun t σ1=>appendD PS true σ1 62 v t KS:=by
  refine G.push (A:=[]) (B:=L ++ NObjs t F V fs bad rs fl) (by simpa using h.sep) hn (fun σ' k p hS=>hK σ' k ⟨?_,h.rows⟩)
  have:=(hS.perm (List.Perm.swap _ _ _)).drop
  simpa using this
theorem gTf {A B:Prop} (h:B):guardD (.pv (.bool true)) false A B:=by simp [guardD,h]
theorem gFf {A B:Prop} (h:A):guardD (.pv (.bool false)) false A B:=by simp [guardD,h]
theorem gTt {A B:Prop} (h:A):guardD (.pv (.bool true)) true A B:=by simp [guardD,h]
theorem gFt {A B:Prop} (h:B):guardD (.pv (.bool false)) true A B:=by simp [guardD,h]
theorem cT {A B:Prop} (h:A):condD (.pv (.bool true)) A B:=by simp [condD,h]
theorem cF {A B:Prop} (h:B):condD (.pv (.bool false)) A B:=by simp [condD,h]
theorem nT {KV:AV->Prop} (h:KV (.pv (.bool false))):unD .not (.pv (.bool true)) KV:=h
theorem nF {KV:AV->Prop} (h:KV (.pv (.bool true))):unD .not (.pv (.bool false)) KV:=h
def T_nSpread:Tr:=fun args σ K _=>∃ (σ0:AS) (t F V:Nat) (fs:List NTree) (bad:Bool) (rs:List VR) (fl:Marks) (L R:Objs) (v:VR) (tv:AV) (todo:List Nat),args=[.addr v.id 0,tv]/\v ∈ rs/\(rs.map (·.id)).Nodup/\(∀ o ∈ v.lks,∃ r ∈ rs,r.id=o) /\
  todo.length + v.lks.length < 1000000000/\RowA tv R todo/\NM σ0 σ t F V fs bad rs fl (R ++ L)/\∀ σ' tv' R',RowA tv' R' (spreadL v.id v.lks fl todo).2->NM σ0 σ' t F V fs bad rs (spreadL v.id v.lks fl todo).1 (R' ++ L)->K tv' σ'
theorem spread_len (v:Nat):∀ (os:List Nat) (fl:Marks) (todo:List Nat),(spreadL v os fl todo).2.length <= todo.length + os.length
  | [],fl,todo=>Nat.le_refl _
  | p :: os,fl,todo=>by
    rw [spreadL]
    split
    · have:=spread_len v os (mergeF fl v p) (todo ++ [p])
      rw [List.length_append,List.length_singleton] at this
      rw [List.length_cons]; omega
    · have:=spread_len v os fl todo
      rw [List.length_cons]; omega
theorem T_nSpread_ok (h:T_nSpread args σ K X):bodyD PS env an23 Tryz.f23 args σ K X:=by
  obtain ⟨σ0,t,F,V,fs,bad,rs,fl,L,R,v,tv,todo,rfl,hv,hni,hlk,hlen,hR,hN,hK⟩:=h
  rw [<- S23_eq env,S23]
  simp only [lock_eq,nil_addr,T.fa65_3,Nat.zero_add]
  refine NM.ldL hN hv ?_
  have GA:=rowA_of (hN.rows v hv)
  rw [GA.len]
  refine lp23_2 (fun (a:Nat × AV) _=>v.lks.length - a.1) (fun a τ=>a.1 <= v.lks.length/\∃ R',RowA a.2 R' (spreadL v.id (v.lks.take a.1) fl todo).2/\NM σ0 τ t F V fs bad rs (spreadL v.id (v.lks.take a.1) fl todo).1 (R' ++ L)) (fun a=>a.2) (fun a=>.pv (.int .i64 (a.1:Nat))) (0,tv) ⟨Nat.zero_le _,R,hR,hN⟩ ?_
  clear hN hR
  rintro ⟨i,tv2⟩ τ ⟨hi,R2,hR,hN⟩
  dsimp only at hi hR hN ⊢
  have hlen2:=spread_len v.id (v.lks.take i) fl todo
  have htl:(v.lks.take i).length <= v.lks.length:=by rw [List.length_take]; omega
  unfold L23_2
  simp (disch:=omega) only [lock_eq,bin_lss,cond_bool,decide_eq_true_eq]
  refine iteI (fun g1=>?_) (fun g1=>?_)
  rotate_left
  · have e:i=v.lks.length:=by omega
    subst e
    rw [List.take_length] at hR hN
    exact retV_self (hK τ tv2 R2 hR hN)
  have hil:i < v.lks.length:=by omega
  obtain ⟨k,hk1,hk2,hk3⟩:=GA.ix hil
  rw [hk3]
  have hg:=hN.gL hv (k:=k) (by rw [hk2]; simp)
  rw [T.ld63,hg,ldM_cells,adrs_get hil]
  simp only [someEx]
  obtain ⟨ro,hro,hroi⟩:=hlk v.lks[i] (List.getElem_mem hil)
  have hsn:=spreadL_snoc v.id v.lks[i] (v.lks.take i) fl todo
  rw [<- List.take_succ_eq_append_getElem hil,<- hroi] at hsn
  rw [<- hroi]
  generalize (spreadL v.id (v.lks.take i) fl todo)=S at hR hN hsn hlen2
  obtain ⟨fl2,td⟩:=S
  dsimp only at hR hN hsn hlen2
  simp only [nil_addr,T.fa65_1,T.fa65_2,Nat.zero_add]
  have j6:∀ (σ':AS),NM σ0 σ' t F V fs bad rs (mergeF fl2 v.id ro.id) (R2 ++ L)->needB fl2 v.id ro.id=true->J23_6 env (Inv (fun (a:Nat × AV)=>[.addr v.id 0,a.2,lkV v,.pv (.int .i64 (v.lks.length:Nat)),.pv (.int .i64 (a.1:Nat))]) (fun (a:Nat × AV) _=>v.lks.length - a.1) (fun a τ=>a.1 <= v.lks.length/\∃ R',RowA a.2 R' (spreadL v.id (v.lks.take a.1) fl todo).2/\NM σ0 τ t F V fs bad rs (spreadL v.id (v.lks.take a.1) fl todo).1 (R' ++ L))) (v.lks.length - i) (.addr v.id 0) tv2 (.addr ro.id 0) (lkV v) (.pv (.int .i64 (v.lks.length:Nat))) (.pv (.int .i64 (i:Nat))) σ' K X:=by
    intro σ' hN hneed
    unfold J23_6
    simp only [lock_eq]
    refine NM.pushT hN hR (by omega) (fun σ5 k5 hN5=>?_)
    simp (disch:=omega) only [go_sem]
    rw [if_pos hneed] at hsn
    refine back (i + 1,.msl k5 0 (td.length + 1) 1) rfl (by dsimp only; omega) ⟨by dsimp only; omega,[(k5,.cells (adrs (td ++ [ro.id])) none)],?_,?_⟩
    · dsimp only
      rw [hsn]
      exact .inr ⟨k5,by rw [List.length_append,List.length_singleton],rfl⟩
    · dsimp only
      rw [hsn]
      exact hN5
  have jno:needB fl2 v.id ro.id=false->(binD PS .add 3 (.pv (.int .i64 (i:Nat))) (.pv (.int .i64 1)) fun t70=>∃ m',m' < v.lks.length - i/\Inv (fun (a:Nat × AV)=>[.addr v.id 0,a.2,lkV v,.pv (.int .i64 (v.lks.length:Nat)),.pv (.int .i64 (a.1:Nat))]) (fun (a:Nat × AV) _=>v.lks.length - a.1) (fun a τ=>a.1 <= v.lks.length/\∃ R',RowA a.2 R' (spreadL v.id (v.lks.take a.1) fl todo).2/\NM σ0 τ t F V fs bad rs (spreadL v.id (v.lks.take a.1) fl todo).1 (R' ++ L)) m' [.addr v.id 0,tv2,lkV v,.pv (.int .i64 (v.lks.length:Nat)),t70] τ):=by
    intro hneed
    simp (disch:=omega) only [go_sem]
    rw [hneed,if_neg (by decide)] at hsn
    refine back (i + 1,tv2) rfl (by dsimp only; omega) ⟨by dsimp only; omega,R2,?_,?_⟩
    · dsimp only; rw [hsn]; exact hR
    · dsimp only; rw [hsn]; exact hN
  have fin:∀ (x y:Bool) (σ':AS),x=((fl2 ro.id).1 || (fl2 v.id).1)->y=((fl2 ro.id).2 || (fl2 v.id).2)->NM σ0 σ' t F V fs bad rs (fset (fset fl2 ro.id (x,(fl2 ro.id).2)) ro.id ((fset fl2 ro.id (x,(fl2 ro.id).2) ro.id).1,y)) (R2 ++ L)->NM σ0 σ' t F V fs bad rs (mergeF fl2 v.id ro.id) (R2 ++ L):=by
    rintro x y σ' rfl rfl h
    rw [fset_fset,fset_same] at h
    exact h
  have need:needB fl2 v.id ro.id=(((fl2 v.id).1 && !(fl2 ro.id).1) || ((fl2 v.id).2 && !(fl2 ro.id).2)):=rfl
  unfold J23_5
  simp only [lock_eq,nil_addr,T.fa65_1,T.fa65_2,Nat.zero_add]
  rcases hv1:(fl2 v.id).1 with _ | _ <;> rcases hv2:(fl2 v.id).2 with _ | _ <;> rcases ho1:(fl2 ro.id).1 with _ | _ <;> rcases ho2:(fl2 ro.id).2 with _ | _
  all_goals
    rw [hv1,hv2,ho1,ho2] at need fin
    repeat' first
      | exact trivial
      | exact jno (by rw [need]; rfl)
      | with_reducible refine And.intro ?_ ?_
      | (with_reducible refine NM.ldS hN hv hv1 ?_)
      | (with_reducible refine NM.ldR hN hv hv2 ?_)
      | (with_reducible refine NM.ldS hN hro ho1 ?_)
      | (with_reducible refine NM.ldR hN hro ho2 ?_)
      | (with_reducible refine gTf ?_)
      | (with_reducible refine gFf ?_)
      | (with_reducible refine gTt ?_)
      | (with_reducible refine gFt ?_)
      | (with_reducible refine cT ?_)
      | (with_reducible refine cF ?_)
      | (with_reducible refine nT ?_)
      | (with_reducible refine nF ?_)
      | (refine NM.markS hN hni hro (fun σa hNa=>And.intro (NM.markA hNa hni hro (fun σb hNb=>?_)) trivial); exact j6 σb (fin _ _ σb rfl rfl (by rw [ho2] at hNb; exact hNb)) (by rw [need]; rfl))
end
end Go.AD.Lx

set_option linter.unusedVariables false
set_option linter.unusedSimpArgs false
namespace Go.AD
open RowKit
section
variable {P:Program}
def frzA (K:AV->AS->Prop):AV->AS->Prop:=fun r σ=>K r σ \/ ∃ (az:List AV) (c:AV) (bs rest:List AV),r=.tuple (.agg (az ++ c :: bs) :: rest) /\
  ((∃ p,toPV c=some p/\K (.tuple (.agg (az ++ .pv p :: bs) :: rest)) σ) \/
   ∃ (id n size:Nat) (cs:List AV) (var:Option TypeId) (ps:List PV),c=.msl id 0 n size/\σ id=some (.cells cs var)/\toPVs (cs.take (n * size))=some ps/\K (.tuple (.agg (az ++ .pv (.lst n ps) :: bs) :: rest)) (σ.del id))
theorem relL_split {ρ:Gh}:∀ {az:List AV} {c:AV} {bs:List AV} {us:List Value},RelL ρ (az ++ c :: bs) us->∃ u1 u u2,us=u1 ++ u :: u2/\RelL ρ az u1/\RelV ρ c u/\RelL ρ bs u2
  | [],c,bs,us,h=>by
    obtain ⟨v,vs,rfl,h1,h2⟩:=h.uncons
    exact ⟨[],v,vs,rfl,.nil ρ,h1,h2⟩
  | a :: az,c,bs,us,h=>by
    obtain ⟨v,vs,rfl,h1,h2⟩:=h.uncons
    obtain ⟨u1,u,u2,rfl,h3,h4,h5⟩:=relL_split h2
    exact ⟨v :: u1,u,u2,rfl,.cons h1 h3,h4,h5⟩
theorem SoundF.frzA {f:FuncId} {T:Tr} (S:SoundF P f (fun args σ K' X=>∃ K,K'=Go.AD.frzA K/\T args σ K X)):SoundF P f T:=by
  intro w0 hS ρ σ w args us K X H hr h
  obtain ⟨h1,h2⟩:=S w0 hS ρ σ w args us (Go.AD.frzA K) X H hr ⟨K,rfl,h⟩
  refine ⟨h1,h2.mono fun e w' hh=>?_⟩
  obtain ⟨ρ',σ',hle,H',hh⟩:=hh
  cases e with
  | returned u =>
    obtain ⟨r,hru,hk | ⟨az,c,bs,rest,rfl,hk⟩⟩:=hh
    · exact ⟨ρ',σ',hle,H',r,hru,hk⟩
    · obtain ⟨vs,rfl,hvs⟩:=inv_tuple hru
      obtain ⟨v0,vs',rfl,hv0,hvr⟩:=hvs.uncons
      obtain ⟨ws,rfl,hws⟩:∃ ws:List Value,v0=.agg ws.toArray/\RelL ρ' (az ++ c :: bs) ws:=by
        cases hv0 with
        | agg _ ws hl hr=>exact ⟨ws,rfl,hl,hr⟩
      obtain ⟨u1,u,u2,rfl,g1,g2,g3⟩:=relL_split hws
      rcases hk with ⟨p,hp,hk⟩ | ⟨id,n,size,cs,var,ps,rfl,ho,hp,hk⟩
      · refine ⟨ρ',σ',hle,H',_,RelV.of_tuple (.cons (RelV.of_agg (g1.append (.cons (.pv (toPV_rel g2 hp)) g3))) hvr),hk⟩
      · obtain ⟨ρ2,hle2,H2,hv2⟩:=H'.freeze ho hp g2
        exact ⟨ρ2,σ'.del id,Gh.le_trans hle hle2,H2,_,RelV.of_tuple (.cons (RelV.of_agg ((g1.mono hle2).append (.cons hv2 (g3.mono hle2)))) (hvr.mono hle2)),hk⟩
  | panicked ch=>exact ⟨ρ',σ',hle,H',hh⟩
  | outgrown=>exact hh.elim
def wkA:List AV->List AV->Prop
  | [],[]=>True
  | a :: az,b :: bs=>wk a b/\wkA az bs
  | _,_=>False
theorem wkA_sound {ρ:Gh}:∀ {az bs:List AV} {us:List Value},RelL ρ az us->wkA az bs->RelL ρ bs us
  | [],[],us,h,_=>h
  | a :: az,b :: bs,us,h,hw=>by
    obtain ⟨v,vs,rfl,h1,h2⟩:=h.uncons
    exact .cons (wk_sound h1 hw.1) (wkA_sound h2 hw.2)
  | [],_ :: _,_,_,h=>h.elim
  | _ :: _,[],_,_,h=>h.elim
def Tr.wkArgs (T:Tr):Tr:=fun args σ K X=>∃ args',wkA args args'/\T args' σ K X
theorem SoundF.wkArgs {f:FuncId} {T:Tr} (S:SoundF P f T):SoundF P f T.wkArgs:=by
  intro w0 hS ρ σ w args us K X H hr ⟨args',hw,h⟩
  exact S w0 hS ρ σ w args' us K X H (wkA_sound hr hw) h
end
end Go.AD

set_option linter.unusedVariables false
set_option linter.unusedSimpArgs false
namespace Go.AD.Lx
end Go.AD.Lx

set_option linter.unusedVariables false
set_option linter.unusedSimpArgs false
namespace Go.AD.Lx
theorem contains_cons (b:UInt8) (l sub:Bytes):Lib.contains (b :: l) sub=(sub.isPrefixOf (b :: l) || Lib.contains l sub):=by
  unfold Lib.contains
  rw [Lib.index]
  by_cases h:sub.isPrefixOf (b :: l)=true
  · rw [if_pos h,h]; rfl
  · rw [if_neg h,Bool.eq_false_iff.2 h,Bool.false_or]
    have:=Lib.index_ge l sub
    by_cases h2:(Lib.index l sub == -1)=true
    · rw [if_pos h2]
      have:Lib.index l sub=-1:=by simpa using h2
      rw [this]
    · rw [if_neg h2]
      have h3:Lib.index l sub ≠ -1:=by simpa using h2
      rw [decide_eq_decide]; omega
end Go.AD.Lx

set_option linter.unusedVariables false
set_option linter.unusedSimpArgs false
set_option maxRecDepth 100000
namespace Go.AD.Lx
open Go.Proofs RowKit
theorem F_nSpecial (hm:HM):SoundF PS 22 T_nSpecial:=body_sound hm (EnvOk.add (env0_ok PS) F_Contains) an22 Tryz.func22 Tryz.call22 S22_ok (fun args σ K X h=>T_nSpecial_ok rfl h)
theorem F_nParams (hm:HM):SoundF PS 64 T_nParams:=body_sound hm (env0_ok PS) an64 Tryz.func64 Tryz.call64 S64_ok (fun args σ K X h=>T_nParams_ok h)
theorem F_nVariable (hm:HM):SoundF PS 66 T_nVariable :=
  have f1:SoundF PS 99 T_nVar1:=body_sound hm (env0_ok PS) an99 Tryz.func99 Tryz.call99 S99_ok (fun args σ K X h=>T_nVar1_ok h)
  have f2:SoundF PS 141 T_nIndex:=body_sound hm (EnvOk.add (env0_ok PS) f1) an141 Tryz.func141 Tryz.call141 S141_ok (fun args σ K X h=>T_nIndex_ok rfl h)
  have f3:SoundF PS 98 T_nContains:=body_sound hm (EnvOk.add (env0_ok PS) f2) an98 Tryz.func98 Tryz.call98 S98_ok (fun args σ K X h=>T_nContains_ok rfl h)
  body_sound hm (EnvOk.add (EnvOk.add (env0_ok PS) (F_nParams hm)) f3) an66 Tryz.func66 Tryz.call66 S66_ok (fun args σ K X h=>T_nVariable_ok rfl rfl h)
theorem F_nLink (hm:HM):SoundF PS 97 T_nLink:=body_sound hm (env0_ok PS) an97 Tryz.func97 Tryz.call97 S97_ok (fun args σ K X h=>T_nLink_ok h)
theorem F_nSpread (hm:HM):SoundF PS 23 T_nSpread:=body_sound hm (env0_ok PS) an23 Tryz.func23 Tryz.call23 S23_ok (fun args σ K X h=>T_nSpread_ok h)
theorem F_nDeclared (hm:HM):SoundF PS 20 T_nDeclared:=body_sound hm (EnvOk.add (EnvOk.add (env0_ok PS) (F_nParams hm)) (F_nSpecial hm)) an20 Tryz.func20 Tryz.call20 S20_ok (fun args σ K X h=>T_nDeclared_ok rfl rfl h)
theorem F_nNode (hm:HM):∀ m:Nat,SoundF PS 21 (T_nNode m)
  | 0=>by
    rintro w0 hS ρ σ w args us K X H hr ⟨_,_,_,_,_,_,_,n,_,_,h,_⟩
    exact absurd h (Nat.not_lt_zero _)
  | m + 1 =>
    have f0:=F_nNode hm m
    have fc:SoundF PS 65 (T_nCall m):=body_sound hm (EnvOk.add (EnvOk.add (EnvOk.add (EnvOk.add (env0_ok PS) (F_nParams hm)) (F_nVariable hm)) (F_nLink hm)) f0) an65 Tryz.func65 Tryz.call65 S65_ok (fun args σ K X h=>T_nCall_ok rfl rfl rfl rfl h)
    body_sound hm (EnvOk.add (EnvOk.add (EnvOk.add (env0_ok PS) (F_nVariable hm)) fc) f0) an21 Tryz.func21 Tryz.call21 S21_ok (fun args σ K X h=>T_nNode_ok rfl rfl rfl h)
def shortE (B:Nat) (e:Ev):Prop:=∀ x ∈ namesE e,x.length <= 2 * B + 1
theorem full_len {B:Nat} {f:NTree} {x:Bytes} (hf:txN B f) (hx:x.length <= B):(fullN f x).length <= 2 * B + 1:=by
  have hft:f.text.length <= B:=by cases f; rw [txN] at hf; exact hf.1
  unfold fullN
  split
  · rw [List.length_append,List.length_append,List.length_singleton]; omega
  · omega
theorem tx_text {B:Nat} {n:NTree} (h:txN B n):n.text.length <= B:=by cases n; rw [txN] at h; exact h.1
theorem tx_kids {B:Nat} {n:NTree} (h:txN B n):txNs B n.kids:=by cases n; rw [txN] at h; exact h.2
theorem tx_params {B:Nat} {n:NTree} (h:txN B n):txNs B (paramsN n):=by
  have:=tx_kids h
  unfold paramsN
  cases hk:n.kids with
  | nil=>exact txNs0
  | cons k ks=>rw [hk,txNs] at this; exact tx_kids this.1
theorem fun_mem {fs:List NTree} {x:Bytes} {g:NTree} (h:funF fs x=some g):g ∈ fs/\g.text=x:=by
  unfold funF at h
  have hh:=List.find?_some h
  exact ⟨List.mem_of_find?_eq_some h,beq_iff_eq.1 hh⟩
section
variable {B:Nat} {fs:List NTree} {f:NTree}
theorem short_sc {x:Bytes} (h:x.length <= 2 * B + 1):shortE B (.sc x):=by intro y hy; rw [show y=x by simpa [namesE] using hy]; exact h
theorem short_ar {x:Bytes} (h:x.length <= 2 * B + 1):shortE B (.ar x):=by intro y hy; rw [show y=x by simpa [namesE] using hy]; exact h
theorem short_bad:shortE B .bad:=by intro y hy; cases hy
mutual
theorem evN_short (hfs:∀ g ∈ fs,txN B g) (hf:txN B f):∀ n:NTree,txN B n->∀ e ∈ evN fs f n,shortE B e
  | .mk op text kids,hn,e,he=>by
    have ih:=evNs_short hfs hf kids (tx_kids hn)
    have ht:text.length <= B:=tx_text hn
    have hk:txNs B kids:=tx_kids hn
    unfold evN at he
    split at he
    · split at he
      · rw [List.mem_singleton.1 he]; exact short_bad
      · rename_i g hg
        split at he
        · rw [List.mem_singleton.1 he]; exact short_bad
        · have hgx:=hfs g (fun_mem hg).1
          exact evAs_short hfs hf g hgx kids (paramsN g) hk (tx_params hgx) e he
    split at he
    · rcases List.mem_cons.1 he with rfl | he
      · exact short_ar (full_len hf ht)
      · exact ih e he
    split at he
    · rcases List.mem_cons.1 he with rfl | he
      · exact short_sc (full_len hf ht)
      · exact ih e he
    split at he
    · rcases List.mem_cons.1 he with rfl | he
      · exact short_sc (full_len hf ht)
      · cases kids with
        | nil=>cases he
        | cons k ks =>
          rw [txNs] at hk
          rcases List.mem_cons.1 he with rfl | he
          · exact short_ar (full_len hf (tx_text hk.1))
          · exact evNs_short hfs hf ks hk.2 e he
    split at he
    · match kids,hk,ih,he with
      | [],hk,ih,he=>exact ih e he
      | [a],hk,ih,he=>exact ih e he
      | a :: b :: ks,hk,ih,he =>
        rw [txNs,txNs] at hk
        simp only at he
        split at he
        · rcases List.mem_cons.1 he with rfl | he
          · exact short_ar (full_len hf (tx_text hk.2.1))
          rcases List.mem_append.1 he with he | he
          · exact evN_short hfs hf a hk.1 e he
          · exact evNs_short hfs hf ks hk.2.2 e he
        · rcases List.mem_append.1 he with he | he
          · exact evN_short hfs hf a hk.1 e he
          rcases List.mem_append.1 he with he | he
          · exact evN_short hfs hf b hk.2.1 e he
          · exact evNs_short hfs hf ks hk.2.2 e he
    · exact ih e he
theorem evNs_short (hfs:∀ g ∈ fs,txN B g) (hf:txN B f):∀ l:List NTree,txNs B l->∀ e ∈ evNs fs f l,shortE B e
  | [],_,e,he=>by rw [evNs] at he; cases he
  | n :: l,hl,e,he=>by
    rw [txNs] at hl
    rw [evNs] at he
    rcases List.mem_append.1 he with he | he
    · exact evN_short hfs hf n hl.1 e he
    · exact evNs_short hfs hf l hl.2 e he
theorem evAs_short (hfs:∀ g ∈ fs,txN B g) (hf:txN B f) (g:NTree) (hg:txN B g):∀ l ps:List NTree,txNs B l->txNs B ps->∀ e ∈ evAs fs f g l ps,shortE B e
  | [],ps,_,_,e,he=>by unfold evAs at he; cases he
  | k :: ks,[],_,_,e,he=>by unfold evAs at he; cases he
  | k :: ks,p :: ps,hl,hp,e,he=>by
    rw [txNs] at hl hp
    rw [evAs] at he
    rcases List.mem_append.1 he with he | he
    · split at he
      · rw [List.mem_singleton.1 he]
        intro y hy
        rcases (show y=fullN f k.text \/ y=fullN g p.text by simpa [namesE] using hy) with rfl | rfl
        · exact full_len hf (tx_text hl.1)
        · exact full_len hg (tx_text hp.1)
      · rcases List.mem_cons.1 he with rfl | he
        · exact short_sc (full_len hg (tx_text hp.1))
        · exact evN_short hfs hf k hl.1 e he
    · exact evAs_short hfs hf g hg ks ps hl.2 hp.2 e he
end
end
theorem evL_short {B:Nat} {l:List NTree} (hl:txNs B l) {x:Bytes} (h:Named (evL (funcsN l) l) x):x.length <= 2 * B + 1:=by
  obtain ⟨e,he,hx⟩:=h
  have hm:=txNs_mem hl
  have hfs:∀ g ∈ funcsN l,txN B g:=fun g hg=>hm g (List.mem_filter.1 hg).1
  unfold evL at he
  obtain ⟨n,hn,he⟩:=List.mem_flatMap.1 he
  unfold evI at he
  have hk:=tx_kids (hm n hn)
  split at he
  · refine evNs_short hfs (hm n hn) n.kids.tail ?_ e he x hx
    cases hkk:n.kids with
    | nil=>exact txNs0
    | cons k ks=>rw [hkk,txNs] at hk; exact hk.2
  · exact evNs_short hfs (txN_mk (Nat.zero_le _) txNs0) n.kids hk e he x hx
theorem evL_len (fs:List NTree):∀ l:List NTree,(evL fs l).length <= 3 * wNs l
  | []=>by unfold evL; simp
  | n :: l=>by
    have ih:=evL_len fs l
    unfold evL at *
    rw [List.flatMap_cons,List.length_append,wNs]
    have:(evI fs n).length <= 3 * wN n:=by
      unfold evI
      have hw:=wN_kids n
      split
      · have:=evNs_len fs n n.kids.tail
        have h2:wNs n.kids.tail <= wNs n.kids:=by
          cases n.kids with
          | nil=>exact Nat.le_refl _
          | cons k ks=>rw [List.tail_cons,wNs]; omega
        omega
      · have:=evNs_len fs noF n.kids
        omega
    omega
theorem nodup_sub {α:Type} [DecidableEq α]:∀ {l l':List α},l.Nodup->(∀ x ∈ l,x ∈ l')->l.length <= l'.length
  | [],_,_,_=>Nat.zero_le _
  | a :: l,l',hn,h=>by
    rw [List.nodup_cons] at hn
    have ha:=h a (List.mem_cons_self ..)
    have:=nodup_sub (l:=l) (l':=l'.erase a) hn.2 (fun x hx=>by
      have hne:x ≠ a:=fun e=>hn.1 (e ▸ hx)
      exact (List.mem_erase_of_ne hne).2 (h x (List.mem_cons_of_mem _ hx)))
    have h2:=List.length_erase_of_mem ha
    have h3:0 < l'.length:=List.length_pos_of_mem ha
    rw [List.length_cons]
    omega
theorem named_few {E:List Ev} {rs:List VR} {fl:Marks} (T:Told E rs fl):rs.length <= 2 * E.length:=by
  have h1:=nodup_sub (l:=rs.map (·.name)) (l':=E.flatMap namesE) T.nn (fun x hx=>by
    obtain ⟨r,hr,rfl⟩:=List.mem_map.1 hx
    obtain ⟨e,he,hxe⟩:=(T.named r.name).1 ⟨r,hr,rfl⟩
    exact List.mem_flatMap.2 ⟨e,he,hxe⟩)
  rw [List.length_map] at h1
  have h2:∀ E:List Ev,(E.flatMap namesE).length <= 2 * E.length:=by
    intro E
    induction E with
    | nil=>simp
    | cons e E ih =>
      rw [List.flatMap_cons,List.length_append,List.length_cons]
      have:(namesE e).length <= 2:=by cases e <;> simp [namesE]
      omega
  exact Nat.le_trans h1 (h2 E)
theorem contains_pt:∀ x:Bytes,Lib.contains x [46]=decide (46 ∈ x)
  | []=>by decide
  | b :: x=>by
    rw [contains_cons,contains_pt x]
    have e:([46]:List UInt8).isPrefixOf (b :: x)=(46 == b):=by simp [List.isPrefixOf]
    rw [e]
    by_cases h:(46:UInt8)=b
    · subst h; simp
    · rw [show ((46:UInt8) == b)=false from beq_eq_false_iff_ne.2 h,Bool.false_or]
      have:(46 ∈ b :: x) ↔ 46 ∈ x:=by simp [h]
      exact decide_eq_decide.2 this.symm
end Go.AD.Lx
