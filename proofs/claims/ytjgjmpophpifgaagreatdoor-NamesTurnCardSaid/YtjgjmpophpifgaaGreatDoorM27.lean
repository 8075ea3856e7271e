import Derived.Test.YtjgjmpophpifgaaGreatDoorM26
import Derived.Test.YtjgjmpophpifgaaGreatDoorLsR
import Derived.Test.YtjgjmpophpifgaaGreatDoorRows
import Derived.Test.YtjgjmpophpifgaaGreatDoorM7
import Derived.ChangeSlices
import Derived.WideShapes
import Derived.SizedLaws
import Derived.SliceStrings
import Derived.WalkKit
import Derived.ProofKit
set_option linter.unusedVariables false
set_option linter.unusedSimpArgs false
set_option maxRecDepth 100000
namespace Go.AD.Lx
open Go.Proofs RowKit
theorem parse_w3 {s:Bytes} {A:List NTree} (h:parseS s=some A) (hs:s.length <= 3000):txNs 6002 A/\wNs A <= 80000/\A.length <= 80000/\depthNs A <= 200:=by
  obtain ⟨ts,t,hl,hn,hp⟩:=parse_some h
  have hT:Tk 6002 ts:=by
    unfold lexS at hl
    rw [if_pos (by omega)] at hl
    exact lexL_tk _ _ _ _ (by omega) (fun x hx=>absurd hx (by simp)) hl
  unfold tokensS at hp
  have:=W_itemsL (W_all (B:=6002) (by decide) (10 * ts.length + 20)) (10 * ts.length + 20) [] (endsS ts) hT.ends txNs0
  rw [hp] at this
  have he:=ends_len ts
  have h2:wNs A <= 80000:=by have:=this.2; rw [wNs0] at this; omega
  refine ⟨this.1,h2,Nat.le_trans (lenW A) h2,?_⟩
  have hi:=(parse_items h).1
  have:∀ l:List NTree,(∀ x ∈ l,ItemOk x)->depthNs l <= 200:=by
    intro l
    induction l with
    | nil=>intro _; rw [depthNs]; omega
    | cons n l ih =>
      intro hx
      have h1:=fine_depth n 1 _ (hx n (List.mem_cons_self ..)).2.1
      have h2:=ih (fun x h=>hx x (List.mem_cons_of_mem _ h))
      rw [depthNs]; omega
  exact this A hi
theorem wNs_len2 (a b:List NTree):depthNs (a ++ b)=max (depthNs a) (depthNs b):=by
  induction a with
  | nil=>rw [List.nil_append,depthNs]; omega
  | cons n a ih=>rw [List.cons_append,depthNs,depthNs,ih]; omega
mutual
def eqN:NTree->NTree->Bool
  | .mk a b c,.mk a' b' c'=>decide (a=a') && decide (b=b') && eqNs c c'
def eqNs:List NTree->List NTree->Bool
  | [],[]=>true
  | x :: xs,y :: ys=>eqN x y && eqNs xs ys
  | _,_=>false
end
mutual
theorem eqN_sound:∀ {a b:NTree},eqN a b=true->a=b
  | .mk a b c,.mk a' b' c',h=>by
    rw [eqN,Bool.and_eq_true,Bool.and_eq_true] at h
    obtain ⟨⟨h1,h2⟩,h3⟩:=h
    rw [of_decide_eq_true h1,of_decide_eq_true h2,eqNs_sound h3]
theorem eqNs_sound:∀ {a b:List NTree},eqNs a b=true->a=b
  | [],[],_=>rfl
  | x :: xs,y :: ys,h=>by
    rw [eqNs,Bool.and_eq_true] at h
    rw [eqN_sound h.1,eqNs_sound h.2]
  | [],_ :: _,h=>by simp [eqNs] at h
  | _ :: _,[],h=>by simp [eqNs] at h
end
def awTxt:Bytes:=[102,117,110,99,116,105,111,110,32,102,40,97,41,32,123,32,97,91,49,93,32,61,32,120,32,125,10,66,69,71,73,78,32,123,32,102,40,116,41,32,125]
def awF:NTree:=.mk [102,117,110,99] [102] [.mk [112,97,114,97,109,115] [] [.mk [118,97,114] [97] []],.mk [98,108,111,99,107] [] [.mk [101,120,112,114] [] [.mk [97,115,115,105,103,110] [61] [.mk [101,108,101,109] [97] [.mk [110,117,109] [49] []],.mk [118,97,114] [120] []]]]]
def awB:NTree:=.mk [66,69,71,73,78] [] [.mk [98,108,111,99,107] [] [.mk [101,120,112,114] [] [.mk [99,97,108,108] [102] [.mk [118,97,114] [116] []]]]]
def awL:List NTree:=[awF,awB]
theorem aw_parse:parseS awTxt=some awL:=by
  have h:(match parseS awTxt with | some l=>eqNs l awL | none=>false)=true:=by decide +kernel
  cases hp:parseS awTxt with
  | none=>rw [hp] at h; cases h
  | some l=>rw [hp] at h; rw [eqNs_sound h]
theorem aw_funcs:funcsN awL=[awF]:=rfl
theorem aw_ev:evL (funcsN awL) awL=[.ar [102,46,97],.sc [120],.link [116] [102,46,97]]:=by decide +kernel
theorem aw_sp:specialB [102]=false/\specialB [97]=false/\specialB [102,46,97]=false/\specialB [120]=false/\specialB [116]=false:=by decide +kernel
theorem aw_named {x:Bytes} (h:Named (evL (funcsN awL) awL) x):x=[102,46,97] \/ x=[120] \/ x=[116]:=by
  rw [aw_ev] at h
  obtain ⟨e,he,hx⟩:=h
  simp only [List.mem_cons,List.not_mem_nil,or_false] at he
  rcases he with rfl | rfl | rfl
  · left; simpa [namesE] using hx
  · right; left; simpa [namesE] using hx
  · rcases (show x=[116] \/ x=[102,46,97] by simpa [namesE] using hx) with h | h
    · exact .inr (.inr h)
    · exact .inl h
theorem aw_lk {a b:Bytes} (h:Lk (evL (funcsN awL) awL) a b):(a=[116]/\b=[102,46,97]) \/ (a=[102,46,97]/\b=[116]):=by
  rw [aw_ev] at h
  unfold Lk at h
  simp only [List.mem_cons,List.not_mem_nil,or_false,reduceCtorEq,false_or,Ev.link.injEq] at h
  rcases h with ⟨h1,h2⟩ | ⟨h1,h2⟩
  · exact .inl ⟨h1,h2⟩
  · exact .inr ⟨h2,h1⟩
theorem aw_isA {x:Bytes}:IsA (evL (funcsN awL) awL) x ↔ x=[102,46,97] \/ x=[116]:=by
  constructor
  · rintro ⟨y,h1,h2⟩
    have hy:y=[102,46,97]:=by
      rw [aw_ev] at h1
      simpa using h1
    subst hy
    induction h2 with
    | refl=>exact .inl rfl
    | step _ hl ih =>
      rcases aw_lk hl with ⟨_,h⟩ | ⟨_,h⟩
      · exact .inl h
      · exact .inr h
  · have hm:Ev.ar [102,46,97] ∈ evL (funcsN awL) awL:=by rw [aw_ev]; simp
    rintro (rfl | rfl)
    · exact ⟨_,hm,.refl _⟩
    · exact ⟨_,hm,.step (.refl _) (.inr (by rw [aw_ev]; simp))⟩
theorem aw_isS {x:Bytes} (h:IsS specialB (evL (funcsN awL) awL) x):x=[120]:=by
  obtain ⟨y,h1,h2⟩:=h
  have hy:y=[120]:=by
    rcases h1 with h1 | ⟨h1,h3⟩
    · rw [aw_ev] at h1
      simpa using h1
    · rcases aw_named h3 with rfl | rfl | rfl
      · rw [aw_sp.2.2.1] at h1; cases h1
      · rfl
      · rw [aw_sp.2.2.2.2] at h1; cases h1
  have key:∀ {y z:Bytes},Conn (Lk (evL (funcsN awL) awL)) y z->y=[120]->z=[120]:=by
    intro y z c
    induction c with
    | refl=>exact id
    | step _ hl ih =>
      intro e
      rw [ih e] at hl
      rcases aw_lk hl with ⟨h,_⟩ | ⟨h,_⟩ <;> cases h
  exact key h2 hy
theorem aw_wrong:¬ WrongN specialB awL:=by
  rintro (h | h | ⟨x,h1,h2⟩)
  · refine h ⟨?_,?_,?_⟩
    · rw [aw_funcs]; simp
    · rw [aw_funcs]
      intro f hf
      rw [List.mem_singleton.1 hf]
      exact ⟨aw_sp.1,by unfold awF NTree.kids; simp⟩
    · rw [aw_funcs]
      intro f hf
      rw [List.mem_singleton.1 hf]
      refine ⟨by decide,fun p hp=>?_⟩
      have:p=.mk [118,97,114] [97] []:=by simpa [awF,paramsN,NTree.kids] using hp
      rw [this]
      exact ⟨aw_sp.2.1,rfl⟩
  · rw [aw_ev] at h; simp at h
  · rcases h2 with ⟨h2,h3⟩ | h2
    · rw [aw_isS h2,aw_isA] at h3; revert h3; decide
    · rw [aw_funcs] at h2
      obtain ⟨f,hf,e⟩:=funF_isSome.1 h2
      rw [List.mem_singleton.1 hf] at e
      have:x=[102]:=e.symm
      rcases aw_named h1 with h | h | h <;> · rw [this] at h; cases h
theorem aw_result {b:Bool} {F S A P:List Bytes} (h:NamesR awL b F S A P):b=true/\A=[[116]]/\P=[[102,46,97]]/\S=[[120]]:=by
  unfold NamesR at h
  cases b with
  | false=>rw [if_neg (by decide)] at h; exact absurd h.1 aw_wrong
  | true =>
    rw [if_pos rfl] at h
    obtain ⟨_,h⟩:=h
    have n1:Named (evL (funcsN awL) awL) [102,46,97]:=by rw [aw_ev]; exact ⟨_,List.mem_cons_self ..,by simp [namesE]⟩
    have n2:Named (evL (funcsN awL) awL) [120]:=by rw [aw_ev]; exact ⟨.sc [120],by simp,by simp [namesE]⟩
    have n3:Named (evL (funcsN awL) awL) [116]:=by rw [aw_ev]; exact ⟨.link [116] [102,46,97],by simp,by simp [namesE]⟩
    refine ⟨rfl,rising_ext less_irrefl less_asymm _ _ h.rA (by simp) fun x=>?_,rising_ext less_irrefl less_asymm _ _ h.rP (by simp) fun x=>?_,rising_ext less_irrefl less_asymm _ _ h.rS (by simp) fun x=>?_⟩
    · rw [h.mA,aw_isA,List.mem_singleton]
      constructor
      · rintro ⟨_,rfl | rfl,h3⟩
        · exact absurd (by decide) h3
        · rfl
      · rintro rfl; exact ⟨n3,.inr rfl,by decide⟩
    · rw [h.mP,aw_isA,List.mem_singleton]
      constructor
      · rintro ⟨_,rfl | rfl,h3⟩
        · rfl
        · exact absurd h3 (by decide)
      · rintro rfl; exact ⟨n1,.inl rfl,by decide⟩
    · rw [h.mS,aw_isA,List.mem_singleton]
      constructor
      · rintro ⟨h1,h2,h3⟩
        rcases aw_named h1 with rfl | rfl | rfl
        · exact absurd (.inl rfl) h2
        · rfl
        · exact absurd (.inr rfl) h2
      · rintro rfl; exact ⟨n2,by decide,by decide⟩
section
variable {env:Env} {args:List AV} {σ0 σ τ:AS} {K:AV->AS->Prop} {X:PV->AS->Prop} {L Y M:Objs}
theorem gTt' {b:Bool} {A B:Prop} (hb:b=true) (h:A):guardD (.pv (.bool b)) true A B:=by subst hb; exact gTt h
def strsV (l:List Bytes):AV:=.pv (.lst l.length (l.map .str))
theorem strsLen {l:List Bytes} {KV:AV->Prop}:lenD PS 26 (strsV l) KV=KV (.pv (.int .i64 (l.length:Nat))):=T.lnl26
theorem strsIx {l:List Bytes} {i:Nat} (h:i < l.length) {KV:AV->Prop}:indexAddrD PS 26 (strsV l) (.pv (.int .i64 (i:Nat))) KV=KV (.elemP (l.map .str) (i * 1)):=T.ixl26 h (by simp)
theorem strsEl {l:List Bytes} {i:Nat} (h:i < l.length) {KV:AV->Prop}:loadD PS σ 9 (.elemP (l.map .str) (i * 1)) KV=KV (.pv (.str l[i])):=by
  rw [T.le9,Nat.mul_one,List.getElem?_map,List.getElem?_eq_getElem h,Option.map_some,someEx]
def T_list7:Tr:=fun args σ K _=>∃ a b:List Bytes,args=[strsV a,strsV b]/\a.length <= 1000000000/\b.length <= 1000000000/\∀ σ',σ.sub σ'->K (.pv (.bool (decide (a=b)))) σ'
theorem T_list7_ok (h:T_list7 args σ K X):bodyD PS env an32 Tryz.f32 args σ K X:=by
  obtain ⟨a,b,rfl,ha,hb,hK⟩:=h
  rw [<- S32_eq env,S32]
  simp (disch:=omega) only [lock_eq,strsLen,bin_neq,cond_bool]
  refine iteI (fun g=>?_) (fun g=>?_)
  · have hne:a ≠ b:=fun e=>by subst e; simp at g
    refine retV_self ?_
    have:=hK σ (sub_refl _)
    rw [decide_eq_false hne] at this
    exact this
  have hlen:a.length=b.length:=by
    have:=g
    simp only [bne_iff_ne,ne_eq,Decidable.not_not] at this
    omega
  refine lp32_4 (fun (i:Nat) _=>a.length - i) (fun i τ=>σ.sub τ/\i <= a.length/\a.take i=b.take i) (fun i=>.pv (.int .i64 (i:Nat))) 0 ⟨sub_refl _,Nat.zero_le _,by simp⟩ ?_
  rintro i τ ⟨hs,hi,ht⟩
  unfold L32_4
  simp (disch:=omega) only [lock_eq,strsLen,bin_lss,cond_bool,decide_eq_true_eq]
  refine iteI (fun g1=>?_) (fun g1=>?_)
  · have hia:i < a.length:=by omega
    have hib:i < b.length:=by omega
    rw [strsIx hia,strsEl hia,strsIx hib,strsEl hib]
    simp (disch:=omega) only [bin_sneq,cond_bool,go_sem]
    refine iteI (fun g2=>?_) (fun g2=>?_)
    · have hne:a ≠ b:=fun e=>by subst e; simp at g2
      refine retV_self ?_
      have:=hK τ hs
      rw [decide_eq_false hne] at this
      exact this
    · have he:a[i]=b[i]:=by simpa using g2
      refine back (i + 1) rfl (by omega) ⟨hs,by omega,?_⟩
      rw [List.take_succ_eq_append_getElem hia,List.take_succ_eq_append_getElem hib,ht,he]
  · have e:i=a.length:=by omega
    subst e
    have hab:a=b:=by
      rw [List.take_length] at ht
      rw [ht,hlen,List.take_length]
    refine retV_self ?_
    have:=hK τ hs
    rw [decide_eq_true hab] at this
    exact this
theorem list_call {f:FuncId} (h:env f=T_list7) {a b:List Bytes} (ha:a.length <= 1000000000) (hb:b.length <= 1000000000) (hK:∀ σ',σ.sub σ'->K (.pv (.bool (decide (a=b)))) σ'):env f [strsV a,strsV b] σ K X:=by
  rw [h]; exact ⟨a,b,rfl,ha,hb,hK⟩
theorem namesAV_eq (F S A P:List Bytes):namesAV F S A P=.agg [strsV F,strsV S,strsV A,strsV P]:=rfl
def fewN (F S A P:List Bytes):Prop:=F.length <= 1000000000/\S.length <= 1000000000/\A.length <= 1000000000/\P.length <= 1000000000
def T_same7:Tr:=fun args σ K _=>∃ F S A P F' S' A' P':List Bytes,args=[namesAV F S A P,namesAV F' S' A' P']/\fewN F S A P/\fewN F' S' A' P'/\∀ σ',σ.sub σ'->K (.pv (.bool (decide (F=F'/\S=S'/\A=A'/\P=P')))) σ'
theorem T_same7_ok (h1:env 32=T_list7) (h:T_same7 args σ K X):bodyD PS env an11 Tryz.f11 args σ K X:=by
  obtain ⟨F,S,A,P,F',S',A',P',rfl,⟨n1,n2,n3,n4⟩,⟨m1,m2,m3,m4⟩,hK⟩:=h
  rw [<- S11_eq env,S11]
  simp only [lock_eq,namesAV_eq]
  refine ⟨rfl,fun t2 ht2=>?_⟩
  have hS:=(Sep.start σ).alloc ht2 (.cells [strsV F,strsV S,strsV A,strsV P] none)
  have e2:(AV.agg [strsV F,strsV S,strsV A,strsV P]).cells=[strsV F,strsV S,strsV A,strsV P]:=rfl
  rw [e2]
  generalize σ.set t2 _=σ1 at hS ⊢
  refine ⟨rfl,fun t3 ht3=>?_⟩
  have hS:=hS.alloc ht3 (.cells [strsV F',strsV S',strsV A',strsV P'] none)
  have e3:(AV.agg [strsV F',strsV S',strsV A',strsV P']).cells=[strsV F',strsV S',strsV A',strsV P']:=rfl
  rw [e3]
  generalize σ1.set t3 _=σ2 at hS ⊢
  have fin:∀ (b:Bool) (τ:AS),σ2.sub τ->b=decide (F=F'/\S=S'/\A=A'/\P=P')->retV (.pv (.bool b)) τ K:=by
    rintro b τ hs rfl
    exact retV_self (hK τ (AS.sub_trans hS.sub hs))
  have g2:∀ τ,σ2.sub τ->τ t2=some (.cells [strsV F,strsV S,strsV A,strsV P] none):=fun τ hs=>hs _ _ (hS.get (by simp))
  have g3:∀ τ,σ2.sub τ->τ t3=some (.cells [strsV F',strsV S',strsV A',strsV P'] none):=fun τ hs=>hs _ _ (hS.get (by simp))
  simp only [T.fa28_0,T.fa28_1,T.fa28_2,T.fa28_3,Nat.zero_add,ldA T.hT26 T.ag26]
  rw [g2 σ2 (sub_refl _),g3 σ2 (sub_refl _)]
  simp only [ldM_cells,List.getElem?_cons_zero,someEx]
  refine list_call h1 n1 m1 (fun σ3 hs3=>?_)
  simp only [guard_true,decide_eq_true_eq]
  refine iteI (fun e1=>?_) (fun e1=>fin _ _ hs3 (decide_eq_false (fun h=>e1 h.1)).symm)
  rw [g2 σ3 hs3,g3 σ3 hs3]
  simp only [ldM_cells,List.getElem?_cons_zero,List.getElem?_cons_succ,someEx]
  refine list_call h1 n2 m2 (fun σ4 hs4=>?_)
  have hs4:=AS.sub_trans hs3 hs4
  simp only [guard_true,decide_eq_true_eq]
  refine iteI (fun e2=>?_) (fun e2=>fin _ _ hs4 (decide_eq_false (fun h=>e2 h.2.1)).symm)
  rw [g2 σ4 hs4,g3 σ4 hs4]
  simp only [ldM_cells,List.getElem?_cons_zero,List.getElem?_cons_succ,someEx]
  refine list_call h1 n3 m3 (fun σ5 hs5=>?_)
  have hs5:=AS.sub_trans hs4 hs5
  simp only [guard_true,decide_eq_true_eq]
  refine iteI (fun e3=>?_) (fun e3=>fin _ _ hs5 (decide_eq_false (fun h=>e3 h.2.2.1)).symm)
  rw [g2 σ5 hs5,g3 σ5 hs5]
  simp only [ldM_cells,List.getElem?_cons_zero,List.getElem?_cons_succ,someEx]
  refine list_call h1 n4 m4 (fun σ6 hs6=>?_)
  exact fin _ _ (AS.sub_trans hs5 hs6) (by rw [decide_eq_decide]; exact ⟨fun h=>⟨e1,e2,e3,h⟩,fun h=>h.2.2.2⟩)
theorem resolve_call {f:FuncId} (h:env f=T_nResolve.wkArgs) {v:AV} {l:List NTree} (hv:wk v (rowN l)) (hl:l.length <= 1000000) (htx:txNs 40000 l) (hw:wNs l <= 1000000) (hd:depthNs l < 400)
    (hK:∀ σ' b F S A P,σ.sub σ'->NamesR l b F S A P->K (.tuple [namesAV F S A P,.pv (.bool b)]) σ'):env f [v] σ K X:=by
  rw [h]; exact ⟨[rowN l],⟨hv,trivial⟩,l,rfl,hl,htx,hw,hd,hK⟩
theorem parse7 {f:FuncId} (h:env f=T_yParse) {s:Bytes} (hK:∀ σ',σ.sub σ'->K (parseNV (parseS s)) σ'):env f [.pv (.str s)] σ K X:=by
  rw [h]; exact ⟨s,rfl,hK⟩
def T_nAwake:Tr:=fun args σ K _=>args=[]/\∀ σ',σ.sub σ'->K (.pv (.bool true)) σ'
theorem T_nAwake_ok (h1:env 12=T_yParse) (h2:env 9=T_nResolve.wkArgs) (h:T_nAwake args σ K X):bodyD PS env an7 Tryz.f7 args σ K X:=by
  obtain ⟨rfl,hK⟩:=h
  rw [<- S7_eq env,S7]
  simp only [lock_eq]
  refine parse7 (s:=awTxt) h1 (fun σ1 hs1=>?_)
  rw [aw_parse]
  refine ext0 ?_
  refine ext1 ?_
  have hw:=parse_w3 aw_parse (by decide)
  refine resolve_call h2 (l:=awL) (wk_refl _) (by decide) (txNs_mono (by decide) _ hw.1) (by have:=hw.2.1; omega) (by have:=hw.2.2.2; omega) (fun σ2 b F S A P hs2 hR=>?_)
  obtain ⟨rfl,rfl,rfl,rfl⟩:=aw_result hR
  refine ext0 ?_
  refine ext1 ?_
  refine alloc_of T.zo28 rfl (fun t3 ht3=>?_)
  have hS:=(Sep.start σ2).alloc ht3 (.cells [.nilS,.nilS,.nilS,.nilS] (some 28))
  generalize σ2.set t3 _=σ3 at hS ⊢
  rw [namesAV_eq]
  refine stNames (hS.get (i:=t3) (o:=.cells [.nilS,.nilS,.nilS,.nilS] (some 28)) (by simp)) rfl ?_
  have hS:=hS.set1 (.cells [strsV F,strsV [[120]],strsV [[116]],strsV [[102,46,97]]] (some 28))
  generalize σ3.set t3 _=σ4 at hS ⊢
  have hg:=hS.get (i:=t3) (o:=.cells [strsV F,strsV [[120]],strsV [[116]],strsV [[102,46,97]]] (some 28)) (by simp)
  refine gTt ?_
  simp only [T.fa28_0,T.fa28_1,T.fa28_2,T.fa28_3,Nat.zero_add,ldA T.hT26 T.ag26,hg,ldM_cells,List.getElem?_cons_zero,List.getElem?_cons_succ,someEx,strsLen]
  have one:∀ (x:Bytes) (KV:AV->Prop),binD PS .eql 3 (.pv (.int .i64 ((([x]:List Bytes).length:Nat):Int))) (.pv (.int .i64 1)) KV=KV (.pv (.bool true)):=fun x KV=>by rw [Go.AD.bin_eql]; rfl
  have ix:∀ KV:AV->Prop,indexAddrD PS 26 (strsV [[116]]) (.pv (.int .i64 0)) KV=KV (.elemP (([[116]]:List Bytes).map .str) (0 * 1)):=fun KV=>strsIx (l:=[[116]]) (i:=0) (by decide)
  rw [one]
  refine gTt ?_
  rw [ix,strsEl (l:=[[116]]) (i:=0) (by decide),Go.AD.bin_seql]
  refine gTt' (by decide) ?_
  rw [one]
  refine gTt ?_
  rw [one]
  exact retV_self (hK _ (AS.sub_trans hs1 (AS.sub_trans hs2 hS.sub)))
theorem awake_call {f:FuncId} (h:env f=T_nAwake) (hK:∀ σ',σ.sub σ'->K (.pv (.bool true)) σ'):env f [] σ K X:=by
  rw [h]; exact ⟨rfl,hK⟩
end
end Go.AD.Lx

set_option linter.unusedVariables false
set_option linter.unusedSimpArgs false
set_option maxRecDepth 100000
namespace Go.AD.Lx
open Go.Proofs RowKit
def bytB (D:List Bytes):List (Bytes × AV):=D.map fun x=>(x,.pv (.bool true))
theorem bytB_get (x:Bytes):∀ D:List Bytes,aGet (bytB D) x=if x ∈ D then some (.pv (.bool true)) else none
  | []=>rfl
  | p :: D=>by
    have ih:=bytB_get x D
    unfold aGet bytB at *
    rw [List.map_cons,List.find?_cons]
    by_cases h:p=x
    · subst h; simp
    · rw [show (p == x)=false from beq_eq_false_iff_ne.2 h]
      have:(x ∈ p :: D)=(x ∈ D):=by simp [Ne.symm h]
      simp only [this]
      exact ih
theorem bytB_put {x:Bytes}:∀ {D:List Bytes},x ∉ D->aPut (bytB D) x (.pv (.bool true))=bytB (D ++ [x])
  | [],_=>rfl
  | p :: D,h=>by
    simp only [List.mem_cons,not_or] at h
    have ih:=bytB_put (x:=x) (D:=D) h.2
    show (if (p,AV.pv (.bool true)).1=x then _ else _)=_
    rw [if_neg (fun e=>h.1 e.symm)]
    show _ :: aPut (bytB D) x _=_
    rw [ih]
    rfl
theorem names_apart {l:List NTree} {F S A P:List Bytes} (hw:¬ WrongN specialB l) (h:NamesOf Op.bytesLess l F S A P):([F,S,A,P].flatten).Nodup:=by
  have nd:∀ {L:List Bytes},L.Pairwise (fun a b=>Op.bytesLess a b=true)->L.Nodup:=fun hp=>hp.imp fun {a b} h e=>by
    subst e; rw [less_irrefl] at h; cases h
  have notF:∀ x ∈ F,¬ Named (evL (funcsN l) l) x:=fun x hx hn=>hw (.inr (.inr ⟨x,hn,.inr ((h.mF x).1 hx)⟩))
  simp only [List.flatten_cons,List.flatten_nil,List.append_nil]
  rw [List.nodup_append,List.nodup_append,List.nodup_append]
  refine ⟨nd h.rF,⟨nd h.rS,⟨nd h.rA,nd h.rP,?_⟩,?_⟩,?_⟩
  · rintro x hx _ hy rfl
    exact ((h.mA x).1 hx).2.2 ((h.mP x).1 hy).2.2
  · rintro x hx _ hy rfl
    rcases List.mem_append.1 hy with hy | hy
    · exact ((h.mS x).1 hx).2.1 ((h.mA x).1 hy).2.1
    · exact ((h.mS x).1 hx).2.1 ((h.mP x).1 hy).2.1
  · rintro x hx _ hy rfl
    rcases List.mem_append.1 hy with hy | hy
    · exact notF x hx ((h.mS x).1 hy).1
    · rcases List.mem_append.1 hy with hy | hy
      · exact notF x hx ((h.mA x).1 hy).1
      · exact notF x hx ((h.mP x).1 hy).1
theorem names_few {l:List NTree} {F S A P:List Bytes} (hw:wNs l <= 1000000) {b:Bool} (h:NamesR l b F S A P):fewN F S A P:=by
  unfold NamesR at h
  cases b with
  | false =>
    rw [if_neg (by decide)] at h
    obtain ⟨_,rfl,rfl,rfl,rfl⟩:=h
    exact ⟨by simp,by simp,by simp,by simp⟩
  | true =>
    rw [if_pos rfl] at h
    obtain ⟨_,h⟩:=h
    have nd:∀ {L:List Bytes},L.Pairwise (fun a b=>Op.bytesLess a b=true)->L.Nodup:=fun hp=>hp.imp fun {a b} h e=>by
      subst e; rw [less_irrefl] at h; cases h
    have hel:=evL_len (funcsN l) l
    have hfl:∀ E:List Ev,(E.flatMap namesE).length <= 2 * E.length:=by
      intro E
      induction E with
      | nil=>simp
      | cons e E ih =>
        rw [List.flatMap_cons,List.length_append,List.length_cons]
        have:(namesE e).length <= 2:=by cases e <;> simp [namesE]
        omega
    have hn:∀ {L:List Bytes},L.Nodup->(∀ x ∈ L,Named (evL (funcsN l) l) x)->L.length <= 1000000000:=fun {L} h1 h2=>by
      have:=nodup_sub (l':=(evL (funcsN l) l).flatMap namesE) h1 (fun x hx=>by
        obtain ⟨e,he,hxe⟩:=h2 x hx
        exact List.mem_flatMap.2 ⟨e,he,hxe⟩)
      have:=hfl (evL (funcsN l) l)
      omega
    refine ⟨?_,hn (nd h.rS) fun x hx=>((h.mS x).1 hx).1,hn (nd h.rA) fun x hx=>((h.mA x).1 hx).1,hn (nd h.rP) fun x hx=>((h.mP x).1 hx).1⟩
    have:=nodup_sub (l':=(funcsN l).map (·.text)) (nd h.rF) (fun x hx=>by
      obtain ⟨f,hf,e⟩:=funF_isSome.1 ((h.mF x).1 hx)
      exact List.mem_map.2 ⟨f,hf,e⟩)
    rw [List.length_map] at this
    have h3:(funcsN l).length <= l.length:=by unfold funcsN; exact List.length_filter_le ..
    have h4:=lenW l
    omega
section
variable {env:Env} {args:List AV} {σ0 σ τ:AS} {K:AV->AS->Prop} {X:PV->AS->Prop} {L Y M A B:Objs}
theorem same_call {f:FuncId} (h:env f=T_same7) {F S A P F' S' A' P':List Bytes} (h1:fewN F S A P) (h2:fewN F' S' A' P') (hK:∀ σ',σ.sub σ'->K (.pv (.bool (decide (F=F'/\S=S'/\A=A'/\P=P')))) σ'):env f [namesAV F S A P,namesAV F' S' A' P'] σ K X:=by
  rw [h]; exact ⟨_,_,_,_,_,_,_,_,rfl,h1,h2,hK⟩
theorem newNames {F S A P:List Bytes} {KS:AV->AS->Prop} (hK:∀ i σ',Sep σ σ' [(i,.cells [strsV F,strsV S,strsV A,strsV P] (some 28))]->KS (.addr i 0) σ'):allocD PS σ 28 fun a σ1=>storeD PS σ1 28 a (namesAV F S A P) (KS a):=by
  refine alloc_of T.zo28 rfl (fun t3 ht3=>?_)
  have hS:=(Sep.start σ).alloc ht3 (.cells [.nilS,.nilS,.nilS,.nilS] (some 28))
  generalize σ.set t3 _=σ3 at hS ⊢
  rw [namesAV_eq]
  refine stNames (hS.get (i:=t3) (o:=.cells [.nilS,.nilS,.nilS,.nilS] (some 28)) (by simp)) rfl ?_
  exact hK _ _ (hS.set1 _)
def rows4 (F S A P:List Bytes):List PV:=[.lst F.length (F.map .str),.lst S.length (S.map .str),.lst A.length (A.map .str),.lst P.length (P.map .str)]
theorem bld4f {F S A P:List Bytes} {KS:AV->AS->Prop} (hK:KS (.full 4 (rows4 F S A P)) σ):buildSliceD PS false σ 34 4 4 [(0,strsV F),(1,strsV S),(2,strsV A),(3,strsV P)] KS:=by
  unfold buildSliceD
  rw [T.el34]
  simp only [strsV,T.hT26,T.sz26,elemsFill,AV.cells,AV.cellOk,List.length_cons,List.length_nil,List.all_cons,List.all_nil,Bool.and_self,and_self,if_true,Option.map_some,true_and,and_true,Nat.mul_one,Nat.reduceAdd,List.cons_append,List.nil_append,Bool.false_eq_true,if_false,toPVs,toPV]
  exact ⟨by decide,by rw [T.zo26]; rfl,by decide,hK⟩
def T_NamesApart:Tr:=fun args σ K _=>∃ s:Bytes,args=[.pv (.str s)]/\∀ σ',σ.sub σ'->K (.pv (.bool true)) σ'
theorem T_NamesApart_ok (h1:env 7=T_nAwake) (h2:env 12=T_yParse) (h3:env 9=T_nResolve.wkArgs) (h4:env 11=T_same7) (h:T_NamesApart args σ K X):bodyD PS env an4 Tryz.f4 args σ K X:=by
  obtain ⟨s,rfl,hK⟩:=h
  rw [<- S4_eq env,S4]
  simp only [lock_eq]
  refine awake_call h1 (fun σ1 hs1=>?_)
  refine nT ?_
  refine cF ?_
  simp only [T.ls9,Go.AD.bin_gtr,cond_bool]
  refine iteI (fun _=>retV_self (hK _ hs1)) (fun g=>?_)
  have hlen:s.length <= 3000:=by
    have:¬ (s.length:Int) > 3000:=by simpa using g
    omega
  refine parse7 h2 (fun σ2 hs2=>?_)
  have hs2:=AS.sub_trans hs1 hs2
  cases hp:parseS s with
  | none =>
    refine ext0 ?_
    refine ext1 ?_
    refine nF ?_
    refine cT ?_
    exact retV_self (hK _ hs2)
  | some l =>
    have hw:=parse_w3 hp hlen
    refine ext0 ?_
    refine ext1 ?_
    refine nT ?_
    refine cF ?_
    refine resolve_call h3 (l:=l) (wk_refl _) (by have:=hw.2.2.1; omega) (txNs_mono (by decide) _ hw.1) (by have:=hw.2.1; omega) (by have:=hw.2.2.2; omega) (fun σ3 b F S A P hs3 hR=>?_)
    have hfew:=names_few (by have:=hw.2.1; omega) hR
    have hs3:=AS.sub_trans hs2 hs3
    refine ext0 ?_
    refine ext1 ?_
    refine newNames (fun t5 σ5 hS=>?_)
    have hs5:=AS.sub_trans hs3 hS.sub
    have hg:=hS.get (i:=t5) (o:=.cells [strsV F,strsV S,strsV A,strsV P] (some 28)) (by simp)
    cases b with
    | false =>
      unfold NamesR at hR
      rw [if_neg (by decide)] at hR
      obtain ⟨_,rfl,rfl,rfl,rfl⟩:=hR
      refine nF ?_
      refine cT ?_
      refine ldNames hg ?_
      refine ldNames hg ?_
      refine same_call (F:=[]) (S:=[]) (A:=[]) (P:=[]) (F':=[]) (S':=[]) (A':=[]) (P':=[]) h4 hfew hfew (fun σ6 hs6=>?_)
      have hg6:=hs6 _ _ hg
      refine gTt' (by decide) ?_
      simp (disch:=omega) only [T.fa28_0,T.fa28_1,T.fa28_2,T.fa28_3,Nat.zero_add,ldA T.hT26 T.ag26,hg6,ldM_cells,List.getElem?_cons_zero,List.getElem?_cons_succ,someEx,strsLen,Go.AD.bin_add,Go.AD.bin_eql]
      exact retV_self (hK _ (AS.sub_trans hs5 hs6))
    | true =>
      unfold NamesR at hR
      rw [if_pos rfl] at hR
      obtain ⟨hwr,hN⟩:=hR
      have hnd:=names_apart hwr hN
      refine nT ?_
      refine cF ?_
      unfold makeMapD
      rw [mapTB]
      simp only [keyT,true_and]
      intro sm hsm
      have hS:=hS.alloc hsm (.mapO 1 [] 0)
      generalize σ5.set sm _=σ7 at hS ⊢
      have hg7:=hS.get (i:=t5) (o:=.cells [strsV F,strsV S,strsV A,strsV P] (some 28)) (by simp)
      simp only [T.fa28_0,T.fa28_1,T.fa28_2,T.fa28_3,Nat.zero_add,ldA T.hT26 T.ag26,hg7,ldM_cells,List.getElem?_cons_zero,List.getElem?_cons_succ,someEx]
      refine bld4f ?_
      rw [T.lnf34]
      have hrise:∀ L ∈ [F,S,A,P],L.Pairwise (fun a b=>Op.bytesLess a b=true)/\L.length <= 1000000000:=by
        intro L hL
        simp only [List.mem_cons,List.not_mem_nil,or_false] at hL
        rcases hL with rfl | rfl | rfl | rfl
        · exact ⟨hN.rF,hfew.1⟩
        · exact ⟨hN.rS,hfew.2.1⟩
        · exact ⟨hN.rA,hfew.2.2.1⟩
        · exact ⟨hN.rP,hfew.2.2.2⟩
      have hrow:∀ (i:Nat) (h:i < [F,S,A,P].length),(rows4 F S A P)[i]?=some (.lst ([F,S,A,P][i]).length (([F,S,A,P][i]).map .str)):=by
        intro i h
        have:i=0 \/ i=1 \/ i=2 \/ i=3:=by simp only [List.length_cons,List.length_nil] at h; omega
        rcases this with rfl | rfl | rfl | rfl <;> rfl
      generalize hLL:[F,S,A,P]=LL at hnd hrise hrow
      have hl4:LL.length=4:=by rw [<- hLL]; rfl
      refine lp4_13 (fun (i:Nat) _=>4 - i) (fun i τ=>i <= 4/\Sep σ3 τ (mapA sm (bytB (LL.take i).flatten) :: [(t5,.cells [strsV F,strsV S,strsV A,strsV P] (some 28))])) (fun i=>.pv (.int .i64 (i:Nat))) 0 ⟨by decide,hS⟩ ?_
      clear hS
      rintro i τ ⟨hi,hS⟩
      unfold L4_13
      simp (disch:=omega) only [lock_eq,bin_lss,cond_bool,decide_eq_true_eq]
      refine iteI (fun g1=>?_) (fun g1=>retV_self (hK _ (AS.sub_trans hs3 hS.sub)))
      have hi4:i < 4:=by omega
      have hiL:i < LL.length:=by omega
      refine T.ixv34 (cs:=rows4 F S A P) rfl hi4 rfl ?_
      rw [T.le26,Nat.mul_one]
      refine ⟨_,hrow i hiL,?_⟩
      rw [show AV.pv (PV.lst LL[i].length (List.map PV.str LL[i]))=strsV LL[i] from rfl]
      rw [strsLen]
      have hpi:=hrise _ (List.getElem_mem hiL)
      have hflat:(LL.take (i + 1)).flatten=(LL.take i).flatten ++ LL[i]:=by rw [List.take_succ_eq_append_getElem hiL,List.flatten_append]; simp
      have hndi:((LL.take i).flatten ++ LL[i]).Nodup:=by
        rw [<- hflat]
        rw [<- List.take_append_drop (i + 1) LL,List.flatten_append] at hnd
        exact (List.sublist_append_left _ _).nodup hnd
      refine lp4_16 (fun (j:Nat) _=>LL[i].length - j) (fun j τ=>j <= LL[i].length/\Sep σ3 τ (mapA sm (bytB ((LL.take i).flatten ++ LL[i].take j)) :: [(t5,.cells [strsV F,strsV S,strsV A,strsV P] (some 28))])) (fun j=>.pv (.int .i64 (j:Nat))) 0 ⟨Nat.zero_le _,by simpa using hS⟩ ?_
      clear hS
      rintro j τ ⟨hj,hS⟩
      unfold L4_16
      simp (disch:=omega) only [lock_eq,bin_lss,cond_bool,decide_eq_true_eq]
      refine iteI (fun g2=>?_) (fun g2=>?_)
      rotate_left
      · have e:j=LL[i].length:=by omega
        subst e
        rw [List.take_length,<- hflat] at hS
        simp (disch:=omega) only [go_sem]
        exact back (i + 1) rfl (by omega) ⟨by omega,hS⟩
      have hjl:j < LL[i].length:=by omega
      have hnew:LL[i][j] ∉ (LL.take i).flatten ++ LL[i].take j:=by
        intro hm
        have h5:((LL.take i).flatten ++ LL[i].take j ++ [LL[i][j]]).Nodup:=by
          rw [List.append_assoc,<- List.take_succ_eq_append_getElem hjl]
          exact ((List.take_sublist _ _).append_left _).nodup hndi
        rw [List.nodup_append] at h5
        exact h5.2.2 _ hm _ (List.mem_singleton_self _) rfl
      rw [strsIx hjl,strsEl hjl]
      rw [mapLook mapTB keyT zB (hS.get (i:=sm) (o:=.mapO 1 (mapEs (bytB ((LL.take i).flatten ++ LL[i].take j))) (bytB ((LL.take i).flatten ++ LL[i].take j)).length) (by simp [mapA])),bytB_get,if_neg hnew]
      refine gFf ?_
      have upd:∀ KS:AS->Prop,(∀ σ',Sep σ3 σ' (mapA sm (bytB ((LL.take i).flatten ++ LL[i].take (j + 1))) :: [(t5,.cells [strsV F,strsV S,strsV A,strsV P] (some 28))])->KS σ')->mapUpdateD PS τ 33 (.amap sm) (.pv (.str LL[i][j])) (.pv (.bool true)) KS:=by
        intro KS hKS
        refine mapUpd mapTB keyT (A:=[]) hS (fun σ' h2=>hKS σ' ?_)
        rw [bytB_put hnew,List.append_assoc,<- List.take_succ_eq_append_getElem hjl] at h2
        exact h2
      simp only [Go.AD.bin_gtr,guard_true,decide_eq_true_eq]
      refine iteI (fun g3=>?_) (fun g3=>?_)
      · obtain ⟨k,rfl⟩:∃ k,j=k + 1:=⟨j - 1,by omega⟩
        refine sub1 (n:=k) (by have:=hpi.2; omega) ?_
        have hkl:k < LL[i].length:=by omega
        rw [strsIx hkl,strsEl hkl,Go.AD.bin_sgeq]
        have hless:Op.bytesLess LL[i][k] LL[i][k + 1]=true:=List.pairwise_iff_getElem.1 hpi.1 k (k + 1) hkl hjl (by omega)
        rw [hless]
        refine cF ?_
        refine upd _ (fun σ' h2=>?_)
        simp (disch:=omega) only [go_sem]
        exact back (k + 1 + 1) rfl (by omega) ⟨by omega,h2⟩
      · refine upd _ (fun σ' h2=>?_)
        simp (disch:=omega) only [go_sem]
        exact back (j + 1) rfl (by omega) ⟨by omega,h2⟩
theorem catRow {a b:List NTree} (ha:a.length <= 1000000) (hb:b.length <= 1000000) {KS:AV->AS->Prop} (hK:∀ v σ',wk v (rowN (a ++ b))->σ.sub σ'->KS v σ') :
    cutD PS 23 (rowN a) (.pv (.int .i64 (a.length:Nat))) (.pv (.int .i64 (a.length:Nat))) fun t=>appendD PS false σ 23 t (rowN b) KS:=by
  have e1:rowN (a ++ b)=.pv (.lst (a.length + b.length) (flatN a ++ flatN b)):=by unfold rowN; rw [List.length_append,flatN_app]
  have hz:∃ z,zeroOf PS 50=some z/\z.length=szOf PS 50:=⟨_,T.zo50,by rw [T.sz50]; rfl⟩
  obtain ⟨z,hz1,hz2⟩:=hz
  have l1:(flatN b).length=b.length * szOf PS 50:=by rw [flatN_len,T.sz50]
  simp only [rowN,cutD,T.el23,true_and]
  refine ⟨T.iS50,?_⟩
  simp only [appendD,T.el23,hz1,hz2,shown,l1,appendCore,newRowD,toPVs_pv,Bool.false_eq_true,if_false,true_and]
  refine ⟨by rw [T.sz50]; decide,iteI (fun h0=>?_) (fun h0=>?_)⟩
  · have hb0:b=[]:=List.eq_nil_of_length_eq_zero h0
    subst hb0
    refine hK _ _ ?_ (sub_refl _)
    rw [List.append_nil]
    exact wk_refl _
  · refine ⟨by rw [flatN_len,T.sz50],by rw [T.by50]; omega,by omega,fun id hid=>?_⟩
    refine hK _ _ ?_ (sub_set _ hid)
    rw [e1]
    exact .inl (.inr ⟨_,rfl,rfl⟩)
def T_NamesTurn:Tr:=fun args σ K _=>∃ s u:Bytes,args=[.pv (.str s),.pv (.str u)]/\∀ σ',σ.sub σ'->K (.pv (.bool true)) σ'
theorem T_NamesTurn_ok (h1:env 7=T_nAwake) (h2:env 12=T_yParse) (h3:env 9=T_nResolve.wkArgs) (h4:env 11=T_same7) (h:T_NamesTurn args σ K X):bodyD PS env an5 Tryz.f5 args σ K X:=by
  obtain ⟨s,u,rfl,hK⟩:=h
  rw [<- S5_eq env,S5]
  simp only [lock_eq]
  refine awake_call h1 (fun σ1 hs1=>?_)
  refine nT ?_
  refine cF ?_
  simp only [T.ls9,Go.AD.bin_gtr,guard_false,cond_bool]
  refine iteI (fun _=>retV_self (hK _ hs1)) (fun g=>?_)
  refine iteI (fun _=>retV_self (hK _ hs1)) (fun g'=>?_)
  have hl1:s.length <= 1500:=by
    have:¬ (s.length:Int) > 1500:=by simpa using g
    omega
  have hl2:u.length <= 1500:=by
    have:¬ (u.length:Int) > 1500:=by simpa using g'
    omega
  unfold J5_5
  simp only [lock_eq]
  refine parse7 h2 (fun σ2 hs2=>?_)
  have hs2:=AS.sub_trans hs1 hs2
  cases hp:parseS s with
  | none =>
    refine ext0 ?_
    refine ext1 ?_
    refine parse7 h2 (fun σ3 hs3=>?_)
    have hs3:=AS.sub_trans hs2 hs3
    have hx:∃ v b,parseNV (parseS u)=.tuple [v,.pv (.bool b)]:=by
      cases parseS u with
      | none=>exact ⟨_,_,rfl⟩
      | some l=>exact ⟨_,_,rfl⟩
    obtain ⟨v,b,hx⟩:=hx
    rw [hx]
    refine ext0 ?_
    refine ext1 ?_
    refine nF ?_
    refine gTf ?_
    exact retV_self (hK _ hs3)
  | some a =>
    have hw:=parse_w3 hp (by omega)
    refine ext0 ?_
    refine ext1 ?_
    refine parse7 h2 (fun σ3 hs3=>?_)
    have hs3:=AS.sub_trans hs2 hs3
    cases hq:parseS u with
    | none =>
      refine ext0 ?_
      refine ext1 ?_
      refine nT ?_
      refine gFf ?_
      refine nF ?_
      refine cT ?_
      exact retV_self (hK _ hs3)
    | some b =>
      have hw2:=parse_w3 hq (by omega)
      refine ext0 ?_
      refine ext1 ?_
      refine nT ?_
      refine gFf ?_
      refine nT ?_
      refine cF ?_
      unfold J5_9
      simp only [lock_eq]
      have la:a.length <= 80000:=hw.2.2.1
      have lb:b.length <= 80000:=hw2.2.2.1
      have wa:=hw.2.1
      have wb:=hw2.2.1
      have da:=hw.2.2.2
      have db:=hw2.2.2.2
      refine rowLen (l:=a) ?_
      refine rowLen (l:=a) ?_
      refine catRow (a:=a) (b:=b) (by omega) (by omega) (fun v σ4 hv hs4=>?_)
      have hs4:=AS.sub_trans hs3 hs4
      refine resolve_call h3 (l:=a ++ b) hv (by rw [List.length_append]; omega) (txNs_mono (by decide) _ (txNs_app hw.1 hw2.1)) (by rw [wNs_app]; omega) (by rw [wNs_len2]; omega) (fun σ5 x F S A P hs5 hR=>?_)
      have hs5:=AS.sub_trans hs4 hs5
      refine ext0 ?_
      refine ext1 ?_
      refine newNames (fun t9 σ7 hS7=>?_)
      have hs7:=AS.sub_trans hs5 hS7.sub
      have hg9:=hS7.get (i:=t9) (o:=.cells [strsV F,strsV S,strsV A,strsV P] (some 28)) (by simp)
      refine rowLen (l:=b) ?_
      refine rowLen (l:=b) ?_
      refine catRow (a:=b) (b:=a) (by omega) (by omega) (fun v2 σ8 hv2 hs8=>?_)
      refine resolve_call h3 (l:=b ++ a) hv2 (by rw [List.length_append]; omega) (txNs_mono (by decide) _ (txNs_app hw2.1 hw.1)) (by rw [wNs_app]; omega) (by rw [wNs_len2]; omega) (fun σ9 y F' S' A' P' hs9 hR'=>?_)
      refine ext0 ?_
      refine ext1 ?_
      refine newNames (fun t11 σ11 hS11=>?_)
      have hsub:σ7.sub σ11:=AS.sub_trans hs8 (AS.sub_trans hs9 hS11.sub)
      have hg9:=hsub _ _ hg9
      have hg11:=hS11.get (i:=t11) (o:=.cells [strsV F',strsV S',strsV A',strsV P'] (some 28)) (by simp)
      have few1:=names_few (l:=a ++ b) (by rw [wNs_app]; omega) hR
      have few2:=names_few (l:=b ++ a) (by rw [wNs_app]; omega) hR'
      have hxy:x=y/\F=F'/\S=S'/\A=A'/\P=P':=by
        unfold NamesR at hR hR'
        have hturn:WrongN specialB (a ++ b) ↔ WrongN specialB (b ++ a):=wrong_turn
        cases x with
        | false =>
          rw [if_neg (by decide)] at hR
          cases y with
          | false =>
            rw [if_neg (by decide)] at hR'
            obtain ⟨_,rfl,rfl,rfl,rfl⟩:=hR
            obtain ⟨_,rfl,rfl,rfl,rfl⟩:=hR'
            exact ⟨rfl,rfl,rfl,rfl,rfl⟩
          | true =>
            rw [if_pos rfl] at hR'
            exact absurd (hturn.1 hR.1) hR'.1
        | true =>
          rw [if_pos rfl] at hR
          cases y with
          | false =>
            rw [if_neg (by decide)] at hR'
            exact absurd (hturn.2 hR'.1) hR.1
          | true =>
            rw [if_pos rfl] at hR'
            exact ⟨rfl,names_turn less_irrefl less_asymm hR.1 hR.2 hR'.2⟩
      obtain ⟨rfl,rfl,rfl,rfl,rfl⟩:=hxy
      rw [Go.AD.bin_beql Tryz.underlying4]
      refine gTt' (by simp) ?_
      refine ldNames hg9 ?_
      refine ldNames hg11 ?_
      refine same_call (F:=F) (S:=S) (A:=A) (P:=P) (F':=F) (S':=S) (A':=A) (P':=P) h4 few1 few2 (fun σ12 hs12=>?_)
      rw [decide_eq_true (⟨rfl,rfl,rfl,rfl⟩:F=F/\S=S/\A=A/\P=P)]
      exact retV_self (hK _ (AS.sub_trans hs7 (AS.sub_trans hsub hs12)))
noncomputable def env7:Env:=((env0.add 12 T_yParse).add 9 T_nResolve.wkArgs)
theorem env7_ok (hm:HM):EnvOk PS env7:=EnvOk.add (EnvOk.add (env0_ok PS) (F_yParse hm)) (F_nResolve hm).wkArgs
theorem F_nAwake (hm:HM):SoundF PS 7 T_nAwake:=body_sound hm (env7_ok hm) an7 Tryz.func7 Tryz.call7 S7_ok (fun args σ K X h=>T_nAwake_ok rfl rfl h)
theorem F_rSame7 (hm:HM):SoundF PS 11 T_same7 :=
  have f1:SoundF PS 32 T_list7:=body_sound hm (env0_ok PS) an32 Tryz.func32 Tryz.call32 S32_ok (fun args σ K X h=>T_list7_ok h)
  body_sound hm (EnvOk.add (env0_ok PS) f1) an11 Tryz.func11 Tryz.call11 S11_ok (fun args σ K X h=>T_same7_ok rfl h)
theorem F_NamesApart (hm:HM):SoundF PS 4 T_NamesApart:=body_sound hm (EnvOk.add (EnvOk.add (env7_ok hm) (F_nAwake hm)) (F_rSame7 hm)) an4 Tryz.func4 Tryz.call4 S4_ok (fun args σ K X h=>T_NamesApart_ok rfl rfl rfl rfl h)
theorem F_NamesTurn (hm:HM):SoundF PS 5 T_NamesTurn:=body_sound hm (EnvOk.add (EnvOk.add (env7_ok hm) (F_nAwake hm)) (F_rSame7 hm)) an5 Tryz.func5 Tryz.call5 S5_ok (fun args σ K X h=>T_NamesTurn_ok rfl rfl rfl rfl h)
end
end Go.AD.Lx

set_option linter.unusedVariables false
set_option linter.unusedSimpArgs false
set_option maxRecDepth 100000
namespace Go.AD.Lx
open Go.Proofs RowKit
theorem known_end {g:Nat} {cs:List PV} (h:Go.AD.known PS g=some cs):g=0/\cs=[.str [],.str []]:=by
  have hall:(List.range PS.globals.size).all (fun i=>i == 0 || !((PS.globals[i]?.map (·.name)) == some "tedder/syntax.end"))=true:=by kernel_rfl
  unfold Go.AD.known at h
  split at h
  case h_2=>cases h
  case h_1 x hx =>
    split at h
    · rename_i hn
      cases h
      refine ⟨?_,rfl⟩
      obtain ⟨hg,_⟩:=Array.getElem?_eq_some_iff.1 hx
      have:=List.all_eq_true.1 hall g (List.mem_range.2 hg)
      rw [hx,Option.map_some,hn] at this
      simpa using this
    · cases h
theorem trod_str {W:World} {f t:Nat} {cs:List Value} {p:List MemPlace} (ht:PS.underlying t=some .string) (h:DataW.trod (fun _=>()) PS W 0 (fun _=>true) false f t cs=some (.lit (.string []),p)):cs=[.string ⟨#[]⟩]:=by
  cases f with
  | zero=>rw [DataW.trod] at h; cases h
  | succ f =>
    unfold DataW.trod at h
    rw [ht] at h
    dsimp only at h
    split at h <;> simp_all
    obtain ⟨_,h1,_⟩:=h
    rename_i b _ _
    obtain ⟨d⟩:=b
    exact congrArg ByteArray.mk h1
theorem two_of {α:Type} {l:List α} (h:l.length=2):∃ a b,l=[a,b]:=by
  match l,h with
  | [a,b],_=>exact ⟨a,b,rfl⟩
theorem ready_end {W:World} (hS:W.ShapedOpen PS) (hl:laidMet PS [("tedder/syntax.end", .agg [.lit (.string []),.lit (.string [])])] W):Ready PS W:=by
  obtain ⟨ps,⟨g,t,cs,fuel,p,q,h1,h2,h3,h4,_⟩,_⟩:=hl
  have hg:PS.globalNamed "tedder/syntax.end" = some 0:=by kernel_rfl
  have ht:(PS.globals[0]?).map (·.type)=some 53:=by kernel_rfl
  have hg':g=0:=by rw [hg] at h1; exact (Option.some.inj h1).symm
  subst hg'
  rw [ht] at h2
  have ht':t=53:=(Option.some.inj h2).symm
  subst ht'
  have hheap:∃ ty fz,W.heap[0]?=some (.cells cs ty fz):=by
    unfold World.var? at h3
    rw [hg,Option.bind_some] at h3
    split at h3
    · rename_i c ty fz hc
      cases h3
      exact ⟨ty,fz,hc⟩
    · cases h3
  obtain ⟨ty,fz,hheap⟩:=hheap
  have hcs:cs.toList=[.string ⟨#[]⟩,.string ⟨#[]⟩]:=by
    cases fuel with
    | zero=>rw [DataW.trod] at h4; cases h4
    | succ f =>
      have hu:∃ fa fb,PS.underlying 53=some (.struct #[fa,fb])/\fa.type=9/\fb.type=9/\fa.offset=0/\fb.offset=1:=⟨_,_,Tryz.underlying53,rfl,rfl,by kernel_rfl,by kernel_rfl⟩
      obtain ⟨fa,fb,hu,t1,t2,o1,o2⟩:=hu
      have hc:PS.cellsOf 53=2:=by kernel_rfl
      have hc1:PS.cellsOf 9=1:=by kernel_rfl
      unfold DataW.trod at h4
      rw [hu] at h4
      dsimp only at h4
      rw [hc] at h4
      by_cases hlen:cs.toList.length=2
      · obtain ⟨a,b,hab⟩:=two_of hlen
        rw [if_pos hlen,hab] at h4
        simp only [List.mapM_cons,List.mapM_nil,t1,t2,o1,o2,hc1,List.drop_zero,List.drop_succ_cons,List.take_succ_cons,List.take_zero] at h4
        cases ha:DataW.trod (fun _=>()) PS W 0 (fun _=>true) false f 9 [a] with
        | none=>rw [ha] at h4; simp at h4
        | some x =>
          cases hb:DataW.trod (fun _=>()) PS W 0 (fun _=>true) false f 9 [b] with
          | none=>rw [ha,hb] at h4; simp at h4
          | some y =>
            rw [ha,hb] at h4
            simp at h4
            obtain ⟨x1,x2⟩:=x
            obtain ⟨y1,y2⟩:=y
            obtain ⟨⟨e1,e2⟩,_⟩:=h4
            simp only at e1 e2
            subst e1 e2
            have ka:=trod_str Tryz.underlying9 ha
            have kb:=trod_str Tryz.underlying9 hb
            simp only [List.cons.injEq,and_true] at ka kb
            rw [hab,ka,kb]
      · rw [if_neg hlen] at h4; cases h4
  refine ⟨hS,fun g' cs' hk=>?_⟩
  obtain ⟨rfl,rfl⟩:=known_end hk
  refine ⟨[.string ⟨#[]⟩,.string ⟨#[]⟩],rfl,fun i v hv=>?_,fun i hi=>?_⟩
  · unfold World.cell?
    simp only [hheap]
    rw [<- hcs] at hv
    simpa using hv
  · match i,hi with
    | 0,_=>exact .str []
    | 1,_=>exact .str []
end Go.AD.Lx

set_option linter.unusedVariables false
namespace Go.AD
open Go.ChangeShapes Go.WideShapes
theorem RelL.one {ρ:Gh} {a:AV} {u:Value} (h:RelV ρ a u):RelL ρ [a] [u]:=.cons h (.nil ρ)
end Go.AD

set_option maxRecDepth 100000
set_option linter.unusedVariables false
set_option linter.unusedSimpArgs false
namespace Go.AD
open Go.ChangeShapes Go.WideShapes
end Go.AD

namespace Go.Proofs.YtjgjmpophpifgaaGreatDoor
noncomputable def laidWorld (os:Os):World:=World.holding Tryz.prog os ⟨#[],#[],[]⟩
end Go.Proofs.YtjgjmpophpifgaaGreatDoor
