import Derived.Test.YtjgjmpophpifgaaGreatDoorM24
import Derived.Sort.KeysCollected
import Derived.Test.YtjgjmpophpifgaaGreatDoorLsR
import Derived.Test.YtjgjmpophpifgaaGreatDoorRows
import Derived.Test.YtjgjmpophpifgaaGreatDoorM7
import Derived.ChangeSlices
import Derived.WideShapes
import Derived.SizedLaws
import Derived.SliceStrings
import Derived.WalkKit
import Derived.ProofKit
set_option linter.unusedVariables false
set_option linter.unusedSimpArgs false
set_option maxRecDepth 100000
namespace Go.AD.Lx
def cond0:NTree:=.mk oBin [62] [varT sNR,.mk kNum [48] []]
def cond2:NTree:=.mk oBin [33,61] [fieldT [49],varT sNR]
theorem of0 {e:NTree}:(ofF 40 (.mk oPrint [] [e,varT sNR])).2=false:=rfl
theorem item0 (l:List NTree) (st:FdS) (n:Bytes) (e:NTree):itemsF 40 (treeK 0 n e :: l) st=itemsF 40 l (askF 40 [e,varT sNR] { (askF 40 [cond0] st) with bad:=(askF 40 [cond0] st).bad || false }):=by
  show itemsF 40 (.mk oRule [] [cond0,.mk oBlock [] [.mk oPrint [] [e,varT sNR]]] :: l) st=_
  rw [ruleI,blk,stepF,if_neg (by rw [of0]; exact Bool.false_ne_true)]
  rw [if_neg (show ¬ ((NTree.mk oPrint [] [e,varT sNR]).op=oExit \/ (NTree.mk oPrint [] [e,varT sNR]).op=oDelete \/ (NTree.mk oPrint [] [e,varT sNR]).op=oForin) from (show ¬ (oPrint=oExit \/ oPrint=oDelete \/ oPrint=oForin) by decide)),
    if_pos (show ((NTree.mk oPrint [] [e,varT sNR]).op=oPrint \/ (NTree.mk oPrint [] [e,varT sNR]).op=oPrintf) from .inl rfl)]
  rfl
theorem of2 {n:Bytes} {e:NTree} (hp:pureF 40 [.mk oElem (116 :: n) [e]]=true):ofF 40 (.mk oExpr [] [.mk oPost [43,43] [.mk oElem (116 :: n) [e]]])=(⟨cSums,.mk oElem (116 :: n) [e],[]⟩,true):=by
  unfold ofF
  rw [if_pos ⟨rfl,rfl⟩]
  show changedF 40 (.mk oPost [43,43] [.mk oElem (116 :: n) [e]])=_
  unfold changedF
  have h0:((!((NTree.mk oPost [43,43] [.mk oElem (116 :: n) [e]]).op == oAssign) && !((NTree.mk oPost [43,43] [.mk oElem (116 :: n) [e]]).op == oPre) && !((NTree.mk oPost [43,43] [.mk oElem (116 :: n) [e]]).op == oPost)) || decide ((NTree.mk oPost [43,43] [.mk oElem (116 :: n) [e]]).kids.length=0))=false:=rfl
  rw [if_neg (by rw [h0]; exact Bool.false_ne_true)]
  have h1:pureF 40 (NTree.mk oPost [43,43] [.mk oElem (116 :: n) [e]]).kids=true:=hp
  simp only [h1]
  rfl
theorem item2 (l:List NTree) (st:FdS) (n:Bytes) (e:NTree) (hp:pureF 40 [.mk oElem (116 :: n) [e]]=true):itemsF 40 (treeK 2 n e :: l) st=itemsF 40 l (updateF 40 ⟨cSums,.mk oElem (116 :: n) [e],[]⟩ (askF 40 [cond2] st)):=by
  show itemsF 40 (.mk oRule [] [cond2,.mk oBlock [] [.mk oExpr [] [.mk oPost [43,43] [.mk oElem (116 :: n) [e]]]]] :: l) st=_
  rw [ruleI,blk,stepF,of2 hp,if_pos rfl]
theorem fact_sp:∀ i,i < 20->specialB (115 :: letS i)=false/\specialB (116 :: letS i)=false/\specialB (109 :: letS i)=false:=by decide +kernel
theorem fact_pure:∀ i,i < 20->pureF 40 [eT i]=true/\pureF 40 [.mk oElem (116 :: letS i) [eT i]]=true:=by decide +kernel
theorem fact_num:∀ i,i < 20->numericF 40 (eT i)=true \/ (innerF 40 (eT i)).op=oField:=by decide +kernel
theorem fact_same:∀ i,i < 20->sameF 40 (.mk oAssign [61] [varT (109 :: letS i),eT i]) (.mk oAssign [61] [varT (109 :: letS i),eT i])=true:=by decide +kernel
end Go.AD.Lx

set_option linter.unusedVariables false
set_option linter.unusedSimpArgs false
set_option maxRecDepth 100000
namespace Go.AD.Lx
theorem assocP_new:∀ {L:List (Bytes × Bytes)} {k v:Bytes},k ∉ L.map (·.1)->assocP L k v=L ++ [(k,v)]
  | [],k,v,_=>rfl
  | p :: L,k,v,h=>by
    rw [List.map_cons,List.mem_cons,not_or] at h
    rw [assocP,if_neg (fun e=>h.1 e.symm),assocP_new h.2]
    rfl
theorem assocG_new:∀ {L:List (Bytes × Bytes)} {k:Bytes},k ∉ L.map (·.1)->assocG L k=none
  | [],k,_=>rfl
  | p :: L,k,h=>by
    rw [List.map_cons,List.mem_cons,not_or] at h
    have:=assocG_new h.2
    unfold assocG at this ⊢
    rw [List.find?_cons,show (p.1 == k)=false from beq_eq_false_iff_ne.2 (fun e=>h.1 e.symm)]
    exact this
theorem updSt {st:FdS} {L:List (Bytes × Bytes)} {nm c:Bytes} {to:NTree} {by_:List NTree} (hto:to.text=nm) (h:StF st L) (hf:nm ∉ L.map (·.1)) (hs:specialB nm=false)
    (hk:∀ st' L',StF st' L'->StF (askF 40 to.kids (askF 40 by_ st')) L'):StF (updateF 40 ⟨c,to,by_⟩ st) (L ++ [(nm,c)]):=by
  unfold updateF
  refine hk _ _ ⟨?_,?_,h.asked⟩
  · show assocP st.classes to.text c=L ++ [(nm,c)]
    rw [hto,h.cl]
    exact assocP_new hf
  · simp only
    rw [hto,h.bad,hs,h.cl,assocG_new hf]
    rfl
theorem askNil (st:FdS):askF 40 [] st=st:=rfl
theorem cond0St {st:FdS} {L:List (Bytes × Bytes)} (h:StF st L):StF (askF 40 [cond0] st) L:=(show StF { st with asked:=insB st.asked sNR } L from h.ins (.inl rfl))
theorem cond2St {st:FdS} {L:List (Bytes × Bytes)} (h:StF st L):StF (askF 40 [cond2] st) L:=(show StF { st with asked:=insB st.asked sNR } L from h.ins (.inl rfl))
theorem askTwo (e:NTree) (st:FdS):askF 40 [e,varT sNR] st=askF 40 [varT sNR] (askF 40 [e] st):=by
  rw [askF,askF,askF]
  simp only [List.foldl_cons,List.foldl_nil]
theorem askNR {st:FdS} {L:List (Bytes × Bytes)} (h:StF st L):StF (askF 40 [varT sNR] st) L:=(show StF { st with asked:=insB st.asked sNR } L from h.ins (.inl rfl))
def clsI (i:Nat) (z:Int):List (Bytes × Bytes):=if kindOf z=1 then [(115 :: letS i,cSum)] else if kindOf z=2 then [(116 :: letS i,cSums)] else if kindOf z=3 then [(109 :: letS i,cMax)] else []
def clsL:Nat->List Int->List (Bytes × Bytes)
  | _,[]=>[]
  | i,z :: zs=>clsI i z ++ clsL (i + 1) zs
theorem step_item {i:Nat} (hi:i < 20) (z:Int) (l:List NTree) {st:FdS} {L:List (Bytes × Bytes)} (h:StF st L) (hf:∀ p ∈ clsI i z,p.1 ∉ L.map (·.1)):∃ st',itemsF 40 (treeS i z :: l) st=itemsF 40 l st'/\StF st' (L ++ clsI i z):=by
  obtain ⟨s1,s2,s3⟩:=fact_sp i hi
  unfold treeS
  unfold clsI at hf ⊢
  have hk:=kindOf_lt z
  generalize kindOf z=k at hk hf ⊢
  match k,hk with
  | 0,_ =>
    refine ⟨_,item0 l st _ _,?_⟩
    rw [if_neg (by decide),if_neg (by decide),if_neg (by decide),List.append_nil,askTwo]
    refine askNR (askE i _ ⟨(cond0St h).cl,?_,(cond0St h).asked⟩)
    simp only
    rw [(cond0St h).bad]; rfl
  | 1,_ =>
    rw [if_pos rfl] at hf ⊢
    exact ⟨_,item1 l st _ _ s1,updSt rfl h (hf _ (List.mem_singleton.2 rfl)) s1 (fun st' L' h'=>by
      show StF (askF 40 [] (askF 40 [eT i] st')) L'
      rw [askNil]; exact askE i st' h')⟩
  | 2,_ =>
    rw [if_neg (by decide),if_pos rfl] at hf ⊢
    exact ⟨_,item2 l st _ _ (fact_pure i hi).2,updSt rfl (cond2St h) (hf _ (List.mem_singleton.2 rfl)) s2 (fun st' L' h'=>by
      show StF (askF 40 [eT i] (askF 40 [] st')) L'
      rw [askNil]; exact askE i st' h')⟩
  | 3,_ =>
    rw [if_neg (by decide),if_neg (by decide),if_pos rfl] at hf ⊢
    exact ⟨_,item3 l st _ _ s3 (fact_pure i hi).1 (fact_num i hi) (fact_same i hi),updSt rfl h (hf _ (List.mem_singleton.2 rfl)) s3 (fun st' L' h'=>by
      show StF (askF 40 [] (askF 40 [eT i] st')) L'
      rw [askNil]; exact askE i st' h')⟩
def Old (i:Nat) (L:List (Bytes × Bytes)):Prop:=(L.map (·.1)).Nodup/\∀ p ∈ L,∃ c j,j < i/\p.1=c :: letS j/\c ≠ 78
theorem let_inj:∀ i,i < 20->∀ j,j < 20->letS i=letS j->i=j:=by decide +kernel
theorem clsI_name {i:Nat} {z:Int}:∀ p ∈ clsI i z,∃ c,p.1=c :: letS i/\c ≠ 78:=by
  intro p hp
  unfold clsI at hp
  split at hp
  · rw [List.mem_singleton.1 hp]; exact ⟨115,rfl,by decide⟩
  · split at hp
    · rw [List.mem_singleton.1 hp]; exact ⟨116,rfl,by decide⟩
    · split at hp
      · rw [List.mem_singleton.1 hp]; exact ⟨109,rfl,by decide⟩
      · cases hp
theorem clsI_new {i:Nat} (hi:i < 20) {z:Int} {L:List (Bytes × Bytes)} (h:Old i L):∀ p ∈ clsI i z,p.1 ∉ L.map (·.1):=by
  intro p hp hm
  obtain ⟨c,hc,_⟩:=clsI_name p hp
  obtain ⟨q,hq,he⟩:=List.mem_map.1 hm
  obtain ⟨c',j,hj,hc',_⟩:=h.2 q hq
  rw [hc,hc'] at he
  have:=let_inj j (by omega) i hi (List.cons.inj he).2
  omega
theorem clsI_one (i:Nat) (z:Int):(clsI i z).length <= 1:=by
  unfold clsI
  split
  · exact Nat.le_refl _
  · split
    · exact Nat.le_refl _
    · split
      · exact Nat.le_refl _
      · exact Nat.zero_le _
theorem Old.next {i:Nat} (hi:i < 20) {z:Int} {L:List (Bytes × Bytes)} (h:Old i L):Old (i + 1) (L ++ clsI i z):=by
  refine ⟨?_,fun p hp=>?_⟩
  · rw [List.map_append,List.nodup_append]
    refine ⟨h.1,?_,fun a ha b hb e=>?_⟩
    · have:=clsI_one i z
      cases hc:clsI i z with
      | nil=>exact List.nodup_nil
      | cons x l =>
        rw [hc,List.length_cons] at this
        obtain rfl:l=[]:=List.eq_nil_of_length_eq_zero (by omega)
        simp
    · subst e
      obtain ⟨p,hp,rfl⟩:=List.mem_map.1 hb
      exact clsI_new hi h p hp ha
  · rcases List.mem_append.1 hp with hp | hp
    · obtain ⟨c,j,hj,hc⟩:=h.2 p hp
      exact ⟨c,j,by omega,hc⟩
    · obtain ⟨c,hc⟩:=clsI_name p hp
      exact ⟨c,i,by omega,hc⟩
theorem items_run:∀ (zs:List Int) (i:Nat) (st:FdS) (L:List (Bytes × Bytes)),i + zs.length <= 20->Old i L->StF st L->∃ st',itemsF 40 (treesS i zs) st=some st'/\StF st' (L ++ clsL i zs)/\Old 20 (L ++ clsL i zs)
  | [],i,st,L,hi,ho,h=>⟨st,rfl,by rw [clsL,List.append_nil]; exact h,by rw [clsL,List.append_nil]; exact ⟨ho.1,fun p hp=>by obtain ⟨c,j,hj,hc⟩:=ho.2 p hp; exact ⟨c,j,by simp at hi; omega,hc⟩⟩⟩
  | z :: zs,i,st,L,hi,ho,h=>by
    rw [List.length_cons] at hi
    obtain ⟨st1,e1,h1⟩:=step_item (i:=i) (by omega) z (treesS (i + 1) zs) h (clsI_new (by omega) ho)
    obtain ⟨st2,e2,h2,h3⟩:=items_run zs (i + 1) st1 (L ++ clsI i z) (by omega) (ho.next (by omega)) h1
    refine ⟨st2,by rw [treesS,e1,e2],?_,?_⟩
    · rw [clsL,<- List.append_assoc]; exact h2
    · rw [clsL,<- List.append_assoc]; exact h3
theorem clsL_len:∀ (i:Nat) (zs:List Int),(clsL i zs).length=updN zs
  | _,[]=>rfl
  | i,z :: zs=>by
    rw [clsL,List.length_append,clsL_len (i + 1) zs,updN]
    congr 1
    unfold clsI kindOf
    by_cases h1:z=1
    · subst h1; rfl
    · by_cases h2:z=2
      · subst h2; rfl
      · by_cases h3:z=3
        · subst h3; rfl
        · simp only [h1,h2,h3,if_false]
          rw [if_neg (by decide),if_neg (by decide),if_neg (by decide),if_neg (by omega)]
          rfl
end Go.AD.Lx

set_option linter.unusedVariables false
set_option linter.unusedSimpArgs false
set_option maxRecDepth 100000
namespace Go.AD.Lx
mutual
def okB:NTree->Bool
  | .mk op text kids=>decide (text.length <= 1000000) && decide (kids.length <= 1000000) && okBs kids
def okBs:List NTree->Bool
  | []=>true
  | k :: ks=>okB k && okBs ks
end
mutual
theorem okB_sound:∀ {n:NTree},okB n=true->okX n
  | .mk op text kids,h=>by
    rw [okB,Bool.and_eq_true,Bool.and_eq_true] at h
    rw [okX]
    exact ⟨of_decide_eq_true h.1.1,of_decide_eq_true h.1.2,okBs_sound h.2⟩
theorem okBs_sound:∀ {l:List NTree},okBs l=true->okXs l
  | [],_=>trivial
  | k :: ks,h=>by
    rw [okBs,Bool.and_eq_true] at h
    exact ⟨okB_sound h.1,okBs_sound h.2⟩
end
theorem fact_tree:∀ i,i < 20->∀ k,k < 4->okB (treeK k (letS i) (eT i))=true/\depthN (treeK k (letS i) (eT i)) < 39:=by decide +kernel
theorem trees_ok:∀ (zs:List Int) (i:Nat),i + zs.length <= 20->okXs (treesS i zs)/\depthNs (treesS i zs) < 40/\(treesS i zs).length=zs.length
  | [],i,_=>⟨trivial,(show depthNs [] < 40 by decide),rfl⟩
  | z :: zs,i,h=>by
    rw [List.length_cons] at h
    obtain ⟨h1,h2,h3⟩:=trees_ok zs (i + 1) (by omega)
    obtain ⟨g1,g2⟩:=fact_tree i (by omega) (kindOf z) (kindOf_lt z)
    rw [treesS]
    refine ⟨⟨okB_sound g1,h1⟩,?_,by rw [List.length_cons,h3,List.length_cons]⟩
    rw [depthNs]
    have:depthN (treeS i z) < 39:=g2
    omega
theorem updN_len:∀ zs:List Int,updN zs <= zs.length
  | []=>Nat.le_refl _
  | z :: zs=>by
    have:=updN_len zs
    rw [updN,List.length_cons]
    split <;> omega
theorem class_law:ClassLaw:=by
  intro zs h
  obtain ⟨st,e,hst,ho⟩:=items_run zs 0 ⟨[],[],false⟩ [] (by omega) ⟨List.nodup_nil,nofun⟩ ⟨rfl,rfl,nofun⟩
  rw [List.nil_append] at hst ho
  obtain ⟨h1,h2,h3⟩:=trees_ok zs 0 (by omega)
  have hul:=updN_len zs
  have hll:=clsL_len 0 zs
  have hbad:¬ (st.bad || (sortS (st.classes.map (·.1))).any fun k=>decide (k ∈ st.asked))=true:=by
    rw [hst.bad,Bool.false_or,hst.cl,List.any_eq_true]
    rintro ⟨k,hk,ha⟩
    have ha:=of_decide_eq_true ha
    have hk:k ∈ (clsL 0 zs).map (·.1):=List.mem_mergeSort.1 hk
    obtain ⟨p,hp,rfl⟩:=List.mem_map.1 hk
    obtain ⟨c,j,_,hc,hne⟩:=ho.2 p hp
    rcases hst.asked _ ha with e | e
    · rw [hc] at e; exact hne (List.cons.inj e).1
    · rw [hc] at e; exact hne (List.cons.inj e).1
  refine ⟨treesS 0 zs,_,⟨prog_parse h,h2,by omega,h1,fun st' e'=>?_,by unfold findF; rw [e]; exact if_neg hbad⟩,?_⟩
  · rw [e] at e'
    cases e'
    refine ⟨by rw [hst.cl]; exact ho.1,fun p hp=>?_,by rw [hst.cl]; omega⟩
    rw [hst.cl] at hp
    obtain ⟨c,j,_,hc,_⟩:=ho.2 p hp
    rw [hc]
    show (letS j).length + 1 <= 1000000
    have:(letS j).length=1:=rfl
    omega
  · rw [List.length_map]
    unfold sortS
    rw [List.length_mergeSort,List.length_map,hst.cl,hll]
end Go.AD.Lx

set_option linter.unusedVariables false
set_option linter.unusedSimpArgs false
set_option maxRecDepth 100000
namespace Go.AD.Lx
def awTA:List NTree:=[.mk oRule [] [noneN,.mk oBlock [] [.mk oExpr [] [.mk oAssign [43,61] [varT [115],fieldT [49]]],.mk oExpr [] [.mk oPost [43,43] [.mk oElem [110] [fieldT [50]]]]]],
  .mk oRule [] [.mk kEre [120] [],.mk oBlock [] [.mk oExpr [] [.mk oAssign [61] [varT cLast,fieldT [48]]]]]]
def awTB:List NTree:=[.mk oRule [] [noneN,.mk oBlock [] [.mk oPrint [] [varT [115]],.mk oExpr [] [.mk oPost [43,43] [varT [115]]]]]]
theorem parse_of {s:Bytes} {T:List NTree} (h:(match parseS s with | some l=>eqTs l T | none=>false)=true):parseS s=some T:=by
  cases hp:parseS s with
  | none=>rw [hp] at h; cases h
  | some l=>rw [hp] at h; rw [eqTs_sound h]
theorem awA_parse:parseS awA=some awTA:=parse_of (by decide +kernel)
theorem awB_parse:parseS awB=some awTB:=parse_of (by decide +kernel)
def awSA:FdS:=⟨[([115],cSum),([110],cSums),(cLast,cLast)],[],false⟩
theorem awA_items:(match itemsF 40 awTA ⟨[],[],false⟩ with | some st=>decide (st.classes=awSA.classes) && decide (st.asked=awSA.asked) && (st.bad == false) | none=>false)=true:=by decide +kernel
def awSB:FdS:=⟨[([115],cSum)],[[115]],false⟩
theorem awB_items:(match itemsF 40 awTB ⟨[],[],false⟩ with | some st=>decide (st.classes=awSB.classes) && decide (st.asked=awSB.asked) && (st.bad == false) | none=>false)=true:=by decide +kernel
theorem items_of {T:List NTree} {S:FdS} (hb:S.bad=false) (h:(match itemsF 40 T ⟨[],[],false⟩ with | some st=>decide (st.classes=S.classes) && decide (st.asked=S.asked) && (st.bad == false) | none=>false)=true):itemsF 40 T ⟨[],[],false⟩=some S:=by
  cases hp:itemsF 40 T ⟨[],[],false⟩ with
  | none=>rw [hp] at h; cases h
  | some st =>
    rw [hp] at h
    simp only [Bool.and_eq_true] at h
    obtain ⟨⟨h1,h2⟩,h3⟩:=h
    cases st
    cases S
    simp only at h1 h2 h3 hb
    rw [of_decide_eq_true h1,of_decide_eq_true h2,hb,eq_of_beq h3]
theorem sort_of {l r:List Bytes} (hp:l.Perm r) (hs:r.Pairwise (fun x y=>decide (x <= y)=true)):sortS l=r:=by
  unfold sortS
  rw [show l.mergeSort (fun x y=>decide (x <= y))=r.mergeSort (fun x y=>decide (x <= y)) from Go.mergeSort_of_perm hp]
  exact List.mergeSort_of_pairwise hs
theorem awake_law:AwakeLaw:=by
  have eA:=items_of (T:=awTA) (S:=awSA) rfl awA_items
  have eB:=items_of (T:=awTB) (S:=awSB) rfl awB_items
  have sA:sortS (awSA.classes.map (·.1))=[cLast,[110],[115]]:=sort_of (by decide) (by decide)
  have sB:sortS (awSB.classes.map (·.1))=[[115]]:=sort_of (by decide) (by decide)
  refine ⟨⟨awTA,awA_parse,by decide,by decide,okBs_sound (by decide),fun st e=>?_,?_⟩,awTB,awB_parse,by decide,by decide,okBs_sound (by decide),fun st e=>?_,?_⟩
  · rw [eA] at e; cases e
    exact ⟨by decide,by decide,by decide⟩
  · unfold findF; rw [eA]; simp only; rw [sA]; decide
  · rw [eB] at e; cases e
    exact ⟨by decide,by decide,by decide⟩
  · unfold findF; rw [eB]; simp only; rw [sB]; decide
end Go.AD.Lx

set_option linter.unusedVariables false
set_option linter.unusedSimpArgs false
set_option maxRecDepth 100000
namespace Go.AD.Lx
open Go.Proofs RowKit
noncomputable def env17:Env:=(env0.add 12 T_yParse).add 15 (T_fFind 40)
theorem env17_ok (hm:HM):EnvOk PS env17:=EnvOk.add (EnvOk.add (env0_ok PS) (F_yParse hm)) (F_fFind hm 40)
theorem F_fAwake (hm:HM):SoundF PS 13 T_fAwake:=body_sound hm (env17_ok hm) an13 Tryz.func13 Tryz.call13 S13_ok (fun args σ K X h=>T_fAwake_ok awake_law rfl rfl h)
theorem F_fProgram (hm:HM):SoundF PS 14 T_fProgram:=body_sound hm (env0_ok PS) an14 Tryz.func14 Tryz.call14 S14_ok (fun args σ K X h=>T_fProgram_ok h)
theorem F_EffectClass (hm:HM):SoundF PS 6 T_EffectClass :=
  body_sound hm (EnvOk.add (EnvOk.add (env17_ok hm) (F_fAwake hm)) (F_fProgram hm)) an6 Tryz.func6 Tryz.call6 S6_ok (fun args σ K X h=>T_EffectClass_ok class_law rfl rfl rfl rfl h)
end Go.AD.Lx

set_option linter.unusedVariables false
set_option linter.unusedSimpArgs false
set_option maxRecDepth 100000
namespace Go.AD.Lx
open Go.Proofs RowKit
theorem known_end {g:Nat} {cs:List PV} (h:Go.AD.known PS g=some cs):g=0/\cs=[.str [],.str []]:=by
  have hall:(List.range PS.globals.size).all (fun i=>i == 0 || !((PS.globals[i]?.map (·.name)) == some "tedder/syntax.end"))=true:=by kernel_rfl
  unfold Go.AD.known at h
  split at h
  case h_2=>cases h
  case h_1 x hx =>
    split at h
    · rename_i hn
      cases h
      refine ⟨?_,rfl⟩
      obtain ⟨hg,_⟩:=Array.getElem?_eq_some_iff.1 hx
      have:=List.all_eq_true.1 hall g (List.mem_range.2 hg)
      rw [hx,Option.map_some,hn] at this
      simpa using this
    · cases h
theorem trod_str {W:World} {f t:Nat} {cs:List Value} {p:List MemPlace} (ht:PS.underlying t=some .string) (h:DataW.trod (fun _=>()) PS W 0 (fun _=>true) false f t cs=some (.lit (.string []),p)):cs=[.string ⟨#[]⟩]:=by
  cases f with
  | zero=>rw [DataW.trod] at h; cases h
  | succ f =>
    unfold DataW.trod at h
    rw [ht] at h
    dsimp only at h
    split at h <;> simp_all
    obtain ⟨_,h1,_⟩:=h
    rename_i b _ _
    obtain ⟨d⟩:=b
    exact congrArg ByteArray.mk h1
theorem two_of {α:Type} {l:List α} (h:l.length=2):∃ a b,l=[a,b]:=by
  match l,h with
  | [a,b],_=>exact ⟨a,b,rfl⟩
theorem ready_end {W:World} (hS:W.ShapedOpen PS) (hl:laidMet PS [("tedder/syntax.end", .agg [.lit (.string []),.lit (.string [])])] W):Ready PS W:=by
  obtain ⟨ps,⟨g,t,cs,fuel,p,q,h1,h2,h3,h4,_⟩,_⟩:=hl
  have hg:PS.globalNamed "tedder/syntax.end" = some 0:=by kernel_rfl
  have ht:(PS.globals[0]?).map (·.type)=some 53:=by kernel_rfl
  have hg':g=0:=by rw [hg] at h1; exact (Option.some.inj h1).symm
  subst hg'
  rw [ht] at h2
  have ht':t=53:=(Option.some.inj h2).symm
  subst ht'
  have hheap:∃ ty fz,W.heap[0]?=some (.cells cs ty fz):=by
    unfold World.var? at h3
    rw [hg,Option.bind_some] at h3
    split at h3
    · rename_i c ty fz hc
      cases h3
      exact ⟨ty,fz,hc⟩
    · cases h3
  obtain ⟨ty,fz,hheap⟩:=hheap
  have hcs:cs.toList=[.string ⟨#[]⟩,.string ⟨#[]⟩]:=by
    cases fuel with
    | zero=>rw [DataW.trod] at h4; cases h4
    | succ f =>
      have hu:∃ fa fb,PS.underlying 53=some (.struct #[fa,fb])/\fa.type=9/\fb.type=9/\fa.offset=0/\fb.offset=1:=⟨_,_,Tryz.underlying53,rfl,rfl,by kernel_rfl,by kernel_rfl⟩
      obtain ⟨fa,fb,hu,t1,t2,o1,o2⟩:=hu
      have hc:PS.cellsOf 53=2:=by kernel_rfl
      have hc1:PS.cellsOf 9=1:=by kernel_rfl
      unfold DataW.trod at h4
      rw [hu] at h4
      dsimp only at h4
      rw [hc] at h4
      by_cases hlen:cs.toList.length=2
      · obtain ⟨a,b,hab⟩:=two_of hlen
        rw [if_pos hlen,hab] at h4
        simp only [List.mapM_cons,List.mapM_nil,t1,t2,o1,o2,hc1,List.drop_zero,List.drop_succ_cons,List.take_succ_cons,List.take_zero] at h4
        cases ha:DataW.trod (fun _=>()) PS W 0 (fun _=>true) false f 9 [a] with
        | none=>rw [ha] at h4; simp at h4
        | some x =>
          cases hb:DataW.trod (fun _=>()) PS W 0 (fun _=>true) false f 9 [b] with
          | none=>rw [ha,hb] at h4; simp at h4
          | some y =>
            rw [ha,hb] at h4
            simp at h4
            obtain ⟨x1,x2⟩:=x
            obtain ⟨y1,y2⟩:=y
            obtain ⟨⟨e1,e2⟩,_⟩:=h4
            simp only at e1 e2
            subst e1 e2
            have ka:=trod_str Tryz.underlying9 ha
            have kb:=trod_str Tryz.underlying9 hb
            simp only [List.cons.injEq,and_true] at ka kb
            rw [hab,ka,kb]
      · rw [if_neg hlen] at h4; cases h4
  refine ⟨hS,fun g' cs' hk=>?_⟩
  obtain ⟨rfl,rfl⟩:=known_end hk
  refine ⟨[.string ⟨#[]⟩,.string ⟨#[]⟩],rfl,fun i v hv=>?_,fun i hi=>?_⟩
  · unfold World.cell?
    simp only [hheap]
    rw [<- hcs] at hv
    simpa using hv
  · match i,hi with
    | 0,_=>exact .str []
    | 1,_=>exact .str []
end Go.AD.Lx

set_option linter.unusedVariables false
namespace Go.AD
open Go.ChangeShapes Go.WideShapes
theorem in64_of {n:Int} (h:(Lit.int .i64 n).wf=true):in64 n:=by
  simp [Lit.wf,IntKind.min,IntKind.max,IntKind.signed,IntKind.bits] at h
  unfold in64
  omega
theorem ints_in {P:Program} {H:Type} {enc:TypeId × Value->H} {W:World} {t e:TypeId} {a:Option Addr} {len cap:Nat} {d:DataW H} {ps:List MemPlace} (hu:P.underlying t=some (.slice e)) (he:P.underlying e=some (.int .i64)) (hc:P.cellsOf e=1)
    (h:DataW.Trod enc P W 0 (fun _=>true) true t (.slice a len cap) d ps) :
    ∃ l:List Int,l.length=len/\(∀ c ∈ l,in64 c)/\RelV (Gh.start W) (.pv (.lst l.length (i64s l))) (.slice a len cap):=by
  obtain ⟨fuel,hf⟩:=h
  rcases open_ints hu he hc hf with ⟨hcs,_⟩ | ⟨x,l,c,zs,hcs,_,hl,hm,hz,_,hcell,hwz⟩
  · simp [Value.cells] at hcs
    obtain ⟨rfl,rfl,rfl⟩:=hcs
    exact ⟨[],rfl,by simp,start_ints W .i64 none 0 0 [] (.inl ⟨rfl,rfl,rfl,rfl⟩)⟩
  · simp [Value.cells] at hcs
    obtain ⟨rfl,rfl,rfl⟩:=hcs
    have hz:zs.length=cap:=by simpa using hz
    have hlen:(zs.take len).length=len:=by rw [List.length_take]; omega
    refine ⟨zs.take len,hlen,fun c hc=>in64_of (hwz c (List.mem_of_mem_take hc)),?_⟩
    rw [hlen]
    exact start_ints W .i64 (some x) len cap zs (.inr ⟨x,rfl,hl,hm,hz,hcell,hwz⟩)
theorem ints_len {H:Type} {enc:TypeId × Value->H} {P:Program} {W:World} {base:Nat} {spare:Nat->Bool} {held:Bool} {t e:TypeId} {k:IntKind} {a:Option Addr} {len cap:Nat} {d:DataW H} {ps:List MemPlace} {ts:List TypeId} {ds:List (DataW H)} {j:Nat}
    (hsz:(DataW.weightsEach P ts ds).all (· <= reachBytes)=true) (ht:ts[j]?=some t) (hd:ds[j]?=some d) (hu:P.underlying t=some (.slice e)) (he:P.underlying e=some (.int k)) (hc:P.cellsOf e=1) {B:Nat} (hB:P.bytesOf e=B)
    (h:DataW.Trod enc P W base spare held t (.slice a len cap) d ps):len * B <= 140737488351232:=by
  obtain ⟨fuel,hf⟩:=h
  rcases open_ints hu he hc hf with ⟨hcs,_⟩ | ⟨x,l,c,zs,hcs,_,hl,_,hz,hx,_,_⟩
  · simp [Value.cells] at hcs
    obtain ⟨rfl,rfl,rfl⟩:=hcs
    simp
  · simp [Value.cells] at hcs
    obtain ⟨rfl,rfl,rfl⟩:=hcs
    obtain ⟨hx,_⟩:=Prod.mk.inj hx
    subst hx
    have z:=sized_slice hsz ht hd hu
    rw [hB] at z
    have hl2:len <= zs.length:=by
      rw [hz]
      split
      · exact hl
      · exact Nat.le_refl _
    have h1:(lits (H:=H) k (zs.take len)).length + (lits (H:=H) k (zs.drop len)).length=zs.length:=by
      simp [lits]
      omega
    rw [h1] at z
    exact Nat.le_trans (Nat.mul_le_mul_right _ hl2) z
theorem RelL.one {ρ:Gh} {a:AV} {u:Value} (h:RelV ρ a u):RelL ρ [a] [u]:=.cons h (.nil ρ)
end Go.AD

set_option maxRecDepth 100000
set_option linter.unusedVariables false
set_option linter.unusedSimpArgs false
namespace Go.AD
open Go.ChangeShapes Go.WideShapes
end Go.AD

namespace Go.Proofs.YtjgjmpophpifgaaGreatDoor
noncomputable def laidWorld (os:Os):World:=World.holding Tryz.prog os ⟨#[],#[],[]⟩
end Go.Proofs.YtjgjmpophpifgaaGreatDoor
