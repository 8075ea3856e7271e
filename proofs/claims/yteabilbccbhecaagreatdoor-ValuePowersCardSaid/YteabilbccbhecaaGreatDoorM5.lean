import Derived.Test.YteabilbccbhecaaGreatDoorM4
import Derived.Laws.IdiomStrings
import Derived.Laws.MakeOwn
import Derived.Laws.NewFold
set_option linter.unusedVariables false
set_option linter.unusedSimpArgs false
namespace Go.AD
open RowKit
section
variable {P:Program} {w0 w w':World} {ρ ρ':Gh} {σ:AS}
def SoundF (P:Program) (f:FuncId) (T:Tr):Prop :=
  ∀ (w0:World),Ready P w0->∀ (ρ:Gh) (σ:AS) (w:World) (args:List AV) (us:List Value) (K:AV->AS->Prop) (X:PV->AS->Prop),RelH w0 ρ σ w->RelL ρ args us->T args σ K X ->
    (callFunc f us.toArray).run P w=.ok (.enter f us.toArray) w /\
    Calls P f us.toArray w fun e w'=>∃ ρ' σ',ρ.le ρ'/\RelH w0 ρ' σ' w'/\match e with
      | .returned u=>∃ r,RelV ρ' r u/\K r σ'
      | .panicked ch=>∃ p u,ch=[{ v:=u,recovered:=false }]/\RelP ρ'.imm p u/\X p σ'
      | .outgrown=>False
def SoundX (P:Program) (f:FuncId) (T:Tr):Prop :=
  ∀ (w0:World),Ready P w0->∀ (ρ:Gh) (σ:AS) (w:World) (args:List AV) (us:List Value) (K:AV->AS->Prop) (X:PV->AS->Prop),RelH w0 ρ σ w->RelL ρ args us->T args σ K X ->
    ∃ u w' ρ' σ' r,(callFunc f us.toArray).run P w=.ok (.value u) w'/\ρ.le ρ'/\RelH w0 ρ' σ' w'/\RelV ρ' r u/\K r σ'
def EnvOk (P:Program) (env:Env):Prop:=∀ f,SoundF P f (env f) \/ SoundX P f (env f)
theorem heap_push (w:World) (o:Obj):({ w with heap:=w.heap.push o }:World)=w.alloc o:=rfl
theorem elemsFill_sound {sz:Nat}:∀ (parts:List (Nat × AV)) (i:Nat) (parts':List (Nat × Value)) (cs:List AV) (arr:Array Value),RelParts ρ parts parts'->elemsFill sz i parts=some cs->arr.size=(i + parts.length) * sz ->
    ∃ out us,Instr.fill (fun i=>some (i * sz,sz)) arr parts'=some out/\out.toList=arr.toList.take (i * sz) ++ us/\RelL ρ cs us/\us.length=parts.length * sz/\cs.all AV.cellOk=true
  | [],i,parts',cs,arr,h,he,hs=>by
    cases parts' with
    | cons _ _=>exact h.elim
    | nil =>
      simp [elemsFill] at he
      subst he
      refine ⟨arr,[],rfl,?_,.nil ρ,by simp,rfl⟩
      rw [List.append_nil,List.take_of_length_le (by simp at hs; simp [hs])]
  | (j,a) :: parts,i,parts',cs,arr,h,he,hs=>by
    cases parts' with
    | nil=>exact h.elim
    | cons p' parts' =>
      obtain ⟨j',v⟩:=p'
      obtain ⟨rfl,hv,hr⟩:=h
      simp only [elemsFill] at he
      split at he
      · rename_i hc
        obtain ⟨rfl,h1,h2⟩:=hc
        cases hrest:elemsFill sz (i + 1) parts with
        | none=>simp [hrest] at he
        | some rest =>
          simp [hrest] at he
          subst he
          have hcr:=cells_rel hv h2
          have hvs:v.cells.toList.length=sz:=by rw [hcr.1,h1]
          have hle:i * sz + sz <= arr.size:=by rw [hs,<- Nat.succ_mul]; exact Nat.mul_le_mul_right _ (by simp)
          obtain ⟨out,us,e1,e2,e3,e4,e5⟩:=elemsFill_sound parts (i + 1) parts' rest (setV arr.toList (i * sz) v.cells.toList).toArray hr hrest
            (by simp only [List.size_toArray,setV_length,Array.length_toList,hs,List.length_cons]; congr 1; omega)
          refine ⟨out,v.cells.toList ++ us,?_,?_,hcr.append e3,?_,?_⟩
          · rw [fill_cons _ arr i v parts' (o:=i * sz) (sz:=sz) rfl (by simpa using hvs) hle]
            exact e1
          · rw [e2]
            rw [setV_eq _ _ _ (by simp [hvs]; omega)]
            have hl:(arr.toList.take (i * sz) ++ v.cells.toList).length=(i + 1) * sz:=by
              rw [List.length_append,hvs,List.length_take,Array.length_toList,Nat.min_eq_left (by omega),Nat.succ_mul]
            rw [List.take_append_of_le_length (by rw [hl]; exact Nat.le_refl _),List.take_of_length_le (by rw [hl]; exact Nat.le_refl _),List.append_assoc]
          · rw [List.length_append,hvs,e4,List.length_cons,Nat.succ_mul,Nat.add_comm]
          · rw [List.all_append,h2,e5]; rfl
      · cases he
theorem flat_get {α:Type} (z:List α) (hz:0 < z.length):∀ (l i:Nat),i < l * z.length->(List.flatten (List.replicate l z))[i]?=z[i % z.length]?
  | 0,i,h=>by simp at h
  | l + 1,i,h=>by
    rw [List.replicate_succ,List.flatten_cons]
    by_cases hi:i < z.length
    · rw [List.getElem?_append_left hi,Nat.mod_eq_of_lt hi]
    · have e:=Nat.mod_eq_sub_mod (a:=i) (b:=z.length) (by omega)
      rw [List.getElem?_append_right (by omega),flat_get z hz l _ (by rw [Nat.succ_mul] at h; omega),e]
theorem flat_len {α:Type} (z:List α) (l:Nat):(List.flatten (List.replicate l z)).length=l * z.length:=by
  induction l with
  | zero=>simp
  | succ l ih=>rw [List.replicate_succ,List.flatten_cons,List.length_append,ih,Nat.succ_mul,Nat.add_comm]
theorem flat_rel {cs:List AV} {vs:List Value} (h:RelL ρ cs vs) (l:Nat):RelL ρ (List.flatten (List.replicate l cs)) (List.flatten (List.replicate l vs)):=by
  induction l with
  | zero=>exact .nil ρ
  | succ l ih=>rw [List.replicate_succ,List.replicate_succ,List.flatten_cons,List.flatten_cons]; exact h.append ih
theorem made_take (z:Array Value) (hz:0 < z.size) (l c:Nat) (hlc:l <= c):(madeCells z (c * z.size)).toList.take (l * z.size)=List.flatten (List.replicate l z.toList):=by
  have hlen:l * z.size <= c * z.size:=Nat.mul_le_mul_right _ hlc
  apply List.ext_getElem?
  intro i
  by_cases hi:i < l * z.size
  · rw [List.getElem?_take,if_pos hi,flat_get z.toList (by simpa using hz) l i (by simpa using hi)]
    have hm:i % z.size < z.size:=Nat.mod_lt _ hz
    simp [madeCells,show i < c * z.size by omega,hm]
  · rw [List.getElem?_eq_none (by simp only [List.length_take]; omega),List.getElem?_eq_none (by rw [flat_len]; simp; omega)]
theorem RelH.shrink (H:RelH w0 ρ σ w) {id:Nat} {cs:List AV} {var:Option TypeId} (ho:σ id=some (.cells cs var)) (k:Nat):RelH w0 ρ (σ.set id (.cells (cs.take k) none)) w where
  below:=H.below
  imm:=H.imm
  base:=H.base
  obj:=fun j o hj=>by
    by_cases e:j=id
    · subst e
      rw [AS.set_same] at hj
      cases hj
      obtain ⟨b,o,m,cur,e',fz,h1,h2,h3,h4,h5,h6,h7,h8,h9,_⟩:=H.obj _ _ ho
      refine ⟨b,o,m,cur,e',fz,h1,h2,h3,h4,h5,by rw [List.length_take]; omega,?_,?_,h9,fun t ht=>by cases ht⟩
      · rw [List.all_eq_true] at h7 ⊢
        exact fun a ha=>h7 a (List.mem_of_mem_take ha)
      · have:=h8.take k
        rw [List.take_take] at this
        rw [List.length_take]
        exact this
    · rw [AS.set_ne _ _ e] at hj; exact H.obj j o hj
  apart:=by
    have hb:∀ j o,(σ.set id (.cells (cs.take k) none)) j=some o->∃ o',σ j=some o'/\blkOf ρ j o=blkOf ρ j o':=by
      intro j o hj
      by_cases e:j=id
      · subst e
        rw [AS.set_same] at hj
        cases hj
        exact ⟨_,ho,rfl⟩
      · rw [AS.set_ne _ _ e] at hj; exact ⟨o,hj,rfl⟩
    intro i j o o' hi hj he
    obtain ⟨p,h1,h2⟩:=hb i o hi
    obtain ⟨q,h3,h4⟩:=hb j o' hj
    exact H.apart i j p q h1 h3 (by rw [<- h2,<- h4]; exact he)
  bound:=by
    obtain ⟨N,hN⟩:=H.bound
    refine ⟨N,fun j hj=>⟨(hN j hj).1,(hN j hj).2.1,?_⟩⟩
    have h3:=(hN j hj).2.2
    by_cases e:j=id
    · subst e; rw [ho] at h3; cases h3
    · rw [AS.set_ne _ _ e]; exact h3
theorem takeOver_sound (H:RelH w0 ρ σ w) {t:TypeId} {x:AV} {lo hi:Option AV} {K:AV->AS->Prop} (h:takeOverD P σ t x lo hi K) {u:Value} {lo' hi':Option Value} (hu:RelV ρ x u) (hlo:RelO ρ lo lo') (hhi:RelO ρ hi hi') :
    ∃ ρ' σ' a r,(Instr.sliceAt t u lo' hi' none).run P w=.ok r w/\ρ.le ρ'/\RelH w0 ρ' σ' w/\RelV ρ' a r/\K a σ':=by
  unfold takeOverD at h
  split at h
  · rename_i id n cs k l2 e he
    obtain ⟨hs,⟨mk,ho⟩,hcl,h0,h01,hK⟩:=h
    cases hi' with
    | some v=>exact hhi.elim
    | none =>
    cases lo' with
    | none=>exact hlo.elim
    | some v =>
    rw [relInt (x:=.undef) (show RelV ρ _ v from hlo)]
    cases hu with
    | grow _ _ _ b o cap vs hlin hnc hl hi2 hr =>
      obtain ⟨b',o',cap',cur,e',fz,hlin',hB,hb,hf,hnc',hcm,hfit,hii,hkk,_⟩:=H.obj id _ ho
      rw [hlin] at hlin'
      cases hlin'
      obtain ⟨l,rfl⟩:=Int.eq_ofNat_of_zero_le h0
      simp only [Int.toNat_natCast] at hK
      have hln:l <= n:=by omega
      have hrun:=run_slice_slice (P:=P) (w:=w) (A:=some ⟨b,o,none⟩) (n:=n) (cap:=cap) (l:=l) (r:=n) (lo:=some (.int k (l:Int))) (hi:=none) (elOf_some he) hs
        (by simp [Instr.sliceBounds,bound_run _ h0 h01])
      have hpl:RelPL ρ.imm cs vs:=⟨hl,hr⟩
      have hsub:l * szOf P e + (cap - l) * szOf P e=cap * szOf P e:=by rw [<- Nat.add_mul]; congr 1; omega
      have hn2:l * szOf P e + (n - l) * szOf P e=n * szOf P e:=by rw [<- Nat.add_mul]; congr 1; omega
      have Hd:=H.sub (AS.del_sub σ id)
      have hap:∀ j oj,(σ.del id) j=some oj->blkOf ρ j oj ≠ some b:=fun j oj hj he=>by
        have hjid:j ≠ id:=fun he=>by subst he; simp [AS.del] at hj
        exact hjid (H.apart j id oj _ (AS.del_sub σ id j oj hj) ho (by rw [he]; simp [blkOf,hlin]))
      have hfin:∀ id2,(∀ k,ρ.lin id2 k=none)->(σ.del id) id2=none->σ id2=none:=fun id2 g0 g1=>by
        have hne:id2 ≠ id:=fun he=>by subst he; rw [g0] at hlin; cases hlin
        have:(σ.del id) id2=σ id2:=by simp [AS.del,hne]
        rw [<- this]
        exact g1
      by_cases hc:cap=l
      · subst hc
        have hcn:n=cap:=by omega
        subst hcn
        rw [if_pos rfl] at hrun
        obtain ⟨id2,ρ',g1,g0,g2,g3,g4⟩:=Hd.newLine b hB cur e' fz hb hf o (n - n) (n - n) (szOf P e) (Nat.le_refl _) (by omega) (by simp; omega) (fun hlt=>absurd hlt (Nat.lt_irrefl _)) hap none (fun e' he=>by cases he)
        refine ⟨ρ',_,_,_,hrun,g2,g4,?_,hK id2 (hfin id2 g0 g1)⟩
        have e1:cs.drop (n * szOf P e)=[]:=List.drop_eq_nil_of_le (by omega)
        rw [e1]
        exact .grow id2 (n - n) [] b o (n - n) [] g3 (Nat.le_refl _) rfl (fun i hi=>absurd hi (by simp)) (fun i hi=>absurd hi (by simp))
      · rw [if_neg hc] at hrun
        simp only [Option.map_some,Addr.add_lit] at hrun
        obtain ⟨id2,ρ',g1,g0,g2,g3,g4⟩:=Hd.newLine b hB cur e' fz hb hf (o + l * szOf P e) (n - l) (cap - l) (szOf P e) (by omega) (by omega) (by omega)
          (fun hlt p v hv=>by have:=hii (by omega) p v hv; omega) hap none (fun e' he=>by cases he)
        refine ⟨ρ',_,_,_,hrun,g2,g4,?_,hK id2 (hfin id2 g0 g1)⟩
        have hcut:=hpl.cut (l * szOf P e) cs.length
        have hicut:=hi2.cut (l * szOf P e) cs.length
        have hvt:vs.take cs.length=vs:=List.take_of_length_le (by omega)
        rw [List.take_length] at hcut
        rw [hvt] at hcut hicut
        exact .grow id2 (n - l) _ b (o + l * szOf P e) (cap - l) (vs.drop (l * szOf P e)) g3 (by omega) hcut.1 (fun i hi=>g2.imm _ _ _ (hicut i hi)) (fun i hi=>(hcut.2 i hi).mono g2.imm)
  · rename_i id off n size k h0 e he
    obtain ⟨hs,hse,h1,h2,h⟩:=h
    split at h
    case h_2=>exact h.elim
    rename_i cs var ho
    obtain ⟨hlen,hK⟩:=h
    cases hu with
    | msl _ _ _ _ b o m cap hloc hnc hcm hfit =>
      have hc:cutAt n none (some (.pv (.int k h0))) (fun l r=>l=0/\r=h0.toNat):=⟨h1,h2,rfl,rfl⟩
      obtain ⟨l,r,g1,g2,g3,rfl,rfl⟩:=cutAt_sound (P:=P) (w:=w) hnc hc hlo hhi true
      have hrun:=run_slice_slice (P:=P) (w:=w) (A:=some ⟨b,o + off,none⟩) (elOf_some he) hs g1
      refine ⟨ρ,_,_,_,hrun,Gh.le_refl ρ,H.shrink ho _,?_,hK⟩
      have e1:(if cap=0 then (some ⟨b,o + off,none⟩:Option Addr) else (some (⟨b,o + off,none⟩:Addr)).map (·.add (0 * szOf P e)))=some ⟨b,o + off,none⟩:=by
        split
        · rfl
        · simp [Addr.add_lit]
      rw [e1]
      exact .msl id off h0.toNat size b o m cap hloc (by omega) hcm hfit
  · exact h.elim
end
end Go.AD

set_option linter.unusedVariables false
set_option linter.unusedSimpArgs false
set_option maxRecDepth 20000
namespace Go.AD
open RowKit
section
variable {P:Program} {w0 w w':World} {ρ ρ':Gh} {σ:AS}
theorem RelH.newObjM (H:RelH w0 ρ σ w) (o:Obj) (ao:AObj) (hblk:∀ (ρ:Gh) id,blkOf ρ id ao=(ρ.loc id).map fun x=>x.1)
    (hrel:∀ id ρ',ρ.le ρ'->ρ'.loc id=some (w.heap.size,0,0)->(∀ o' v,ρ'.imm w.heap.size o'=some v->False)->(w.alloc o).heap[w.heap.size]?=some o->ObjRel w0.heap.size ρ' (w.alloc o) id ao) :
    ∃ id ρ',σ id=none/\ρ.le ρ'/\ρ'.loc id=some (w.heap.size,0,0)/\RelH w0 ρ' (σ.set id ao) (w.alloc o):=by
  obtain ⟨id,h1,h2,h3⟩:=H.fresh
  have hle':ρ.le (ρ.withLoc id (w.heap.size,0,0)):=Gh.le_withLoc h1
  have hloc:(ρ.withLoc id (w.heap.size,0,0)).loc id=some (w.heap.size,0,0):=by simp [Gh.withLoc]
  refine ⟨id,ρ.withLoc id (w.heap.size,0,0),h3,hle',hloc,?_⟩
  refine H.turn hle' (H.below.alloc H.le_size _) (fun b o v hv=>H.alloc_imm _ b o v hv) id _ ?_ ?_ ?_ ?_
  · intro j oj b hj ho hb
    exact ⟨Below.heap_alloc w _ b (H.blk_lt ho hb),fun _=>rfl,fun _=>rfl⟩
  · exact hrel id _ hle' hloc (fun o' v hv=>absurd (H.imm_lt hv) (Nat.lt_irrefl _)) (heap_alloc_new w _)
  · intro j oj hj ho he
    obtain ⟨b,hb,_,hlt⟩:=objRel_blk (H.obj j oj ho)
    rw [hb,hblk,hloc] at he
    simp at he
    omega
  · exact H.bound_set id _ (fun ρ=>ρ.withLoc id (w.heap.size,0,0)) (fun j hj h4 h5=>⟨by simp only [Gh.withLoc]; rw [if_neg (by omega)]; exact h4,h5⟩)
theorem RelH.turnObjM (H:RelH w0 ρ σ w) {id:Nat} {ao ao':AObj} (ho:σ id=some ao) {b m:Nat} (hl:ρ.loc id=some (b,0,m)) (hB:w0.heap.size <= b) (hlt:b < w.heap.size) (hi:∀ o' v,ρ.imm b o'=some v->False)
    (hblk:blkOf ρ id ao=some b) (hblk':blkOf ρ id ao'=some b) (o':Obj) (hrel:({ w with heap:=w.heap.setIfInBounds b o' }:World).heap[b]?=some o'->ObjRel w0.heap.size ρ { w with heap:=w.heap.setIfInBounds b o' } id ao') :
    RelH w0 ρ (σ.set id ao') { w with heap:=w.heap.setIfInBounds b o' }:=by
  have hother:∀ k,k ≠ b->(w.heap.setIfInBounds b o')[k]?=w.heap[k]?:=fun k hk=>Array.getElem?_setIfInBounds_ne (Ne.symm hk)
  refine H.turn (Gh.le_refl ρ) ?_ ?_ id _ ?_ ?_ ?_ ?_
  · exact H.below.trans ⟨rfl,rfl,rfl,by simp,fun k hk=>hother k (by omega)⟩
  · intro b' p v hv
    have hne:b' ≠ b:=fun he=>by subst he; exact hi _ _ hv
    rw [World.cell?_of_block (w:=w) (hother b' hne)]
    exact H.imm _ _ _ hv
  · intro j oj b' hj hoj hb'
    refine ⟨hother b' (fun he=>?_),fun _=>rfl,fun _=>rfl⟩
    subst he
    exact hj (H.apart j id oj _ hoj ho (by rw [hb',hblk]))
  · exact hrel (by simp [hlt])
  · intro j oj hj hoj he
    exact hj (H.apart j id oj _ hoj ho (by rw [he,hblk',hblk]))
  · exact H.bound_set id _ (fun ρ=>ρ) (fun j _ h4 h5=>⟨h4,h5⟩)
theorem makeMap_sound (H:RelH w0 ρ σ w) {t:TypeId} {r:Option AV} {rv:Option Value} (hr:match r,rv with | none,none=>True | some a,some u=>RelV ρ a u | _,_=>False) {K:AV->AS->Prop} (h:makeMapD P σ t r K) :
    ∃ ρ' σ' w' v u,(Instr.makeMap t rv).run P w=.ok u w'/\ρ.le ρ'/\RelH w0 ρ' σ' w'/\RelV ρ' v u/\K v σ':=by
  unfold makeMapD at h
  split at h
  · rename_i kt et hm
    split at h
    · rename_i n hn
      obtain ⟨h1,hK⟩:=h
      obtain ⟨id,ρ',g1,g2,g3,g4⟩:=H.newObjM (.map #[] 0) (.mapO n [] 0) (fun _ _=>rfl) (fun id ρ' hle hl hi hb=>⟨w.heap.size,0,[],hl,H.le_size,hb,hi,by simp,rfl,fun i e u he=>by cases he⟩)
      refine ⟨ρ',_,_,.amap id,.map (some w.heap.size),?_,g2,g4,.amap id _ _ g3,hK id g1⟩
      have hty:=mapTy_some hm
      cases r with
      | none =>
        cases rv with
        | some u=>exact hr.elim
        | none=>rfl
      | some a =>
        cases rv with
        | none=>exact hr.elim
        | some u =>
          split at h1
          · contradiction
          · rename_i k z heq
            cases heq
            have hu:=relInt (x:=.undef) hr
            rw [hu]
            simp only [Instr.makeMap,Sem.run_bind,run_underlying hty,Result.andThen_ok]
            rfl
          · exact h1.elim
    · exact h.elim
  · exact h.elim
theorem toArray_modify {α:Type} (l:List α) (i:Nat) (f:α->α):l.toArray.modify i f=(l.modify i f).toArray:=by
  apply Array.ext'
  simp
theorem RelM.modify {ρ:Gh} {es:List ME} {us:List MapEntry} (h:RelM ρ es us) {v:AV} {u:Value} (hv:RelV ρ v u) {a:List UInt8}:∀ {i:Nat} {x:MapEntry},us[i]?=some x->x.key=.string ⟨a.toArray⟩ ->
    RelM ρ (es.modify i fun e=>(e.1,v,e.2.2)) (us.modify i fun e=>{ e with key:=.string ⟨a.toArray⟩,val:=u }):=by
  induction es generalizing us with
  | nil=>intro i x hx; rw [h.nil_inv] at hx; cases hx
  | cons e es ih =>
    intro i x hx hk
    obtain ⟨y,us',rfl,g1,g2,g3,g4⟩:=h.uncons
    cases i with
    | zero =>
      cases hx
      rw [List.modify_zero_cons,List.modify_zero_cons]
      rw [hk] at g1
      exact .cons g1 hv g3 g4
    | succ i =>
      rw [List.modify_succ_cons,List.modify_succ_cons]
      exact .cons g1 g2 g3 (ih g4 (by simpa using hx) hk)
theorem mem_modify {α:Type} {f:α->α}:∀ {l:List α} {i:Nat} {x:α},x ∈ l.modify i f->∃ y ∈ l,x=y \/ x=f y
  | [],i,x,h=>by simp at h
  | a :: l,0,x,h=>by
    rw [List.modify_zero_cons] at h
    rcases List.mem_cons.1 h with rfl | h
    · exact ⟨a,List.mem_cons_self ..,.inr rfl⟩
    · exact ⟨x,List.mem_cons_of_mem _ h,.inl rfl⟩
  | a :: l,i + 1,x,h=>by
    rw [List.modify_succ_cons] at h
    rcases List.mem_cons.1 h with rfl | h
    · exact ⟨x,List.mem_cons_self ..,.inl rfl⟩
    · obtain ⟨y,h1,h2⟩:=mem_modify h
      exact ⟨y,List.mem_cons_of_mem _ h1,h2⟩
theorem mapUpdate_sound (H:RelH w0 ρ σ w) {t:TypeId} {x k v:AV} {xv kv vv:Value} (hx:RelV ρ x xv) (hk:RelV ρ k kv) (hv:RelV ρ v vv) {K:AS->Prop} (h:mapUpdateD P σ t x k v K) :
    ∃ σ' w',(Instr.mapUpdate t xv kv vv).run P w=.ok () w'/\RelH w0 ρ σ' w'/\K σ':=by
  unfold mapUpdateD at h
  split at h
  · rename_i kt et id k' hm hko
    obtain ⟨hkt,h⟩:=h
    obtain ⟨hk1,hkty⟩:=keyTy_one hkt
    obtain ⟨a,rfl,rfl⟩:=keyOf_one hko hk1
    obtain ⟨b,m,rfl,hloc⟩:=inv_amap hx
    have hkv:=relStr hk
    split at h
    · rename_i n es c ho
      obtain ⟨hn,h⟩:=h
      obtain ⟨b',m',us,hl,hB,hb,hi,hks,hlen,hr⟩:=H.obj id _ ho
      rw [hloc] at hl
      cases hl
      have hM:RelM ρ es us:=⟨hlen,hr⟩
      have hlt:b < w.heap.size:=(Array.getElem?_eq_some_iff.1 hb).1
      obtain ⟨r,hf,hres⟩:=findNow_rel (a:=a) 0 hM (fun e he=>by rw [hks e he]; exact hn)
      have hget:=run_getObj (P:=P) hb (by intro c e f h; cases h)
      have hty:=mapTy_some hm
      have hfk:=run_findKey (P:=P) hkty (k:=.string ⟨a.toArray⟩) (es:=us) hf w
      cases hg:mapGet es [a] with
      | some v0 =>
        rw [hg] at hres
        cases r with
        | none=>exact hres.elim
        | some r =>
          obtain ⟨j,u⟩:=r
          obtain ⟨_,hu,x',y',k3,k4,k5,_,k7⟩:=hres
          rw [Nat.sub_zero] at k3
          have k8:=k7 v
          rw [Nat.sub_zero] at k8
          rw [k8] at h
          simp only at h
          refine ⟨_,_,?_,H.turnObjM ho hloc hB hlt hi (by simp [blkOf,hloc]) (by simp [blkOf,hloc]) (.map (us.modify j fun e=>{ e with key:=.string ⟨a.toArray⟩,val:=vv }).toArray c) (fun hnew=>?_),h⟩
          · rw [hkv]
            have hset:=run_setObj (P:=P) (w:=w) (o':=.map (us.modify j fun e=>{ e with key:=.string ⟨a.toArray⟩,val:=vv }).toArray c) hb (by intro c e f h; cases h)
            have hold:((us.toArray[j]?).map (·.key)).getD (.string ⟨a.toArray⟩)=.string ⟨a.toArray⟩:=by
              rw [List.getElem?_toArray,k3]
              exact k4
            have hstay:(Instr.keyThatStays (.string ⟨a.toArray⟩) (.string ⟨a.toArray⟩)).run P w=.ok (.string ⟨a.toArray⟩) w:=by
              unfold Instr.keyThatStays
              have:Instr.sameBits 10000 (.string ⟨a.toArray⟩) (.string ⟨a.toArray⟩)=true:=by simp only [Instr.sameBits,ba_eq,decide_true]
              rw [if_pos this]
              rfl
            simp only [Instr.mapUpdate,Sem.run_bind,run_underlying hty,Result.andThen_ok,hget,run_checkKey_s hkty,hfk,hold,hstay,toArray_modify]
            exact hset
          · have hM2:=hM.modify hv k3 k4
            refine ⟨b,m,_,hloc,hB,hnew,hi,fun e he=>?_,hM2.1,hM2.2⟩
            obtain ⟨y,hy,hh⟩:=mem_modify he
            rcases hh with rfl | rfl
            · exact hks _ hy
            · exact hks y hy
      | none =>
        rw [hg] at hres
        cases r with
        | some r=>exact hres.elim
        | none =>
          have hms:=hres v
          rw [hms] at h
          simp only at h
          refine ⟨_,_,?_,H.turnObjM ho hloc hB hlt hi (by simp [blkOf,hloc]) (by simp [blkOf,hloc]) (.map (us ++ [(⟨.string ⟨a.toArray⟩,vv,c⟩:MapEntry)]).toArray (c + 1)) (fun hnew=>?_),h⟩
          · rw [hkv]
            have hset:=run_setObj (P:=P) (w:=w) (o':=.map (us ++ [(⟨.string ⟨a.toArray⟩,vv,c⟩:MapEntry)]).toArray (c + 1)) hb (by intro c e f h; cases h)
            have hpush:us.toArray.push (⟨.string ⟨a.toArray⟩,vv,c⟩:MapEntry)=(us ++ [(⟨.string ⟨a.toArray⟩,vv,c⟩:MapEntry)]).toArray:=by simp
            simp only [Instr.mapUpdate,Sem.run_bind,run_underlying hty,Result.andThen_ok,hget,run_checkKey_s hkty,hfk,hpush]
            exact hset
          · have hM2:=hM.snoc (e:=([a],v,c)) (u:=(⟨.string ⟨a.toArray⟩,vv,c⟩:MapEntry)) (by rw [hkv] at hk; exact hk) hv rfl
            refine ⟨b,m,_,hloc,hB,hnew,hi,fun e he=>?_,hM2.1,hM2.2⟩
            rcases List.mem_append.1 he with he | he
            · exact hks e he
            · rw [List.mem_singleton.1 he,hn]
    · exact h.elim
  · exact h.elim
theorem rangeMap_sound (H:RelH w0 ρ σ w) {t:TypeId} {x:AV} {xv:Value} (hx:RelV ρ x xv) {K:AV->AS->Prop} (h:rangeMapD P σ t x K) :
    ∃ ρ' σ' w' v u,(Instr.range t xv).run P w=.ok u w'/\ρ.le ρ'/\RelH w0 ρ' σ' w'/\RelV ρ' v u/\K v σ':=by
  unfold rangeMapD at h
  split at h
  · rename_i mi
    obtain ⟨hm,h⟩:=h
    obtain ⟨⟨kt,et⟩,hm⟩:=Option.isSome_iff_exists.1 hm
    obtain ⟨b,m,rfl,hloc⟩:=inv_amap hx
    split at h
    · rename_i n es c ho
      obtain ⟨b',m',us,hl,hB,hb,hi,hks,hlen,hr⟩:=H.obj mi _ ho
      rw [hloc] at hl
      cases hl
      have hget:=run_getObj (P:=P) hb (by intro c e f h; cases h)
      obtain ⟨id,ρ',g1,g2,g3,g4⟩:=H.newObjM (.mapIter (some b) c #[] c) (.mapIt mi c []) (fun _ _=>rfl) (fun id ρ' hle hl hi hb'=>⟨w.heap.size,0,b,m,hl,H.le_size,hb',hle.loc _ _ hloc,hi⟩)
      refine ⟨ρ',_,_,.iter id,.pointer (some ⟨w.heap.size,0,none⟩),?_,g2,g4,.iter id _ _ g3,h id g1⟩
      have hty:=mapTy_some hm
      simp only [Instr.range,Sem.run_bind,run_underlying hty,Result.andThen_ok,hget,Sem.run_pure]
      rfl
    · exact h.elim
  · exact h.elim
theorem nextMap_sound (H:RelH w0 ρ σ w) {x:AV} {xv:Value} (hx:RelV ρ x xv) (ty:TypeId) {K:AV->AS->Prop} (h:nextMapD σ x K) :
    ∃ σ' w' v u,(Instr.next xv false ty).run P w=.ok u w'/\RelH w0 ρ σ' w'/\RelV ρ v u/\K v σ':=by
  unfold nextMapD at h
  split at h
  · rename_i id
    obtain ⟨b,m,rfl,hloc⟩:=inv_iterP hx
    split at h
    · rename_i mi since seen ho
      obtain ⟨b',m',bm,mm,hl,hB,hb,hlm,hi⟩:=H.obj id _ ho
      rw [hloc] at hl
      cases hl
      have hget:=run_getObj (P:=P) hb (by intro c e f h; cases h)
      split at h
      · rename_i n es c hom
        obtain ⟨hc,hold,h⟩:=h
        subst hc
        obtain ⟨b2,m2,us,hl2,hB2,hb2,hi2,hks,hlen,hr⟩:=H.obj mi _ hom
        rw [hlm] at hl2
        cases hl2
        have hM:RelM ρ es us:=⟨hlen,hr⟩
        have hget2:=run_getObj (P:=P) hb2 (by intro c e f h; cases h)
        have hbirths:∀ u ∈ us,u.born < c:=by
          intro u hu
          obtain ⟨i,hi,rfl⟩:=List.getElem_of_mem hu
          have hie:i < es.length:=by omega
          have:=(hr i es[i] us[i] (List.getElem?_eq_getElem hie) (List.getElem?_eq_getElem hi)).2.2
          rw [this]
          exact hold _ (List.getElem_mem hie)
        have hF:=hM.filter (fun n=>!seen.contains n)
        generalize hleft:(es.filter fun e=>!seen.contains e.2.2)=left at h hF
        generalize hul:(us.filter fun u=>!seen.contains u.born)=ul at hF
        have hlt:b < w.heap.size:=(Array.getElem?_eq_some_iff.1 hb).1
        have hstuck:(!(seen.toArray).isEmpty && !(us.toArray).isEmpty && (us.toArray).all (fun x=>decide (x.born ≥ c)))=false:=by
          cases us with
          | nil=>simp
          | cons u us =>
            have h1:=hbirths u (List.mem_cons_self ..)
            have:¬ u.born ≥ c:=by omega
            simp [this]
        have hfil:(us.toArray).filter (fun e=>!(seen.toArray).contains e.born)=ul.toArray:=by
          rw [<- hul]
          simp
        have hof:∀ u ∈ ul,u.born < c:=by
          intro u hu
          rw [<- hul] at hu
          exact hbirths u (List.mem_filter.1 hu).1
        have hold2:(ul.toArray).filter (fun e=>decide (e.born < c))=ul.toArray:=by
          have:ul.filter (fun e=>decide (e.born < c))=ul:=List.filter_eq_self.2 (fun u hu=>decide_eq_true (hof u hu))
          simp [this]
        have hnew2:(ul.toArray).filter (fun e=>decide (e.born ≥ c))=#[]:=by
          have:ul.filter (fun e=>decide (c <= e.born))=[]:=List.filter_eq_nil_iff.2 (fun u hu=>by have:=hof u hu; simp; omega)
          simp [this]
        have hgo:∀ (r:Result Value),((do
            let cs:=(if (ul.toArray).isEmpty then #[none] else #[]) ++ (ul.toArray).map some
            match cs[<- choose (.mapNext cs.size)]? with
            | some (some e) =>
              setObj b (.mapIter (some bm) c (seen.toArray.push e.born) c)
              pure (.tuple #[.bool true,e.key,e.val])
            | some none=>pure (.tuple #[.bool false])
            | none=>stuck "Next: no such candidate" : Sem Value).run P w=r)->(Instr.next (.pointer (some ⟨b,0,none⟩)) false ty).run P w=r:=by
          intro r hrun
          rw [<- hrun]
          simp only [Instr.next,Sem.run_bind,hget,hget2,Result.andThen_ok,hstuck,hfil,hold2,hnew2,Bool.false_eq_true,if_false,Array.append_empty]
          rfl
        split at h
        · rename_i hnil
          rw [hnil] at hF
          have hu0:=hF.nil_inv
          subst hu0
          refine ⟨σ,w,_,.tuple #[.bool false],hgo _ ?_,H,RelV.of_tuple (RelL.cons (.pv (.bool false)) (RelL.nil ρ)),h⟩
          have e1:((if ((#[]:Array MapEntry)).isEmpty then #[none] else #[]) ++ ((#[]:Array MapEntry)).map some:Array (Option MapEntry))=#[none]:=by simp
          have e2:(choose (.mapNext (#[none]:Array (Option MapEntry)).size)).run P w=.ok 0 w:=by rw [run_choose_drew]; rfl
          show Sem.run P (let cs:=((if ((#[]:Array MapEntry)).isEmpty then #[none] else #[]) ++ ((#[]:Array MapEntry)).map some:Array (Option MapEntry)); _) w=_
          rw [e1]
          dsimp only
          rw [Sem.run_bind,e2,Result.andThen_ok]
          rfl
        · rename_i hnn
          have hne:ul ≠ []:=by
            intro e
            apply hnn
            rw [e] at hF
            exact List.eq_nil_of_length_eq_zero (by have:=hF.1; simp at this; omega)
          have hpos:0 < ul.length:=List.length_pos_iff.2 hne
          have hcs:((if (ul.toArray).isEmpty then #[none] else #[]) ++ (ul.toArray).map some:Array (Option MapEntry))=(ul.map some).toArray:=by
            have:(ul.toArray).isEmpty=false:=by simp [hne]
            rw [this,if_neg (by decide)]
            simp
          obtain ⟨j,w1,hj,hch,hw1⟩:∃ j w1,j < ul.length/\(choose (.mapNext (ul.map some).toArray.size)).run P w=.ok j w1/\∃ d,w1={ w with drawn:=d }:=by
            rw [run_choose_drew]
            split
            · exact ⟨0,w,hpos,rfl,w.drawn,rfl⟩
            · refine ⟨_,_,?_,rfl,_,rfl⟩
              show _ % (ul.map some).toArray.size < ul.length
              simp only [List.size_toArray,List.length_map]
              exact Nat.mod_lt _ hpos
          obtain ⟨d,rfl⟩:=hw1
          have hjl:j < left.length:=by rw [<- hF.1]; exact hj
          obtain ⟨r1,r2,r3⟩:=hF.2 j left[j] ul[j] (List.getElem?_eq_getElem hjl) (List.getElem?_eq_getElem hj)
          have hK:=h left[j] (List.getElem_mem hjl)
          have H1:=H.drawn d
          have H2:=H1.turnObjM ho hloc hB hlt hi (by simp [blkOf,hloc]) (ao':=.mapIt mi c (seen ++ [left[j].2.2])) (by simp [blkOf,hloc]) (.mapIter (some bm) c (seen ++ [left[j].2.2]).toArray c) (fun hnew=>⟨b,m,bm,mm,hloc,hB,hnew,hlm,hi⟩)
          refine ⟨_,_,_,.tuple #[.bool true,ul[j].key,ul[j].val],hgo _ ?_,H2,RelV.of_tuple (RelL.cons (.pv (.bool true)) (RelL.cons r1 (RelL.cons r2 (RelL.nil ρ)))),hK⟩
          rw [hcs]
          dsimp only
          rw [Sem.run_bind,hch,Result.andThen_ok]
          have hat:(ul.map some).toArray[j]?=some (some ul[j]):=by
            rw [List.getElem?_toArray,List.getElem?_map,List.getElem?_eq_getElem hj]
            rfl
          rw [hat]
          dsimp only
          have hset:=run_setObj (P:=P) (w:={ w with drawn:=d }) (b:=b) (o':=.mapIter (some bm) c (seen.toArray.push ul[j].born) c) hb (by intro c e f h; cases h)
          rw [Sem.run_bind,hset,Result.andThen_ok,Sem.run_pure]
          have hpush:seen.toArray.push ul[j].born=(seen ++ [left[j].2.2]).toArray:=by simp [r3]
          rw [hpush]
      · exact h.elim
    · exact h.elim
  · exact h.elim
end
end Go.AD

set_option linter.unusedVariables false
set_option linter.unusedSimpArgs false
namespace Go.AD
open RowKit
section
variable {P:Program} {w0 w w':World} {ρ ρ':Gh} {σ:AS} {env:Env}
theorem inv_func {f:FuncId} {u:Value} (h:RelV ρ (.pv (.func f)) u):u=.func (.func f) #[] #[]:=by
  cases h with | pv h=>cases h; rfl
theorem inv_clo {f:FuncId} {first cap:List AV} {u:Value} (h:RelV ρ (.clo f first cap) u):∃ vs us:List Value,u=.func (.func f) vs.toArray us.toArray/\RelL ρ first vs/\RelL ρ cap us:=by
  cases h with | clo _ _ _ vs us hl hr hl' hr'=>exact ⟨vs,us,rfl,⟨hl,hr⟩,⟨hl',hr'⟩⟩
theorem inv_iface {t:TypeId} {b:Bool} {cs:List PV} {u:Value} (h:RelV ρ (.pv (.iface t b cs)) u):∃ v,u=.iface t v/\RelP ρ.imm (.iface t b cs) u:=by
  cases h with
  | pv h =>
    have h':=h
    cases h with
    | ifaceOne _ c v hc=>exact ⟨v,rfl,h'⟩
    | ifaceAgg _ cells vs hl hr=>exact ⟨_,rfl,h'⟩
theorem inv_iter {id:Nat} {u:Value} (h:RelV ρ (.iter id) u):∃ b m,u=.pointer (some ⟨b,0,none⟩)/\ρ.loc id=some (b,0,m):=inv_iterP h
theorem RelH.newIter (H:RelH w0 ρ σ w) (s:List UInt8) (pos:Nat) :
    ∃ id ρ',σ id=none/\ρ.le ρ'/\ρ'.loc id=some (w.heap.size,0,0)/\RelH w0 ρ' (σ.set id (.strIter s pos)) (w.alloc (.stringIter ⟨s.toArray⟩ pos)):=by
  obtain ⟨id,h1,h2,h3⟩:=H.fresh
  have hle':ρ.le (ρ.withLoc id (w.heap.size,0,0)):=Gh.le_withLoc h1
  have hloc:(ρ.withLoc id (w.heap.size,0,0)).loc id=some (w.heap.size,0,0):=by simp [Gh.withLoc]
  refine ⟨id,ρ.withLoc id (w.heap.size,0,0),h3,hle',hloc,?_⟩
  refine H.turn hle' (H.below.alloc H.le_size _) (fun b o v hv=>H.alloc_imm _ b o v hv) id _ ?_ ?_ ?_ ?_
  · intro j oj b hj ho hb
    exact ⟨Below.heap_alloc w _ b (H.blk_lt ho hb),fun _=>rfl,fun _=>rfl⟩
  · exact ⟨w.heap.size,0,hloc,H.le_size,heap_alloc_new w _,fun o' v hv=>absurd (H.imm_lt hv) (Nat.lt_irrefl _)⟩
  · intro j oj hj ho he
    obtain ⟨b,hb,_,hlt⟩:=objRel_blk (H.obj j oj ho)
    rw [hb] at he
    simp [blkOf,hloc] at he
    omega
  · exact H.bound_set id _ (fun ρ=>ρ.withLoc id (w.heap.size,0,0)) (fun j hj h4 h5=>⟨by simp only [Gh.withLoc]; rw [if_neg (by omega)]; exact h4,h5⟩)
theorem RelH.stepIter (H:RelH w0 ρ σ w) {id:Nat} {s:List UInt8} {pos:Nat} (ho:σ id=some (.strIter s pos)) (pos':Nat) :
    ∃ b m,ρ.loc id=some (b,0,m)/\w.heap[b]?=some (.stringIter ⟨s.toArray⟩ pos)/\RelH w0 ρ (σ.set id (.strIter s pos')) { w with heap:=w.heap.setIfInBounds b (.stringIter ⟨s.toArray⟩ pos') }:=by
  obtain ⟨b,m,hl,hB,hb,hi⟩:=H.obj id _ ho
  have hlt:b < w.heap.size:=(Array.getElem?_eq_some_iff.1 hb).1
  refine ⟨b,m,hl,hb,?_⟩
  have hother:∀ k,k ≠ b->(w.heap.setIfInBounds b (.stringIter ⟨s.toArray⟩ pos'))[k]?=w.heap[k]?:=fun k hk=>Array.getElem?_setIfInBounds_ne (Ne.symm hk)
  refine H.turn (Gh.le_refl ρ) ?_ ?_ id _ ?_ ?_ ?_ ?_
  · exact H.below.trans ⟨rfl,rfl,rfl,by simp,fun k hk=>hother k (by omega)⟩
  · intro b' p v hv
    have hne:b' ≠ b:=fun he=>by subst he; exact hi _ _ hv
    rw [World.cell?_of_block (w:=w) (hother b' hne)]
    exact H.imm _ _ _ hv
  · intro j oj b' hj hoj hb'
    refine ⟨hother b' (fun he=>?_),fun _=>rfl,fun _=>rfl⟩
    subst he
    exact hj (H.apart j id oj _ hoj ho (by rw [hb']; simp [blkOf,hl]))
  · exact ⟨b,m,hl,hB,by simp [hlt],hi⟩
  · intro j oj hj hoj he
    exact hj (H.apart j id oj _ hoj ho (by rw [he]; simp [blkOf]))
  · exact H.bound_set id _ (fun ρ=>ρ) (fun j _ h4 h5=>⟨h4,h5⟩)
theorem pvBytes_rel (imm:Nat->Nat->Option Value) (l:List UInt8):RelPL imm (pvBytes l) (l.map fun b=>.int .u8 (b.toNat:Int)) :=
  ⟨by simp [pvBytes],fun i hi=>by
    have hi':i < l.length:=by simpa [pvBytes] using hi
    simp only [pvBytes,List.getElem_map,List.getD_eq_getElem?_getD]
    rw [List.getElem?_eq_getElem (by simpa using hi')]
    simp only [List.getElem_map,Option.getD_some]
    exact .int _ _⟩
theorem nan_run (w:World) (op:BinOp) (t:TypeId) (k:FloatKind) (p q:Nat) (ho:isArith op=true) (hr:floatBits op k p q=none) :
    ∃ n w',(binOp op t (.float k p) (.float k q)).run P w=.ok (.float k n) w'/\w'={ w with drawn:=w.drawn + 1 }/\(k.decode n).isNaN=true:=by
  have hc:=run_choose_drew P w (.nanBits k p q)
  have hf:(Question.nanBits k p q).forced=false:=rfl
  rw [hf,if_neg (by decide)] at hc
  refine ⟨(Question.nanBits k p q).cut (w.tape w.drawn (.nanBits k p q)),w.drew,?_,rfl,?_⟩
  · unfold floatBits at hr
    cases op <;> simp only [isArith] at ho <;> first | (cases ho; done) | skip
    all_goals (simp only at hr; simp [binOp,Op.floatArith,hr,hc,hf])
  · generalize w.tape w.drawn (.nanBits k p q)=m
    cases k
    · have e:(Question.nanBits .f32 p q).cut m=(m % 2) * 2 ^ 31 + 0x7f800000 + 1 + (m / 2) % (2 ^ 23 - 1):=rfl
      have hb:FloatKind.f32.format.binade=2 ^ 23:=rfl
      have hi:FloatKind.f32.format.infRung=0x7f800000:=by decide
      have hs:FloatKind.f32.format.signWeight=2 ^ 31:=rfl
      have hmod:(Question.nanBits .f32 p q).cut m % FloatKind.f32.format.signWeight=0x7f800000 + 1 + (m / 2) % (2 ^ 23 - 1):=by rw [e,hs]; omega
      unfold FloatKind.decode Ieee.Format.read
      simp only [hmod,hb,hi]
      rw [if_neg (by omega),if_neg (by omega),if_neg (by omega)]
      rfl
    · have e:(Question.nanBits .f64 p q).cut m=(m % 2) * 2 ^ 63 + 0x7ff0000000000000 + 1 + (m / 2) % (2 ^ 52 - 1):=rfl
      have hb:FloatKind.f64.format.binade=2 ^ 52:=rfl
      have hi:FloatKind.f64.format.infRung=0x7ff0000000000000:=by decide
      have hs:FloatKind.f64.format.signWeight=2 ^ 63:=rfl
      have hmod:(Question.nanBits .f64 p q).cut m % FloatKind.f64.format.signWeight=0x7ff0000000000000 + 1 + (m / 2) % (2 ^ 52 - 1):=by rw [e,hs]; omega
      unfold FloatKind.decode Ieee.Format.read
      simp only [hmod,hb,hi]
      rw [if_neg (by omega),if_neg (by omega),if_neg (by omega)]
      rfl
theorem method_run {t:TypeId} {name:String} {f:FuncId} (h:methOf P t name=some f) (v:Value):(method (P.types.size + Made.depth) t v name).run P w=.ok (f,v) w:=by
  unfold methOf at h
  split at h
  case h_2=>cases h
  case h_1 i d hi hd =>
    split at h
    · cases h
    · rename_i m hm hnp
      split at h
      case isFalse=>cases h
      case isTrue hp =>
        split at h
        case h_2=>cases h
        case h_1 g hg =>
          cases h
          have hpos:0 < Made.depth:=by decide
          obtain ⟨k,hk⟩:∃ k,P.types.size + Made.depth=k + 1:=⟨P.types.size + Made.depth - 1,by omega⟩
          have hpe:m.path=#[]:=by simpa using hp
          rw [hk]
          unfold method
          have hi':(typeInfo t).run P w=.ok i w:=by simp [typeInfo,hi]
          simp only [Sem.run_bind,hi',Result.andThen_ok,hm,hpe,follow,Sem.run_pure,hg,receiverAt,run_underlying hd]
          simp [Place.get]
    · cases h
theorem op_sound (E:EnvOk P env) (hS:Ready P w0) (H:RelH w0 ρ σ w) {n:Nat} {fr:Fr} {a:Act} (F:RelF ρ n fr a) (mu:Option Nat->Bool) (o:Oper) {K:AV->AS->Prop} {X:PV->AS->Prop} (h:opD P env mu fr σ o.dst o.op K X)
    {next:Act->World->Prop} {Q:Exit->Act->World->Prop}
    (hn:∀ ρ' σ' w' v u,ρ.le ρ'->RelH w0 ρ' σ' w'->RelV ρ' v u->K v σ'->next (a.put o.dst u) w')
    (hp:∀ ρ' σ' w' p u,ρ.le ρ'->RelH w0 ρ' σ' w'->RelP ρ'.imm p u->X p σ'->Q (.panic [{ v:=u,recovered:=false }]) a w'):o.wp P a w next Q:=by
  rw [opD_eq] at h
  unfold opU at h
  split at h
  · rename_i hs
    rw [<- stillD_eq] at h
    obtain ⟨v,u,h1,h2,h3⟩:=still_sound hS H F mu o hs h
    unfold Oper.wp
    rw [h1]
    exact hn ρ σ w v u (Gh.le_refl ρ) H h2 h3
  rename_i hns
  have val:∀ {s:Sem Value} (ρ':Gh) (σ':AS) (w':World) (v:AV) (u:Value),s.run P w=.ok u w'->ρ.le ρ'->RelH w0 ρ' σ' w'->RelV ρ' v u->K v σ'->execOp a.eval o=(do pure (Next.value (<- s)))->o.wp P a w next Q:=by
    intro s ρ' σ' w' v u h1 h2 h3 h4 h5 h6
    unfold Oper.wp
    have:(execOp a.eval o).run P w=.ok (.value u) w':=by
      rw [h6]
      simp only [Sem.run_bind,h1,Result.andThen_ok,Sem.run_pure]
    rw [this]
    exact hn ρ' σ' w' v u h2 h3 h4 h5
  obtain ⟨dst,op,type,pos,after,guard⟩:=o
  simp only at h hns
  split at h
  ·
    rename_i t
    unfold allocD at h
    split at h
    · rename_i z hz
      obtain ⟨hok,hK⟩:=h
      obtain ⟨i,zv,hi,hzv,rfl⟩:=zeroOf_some hz
      obtain ⟨id,ρ',h1,_,h2,h3,h4⟩:=H.newCells zv.cells t (0,0) (nofz_zero _) (zv.cells.toList.map ofCell) (by simp) (by
        have:=ofCells_rel ρ zv.cells.toList
        rw [List.length_map,List.take_length]
        exact this) hok (some t) (fun t' ht=>⟨Option.some.inj ht,by simp⟩)
      refine val ρ' _ _ (.addr id 0) (.pointer (some ⟨w.heap.size,0 + 0,none⟩)) ?_ h2 h4 (.addr id 0 _ 0 _ h3) (hK id h1) rfl
      simp [Instr.alloc,zeroValue,typeInfo,hi,hzv,newVar,newRow,heap_push]
    · exact h.elim
  ·
    rename_i t x
    obtain ⟨hok,hK⟩:=h
    have hr:=cells_rel (ev_rel F x) hok
    obtain ⟨id,ρ',h1,_,h2,h3,h4⟩:=H.newCells (a.eval x).cells t (0,0) (nofz_zero _) (ev fr x).cells (by have:=hr.1; simp at this; omega) (by
        rw [<- hr.1,List.take_length]
        exact hr) hok none (fun t' ht=>by cases ht)
    refine val ρ' _ _ (.addr id 0) (.pointer (some ⟨w.heap.size,0 + 0,none⟩)) ?_ h2 h4 (.addr id 0 _ 0 _ h3) (hK id h1) rfl
    simp [Instr.box,newVar,newRow,heap_push]
  ·
    rename_i t n' ps
    unfold buildSliceD at h
    split at h
    · rename_i e he
      obtain ⟨hT,hsz,hzs,hb,hps,h⟩:=h
      split at h
      · rename_i cs hcs
        obtain ⟨z,hz⟩:=Option.isSome_iff_exists.1 hzs
        obtain ⟨i,zv,hi,hzv,_⟩:=zeroOf_some hz
        obtain ⟨i',hi',hsi,hbi⟩:=inf_some (hasT_inf hT)
        rw [hi] at hi'
        cases hi'
        have hparts:=parts_rel F ps.toList
        obtain ⟨out,us,e1,e2,e3,e4,e5⟩:=elemsFill_sound _ 0 _ cs
          ((Array.range (n' * szOf P e)).map ((if n' * szOf P e=0 then #[] else zv.cells)[· % (if n' * szOf P e=0 then #[] else zv.cells).size]!)) hparts hcs (by simp [hps])
        simp only [Nat.zero_mul,List.take_zero,List.nil_append] at e2
        have hlen:us.length=n' * szOf P e:=by rw [e4]; simp [hps]
        have hout:out=us.toArray:=by rw [<- e2]
        have hb':¬ (n' * szOf P e > 2 ^ 24):=by omega
        have hrun:(Instr.buildSlice t n' (ps.map fun (i,x)=>(i,a.eval x))).run P w=.ok (.slice (some ⟨w.heap.size,0,none⟩) n' n') (w.alloc (.cells us.toArray e)):=by
          simp only [Instr.buildSlice,Sem.run_bind,run_underlying (elOf_some he),Result.andThen_ok,run_size (hasT_inf hT),if_neg hb',Sem.run_pure]
          by_cases h0:n' * szOf P e=0
          · simp only [h0,if_true] at e1 ⊢
            simp only [Sem.run_bind,Sem.run_pure,Result.andThen_ok,Array.toList_map,e1]
            rw [hout]
            simp [newRow,heap_push]
          · simp only [h0,if_false] at e1 ⊢
            simp only [zeroValue,typeInfo,Sem.run_bind,Sem.run_pure,run_program,Result.andThen_ok,hi,hzv,Array.toList_map,e1]
            rw [hout]
            simp [newRow,heap_push]
        split at h
        · obtain ⟨ρ',σ',v,k1,k2,k3,k4⟩:=newRow_sound H e h us.toArray (0,0) (nofz_zero _) us e3 (by rw [<- e3.1]; simp) (by rw [<- e3.1,hlen]) n' (Nat.le_refl _) (by
            have:n' <= n' * szOf P e:=Nat.le_mul_of_pos_right _ hsz
            simp only [maxLen]; omega) (by simp [hlen])
          exact val ρ' σ' _ v _ hrun k1 k2 k3 k4 rfl
        · split at h
          · rename_i ys hys
            have hpl:=toPVs_rel e3 hys
            obtain ⟨hle,H1⟩:=H.newImm us.toArray e (0,0) us (fun i v hv=>by simpa using hv)
            exact val _ σ _ (.full n' ys) _ hrun hle H1 (.full n' ys _ 0 us hpl.1 (Gh.ext_at ρ _ 0 us) (fun i hi=>(hpl.2 i hi).mono hle.imm)) h rfl
          · exact h.elim
      · exact h.elim
    · exact h.elim
  ·
    rename_i t lx cx
    unfold makeSliceD at h
    split at h
    · rename_i e l c he hl hc
      obtain ⟨hT,hsz,h0,hlc,hby,hc63,h⟩:=h
      split at h
      · rename_i z hz
        obtain ⟨hzl,hK⟩:=h
        obtain ⟨i,zv,hi,hzv,rfl⟩:=zeroOf_some hz
        obtain ⟨i',hi',hsi,hbi⟩:=inf_some (hasT_inf hT)
        rw [hi] at hi'
        cases hi'
        have hlv:=ev_rel F lx
        have hcv:=ev_rel F cx
        rw [hl] at hlv
        rw [hc] at hcv
        have hzsz:zv.cells.size=szOf P e:=by simpa using hzl
        have hrun:=run_make (P:=P) w t e i zv (elOf_some he) hi hzv .i64 .i64 l c h0 hlc (by rw [<- hbi,Int.mul_comm]; exact hby) hc63
        rw [<- hsi,<- hzsz] at hrun
        have hlcn:l.toNat <= c.toNat:=by omega
        obtain ⟨ρ',σ',v,k1,k2,k3,k4⟩:=newRow_sound H e hK (madeCells zv.cells (c.toNat * zv.cells.size)) (0,0) (nofz_zero _) (List.flatten (List.replicate l.toNat zv.cells.toList))
          (flat_rel (ofCells_rel ρ zv.cells.toList) _) (by
            rw [flat_len,List.length_map,Array.length_toList]
            exact made_take zv.cells (by omega) _ _ hlcn) (by rw [flat_len,hzl]) c.toNat hlcn (by simp only [maxLen]; omega) (by rw [size_madeCells,hzsz]; exact Nat.le_refl _)
        refine val ρ' σ' _ v _ (s:=Instr.makeSlice t (a.eval lx) (a.eval cx)) ?_ k1 k2 k3 k4 rfl
        rw [relInt (x:=.undef) hlv,relInt (x:=.undef) hcv]
        exact hrun
      · exact h.elim
    · exact h.elim
  ·
    rename_i t x y
    obtain ⟨σ',w',h1,h2,h3⟩:=store_sound H h (ev_rel F x) (ev_rel F y)
    unfold Oper.wp
    have:(execOp a.eval { dst:=dst,op:=.store t x y,type:=type,pos:=pos,after:=after,guard:=guard }).run P w=.ok .skip w':=by
      simp only [execOp,Sem.run_bind,h1,Result.andThen_ok,Sem.run_pure]
    rw [this]
    exact hn ρ σ' w' .undef _ (Gh.le_refl ρ) h2 (.undef _) h3
  ·
    rename_i s d x
    unfold bytesD at h
    split at h
    · rename_i e l he hx
      obtain ⟨hs,hu8,hsz,hll,hK⟩:=h
      have hxv:=ev_rel F x
      rw [hx] at hxv
      have hrun:=run_bytes_of_string (P:=P) w s d e ⟨l.toArray⟩ hs (elOf_some he) hu8
      have hsize:(⟨l.toArray⟩:ByteArray).size=l.length:=bytes_size l
      rw [hsize] at hrun
      have hge:=grownCap_ge w l.length 0 e
      have hgm:=grownCap_le_maxLen w l.length 0 e (by simp only [maxLen]; omega)
      generalize grownCap w l.length 0 e=C at *
      have hrow:(bytesRow ⟨l.toArray⟩ C).toList=(l.map fun b=>Value.int .u8 (b.toNat:Int)) ++ List.replicate (C - l.length) (.int .u8 0):=by
        simp [bytesRow,hsize]
      have hrs:(bytesRow ⟨l.toArray⟩ C).size=C:=by
        have:=congrArg List.length hrow
        simp at this
        omega
      obtain ⟨ρ',σ',v,k1,k2,k3,k4⟩:=newRow_sound (w:=w.drew) (H.drawn (w.drawn + 1)) e hK (bytesRow ⟨l.toArray⟩ C) (C,C + 1) (fun i hi hh=>by rw [hrs] at hi; omega)
        (l.map fun b=>.int .u8 (b.toNat:Int)) (rel_map (pvBytes_rel ρ.imm l)) (by
          rw [hrow]
          simp [pvBytes]) (by simp [pvBytes]) C hge hgm (by rw [hrs]; omega)
      refine val ρ' σ' _ v _ (s:=convert s d (a.eval x)) ?_ k1 k2 k3 k4 rfl
      rw [relStr hxv,hrun,hrs]
      rfl
    · exact h.elim
  ·
    rename_i t x lo hi
    split at h
    · rename_i hpa
      unfold arrSliceD at h
      split at h
      · rename_i n e id off hpt hx
        obtain ⟨hie,hn,h⟩:=h
        have hxv:=ev_rel F x
        rw [hx] at hxv
        split at h
        · rename_i cs var ho
          obtain ⟨hle,h⟩:=h
          have hu:(∃ arr,P.underlying t=some (.pointer arr)/\P.underlying arr=some (.array n e)) \/ P.underlying t=some (.array n e):=by
            unfold ptrArr at hpt
            split at hpt
            · rename_i arr ha
              split at hpt
              · rename_i n' e' ha'
                cases hpt
                exact .inl ⟨arr,ha,ha'⟩
              · cases hpt
            · rename_i n' e' ha'
              cases hpt
              exact .inr ha'
            · cases hpt
          obtain ⟨b,o,m,hax,hl⟩:=inv_addr hxv
          obtain ⟨b',o',m',cur,e',fz,hl',_,_,_,hcm,hfit,_⟩:=H.obj id _ ho
          rw [hl] at hl'
          cases hl'
          obtain ⟨l,r,h1,h2,h3,hK⟩:=cutAt_sound (P:=P) (w:=w) (Nat.le_refl n) h (evo_rel F lo) (evo_rel F hi) false
          have hrun:(Instr.sliceAt t (a.eval x) (lo.map a.eval) (hi.map a.eval) none).run P w=.ok (.slice (some (if n=l then ⟨b,o + off,none⟩ else ⟨b,o + off + l * szOf P e,none⟩)) (r - l) (n - l)) w:=by
            rw [hax]
            rcases hu with ⟨arr,hu1,hu2⟩ | hu1
            · simp only [Instr.sliceAt,Instr.slice,Sem.run_bind,run_underlying hu1,run_underlying hu2,Result.andThen_ok,asAddr,Sem.run_pure,h1,run_size hie,Addr.add_lit]
            · simp only [Instr.sliceAt,Instr.slice,Sem.run_bind,run_underlying hu1,Result.andThen_ok,Instr.sureAddr,Sem.run_pure,h1,run_size hie,Addr.add_lit]
          by_cases hlr:l=r
          · rw [if_pos hlr] at hK
            subst hlr
            refine val ρ σ w _ _ (s:=Instr.sliceAt t (a.eval x) (lo.map a.eval) (hi.map a.eval) none) hrun (Gh.le_refl ρ) H ?_ hK rfl
            rw [Nat.sub_self]
            exact .pv (.lst 0 [] _ _ 0 0 [] (Nat.zero_le _) (.inl rfl) rfl (fun i hi=>absurd hi (by simp)) (fun i hi=>absurd hi (by simp)))
          · rw [if_neg hlr] at hK
            refine val ρ σ w _ _ (s:=Instr.sliceAt t (a.eval x) (lo.map a.eval) (hi.map a.eval) none) hrun (Gh.le_refl ρ) H ?_ hK rfl
            rw [if_neg (by omega),Nat.add_assoc]
            refine .msl id (off + l * szOf P e) (r - l) (szOf P e) b o m (n - l) hl (by omega) (by simp only [maxLen]; omega) ?_
            have:l * szOf P e + (n - l) * szOf P e=n * szOf P e:=by rw [<- Nat.add_mul]; congr 1; omega
            omega
        · exact h.elim
      · exact h.elim
    obtain ⟨ρ',σ',v,r,h1,h2,h3,h4,h5⟩:=takeOver_sound H h (ev_rel F x) (evo_rel F lo) (evo_rel F hi)
    exact val ρ' σ' w v r h1 h2 h3 h4 h5 rfl
  ·
    rename_i t x
    by_cases hmt:(mapTy P t).isSome=true
    · rw [if_pos hmt] at h
      obtain ⟨ρ',σ',w',v,u,h1,h2,h3,h4,h5⟩:=rangeMap_sound H (ev_rel F x) h
      exact val ρ' σ' w' v u h1 h2 h3 h4 h5 rfl
    rw [if_neg hmt] at h
    unfold rangeD at h
    split at h
    · rename_i s hx
      obtain ⟨ht,hK⟩:=h
      have hxv:=ev_rel F x
      rw [hx] at hxv
      obtain ⟨id,ρ',h1,h2,h3,h4⟩:=H.newIter s 0
      refine val ρ' _ _ (.iter id) (.pointer (some ⟨w.heap.size,0,none⟩)) (s:=Instr.range t (a.eval x)) ?_ h2 h4 (.iter id _ _ h3) (hK id h1) rfl
      rw [relStr hxv]
      simp [Instr.range,run_underlying ht,heap_push]
    · exact h.elim
  ·
    rename_i it
    unfold nextD at h
    split at h
    · rename_i id hx
      have hxv:=ev_rel F it
      rw [hx] at hxv
      obtain ⟨b,m,hax,hloc⟩:=inv_iter hxv
      split at h
      · rename_i s p ho
        obtain ⟨b',m',hloc',hb,H1⟩:=H.stepIter ho (p + (Utf8.decode ⟨s.toArray⟩ p).2)
        rw [hloc] at hloc'
        cases hloc'
        have hget:(getObj b).run P w=.ok (.stringIter ⟨s.toArray⟩ p) w:=by simp [getObj,Sem.run,hb]
        split at h
        · rename_i hlt
          have hlt':p < (⟨s.toArray⟩:ByteArray).size:=by rw [bytes_size]; exact hlt
          refine val ρ _ _ _ (.tuple #[.bool true,.int .i64 p,.int .i32 (Utf8.decode ⟨s.toArray⟩ p).1]) (s:=Instr.next (a.eval it) true type) ?_ (Gh.le_refl ρ) H1 ?_ h rfl
          · rw [hax]
            simp only [Instr.next,Sem.run_bind,hget,Result.andThen_ok,if_pos hlt']
            simp [setObj,Sem.run,hb,goInt]
          · have:=RelV.of_tuple (ρ:=ρ) (RelL.cons (mkBool ρ true) (RelL.cons (mkInt ρ .i64 p) (RelL.cons (mkInt ρ .i32 (Utf8.decode ⟨s.toArray⟩ p).1) (RelL.nil ρ))))
            exact this
        · rename_i hlt
          have hlt':¬ p < (⟨s.toArray⟩:ByteArray).size:=by rw [bytes_size]; exact hlt
          refine val ρ σ w _ (.tuple #[.bool false]) (s:=Instr.next (a.eval it) true type) ?_ (Gh.le_refl ρ) H ?_ h rfl
          · rw [hax]
            simp only [Instr.next,Sem.run_bind,hget,Result.andThen_ok,if_neg hlt',Sem.run_pure]
          · exact RelV.of_tuple (ρ:=ρ) (RelL.cons (mkBool ρ false) (RelL.nil ρ))
      · exact h.elim
    · exact h.elim
  ·
    rename_i it
    obtain ⟨σ',w',v,u,h1,h2,h3,h4⟩:=nextMap_sound H (ev_rel F it) type h
    exact val ρ σ' w' v u h1 (Gh.le_refl ρ) h2 h3 h4 rfl
  ·
    rename_i t r
    obtain ⟨ρ',σ',w',v,u,h1,h2,h3,h4,h5⟩:=makeMap_sound H (rv:=r.map a.eval) (by cases r with
      | none=>trivial
      | some x=>exact ev_rel F x) h
    exact val ρ' σ' w' v u h1 h2 h3 h4 h5 rfl
  ·
    rename_i t x k y
    obtain ⟨σ',w',h1,h2,h3⟩:=mapUpdate_sound H (ev_rel F x) (ev_rel F k) (ev_rel F y) h
    unfold Oper.wp
    have:(execOp a.eval { dst:=dst,op:=.mapUpdate t x k y,type:=type,pos:=pos,after:=after,guard:=guard }).run P w=.ok .skip w':=by
      simp only [execOp,Sem.run_bind,h1,Result.andThen_ok,Sem.run_pure]
    rw [this]
    exact hn ρ σ' w' .undef _ (Gh.le_refl ρ) h2 (.undef _) h3
  ·
    rename_i t x k y
    obtain ⟨σ',w',h1,h2,h3⟩:=mapUpdate_sound H (ev_rel F x) (ev_rel F k) (ev_rel F y) h
    unfold Oper.wp
    have:(execOp a.eval { dst:=dst,op:=.insert t x k y,type:=type,pos:=pos,after:=after,guard:=guard }).run P w=.ok .skip w':=by
      simp only [execOp,Sem.run_bind,h1,Result.andThen_ok,Sem.run_pure]
    rw [this]
    exact hn ρ σ' w' .undef _ (Gh.le_refl ρ) h2 (.undef _) h3
  ·
    rename_i x
    unfold panicD at h
    split at h
    · rename_i t b cs hx
      have hxv:=ev_rel F x
      rw [hx] at hxv
      obtain ⟨v,hax,hr⟩:=inv_iface hxv
      unfold Oper.wp
      have:(execOp a.eval { dst:=dst,op:=.panic x,type:=type,pos:=pos,after:=after,guard:=guard }).run P w=.halt (.panic (.iface t v)) w:=by
        simp only [execOp,hax,Instr.panic,Sem.run_bind,run_goPanic,Result.andThen_halt]
      rw [this]
      rw [hax] at hr
      exact hp ρ σ w _ _ (Gh.le_refl ρ) H hr h
    · exact h.elim
  ·
    rename_i op t x y ty
    have hflt:isArith op=true:=by
      have hf:isFlt P op t=true:=by simpa [isStill] using hns
      unfold isFlt at hf
      rw [Bool.and_eq_true] at hf
      exact hf.1
    unfold fbinD at h
    split at h
    · rename_i k p k' q hx hy
      obtain ⟨rfl,h⟩:=h
      have hxv:=ev_rel F x
      have hyv:=ev_rel F y
      rw [hx] at hxv
      rw [hy] at hyv
      have e1:=relFlt (x:=.undef) hxv
      have e2:=relFlt (x:=.undef) hyv
      have hg:(eqGuard op t x y (.float k p) (.float k q)).run P w=.ok () w:=by cases op <;> rfl
      split at h
      · rename_i r hr
        refine val ρ σ w (.pv (.float k r)) (.float k r) (s:=do eqGuard op t x y (a.eval x) (a.eval y); binOp op t (a.eval x) (a.eval y)) ?_ (Gh.le_refl ρ) H (mkFlt ..) h rfl
        rw [e1,e2]
        simp only [Sem.run_bind,hg,Result.andThen_ok]
        exact run_float_arith w op t k p q r hr
      · rename_i hr
        obtain ⟨n,w',h1,h2,h3⟩:=nan_run (P:=P) w op t k p q hflt hr
        refine val ρ σ w' (.pv (.float k n)) (.float k n) (s:=do eqGuard op t x y (a.eval x) (a.eval y); binOp op t (a.eval x) (a.eval y)) ?_ (Gh.le_refl ρ) (by rw [h2]; exact H.drawn _) (mkFlt ..) (h n h3) rfl
        rw [e1,e2]
        simp only [Sem.run_bind,hg,Result.andThen_ok]
        exact h1
    · exact h.elim
  ·
    rename_i r name args argTypes
    obtain ⟨g,az,us,hr,he,hx⟩:∃ (g:FuncId) (az:List AV) (us:List Value),RelL ρ az us/\env g az σ K X/\(execOp a.eval { dst:=dst,op:=.call { callee:=.invoke r name,args:=args,argTypes:=argTypes },type:=type,pos:=pos,after:=after,guard:=guard }).run P w=(callFunc g us.toArray).run P w:=by
      have hargs:=evs_rel F args.toList
      have hrv:=ev_rel F r
      unfold invokeD at h
      split at h
      · rename_i t b cs hrr
        rw [hrr] at hrv
        split at h
        · rename_i f hf
          have fin:∀ (v:Value) (av:AV),a.eval r=.iface t v->RelV ρ av v->env f (av :: evs fr args.toList) σ K X->∃ (g:FuncId) (az:List AV) (us:List Value),RelL ρ az us/\env g az σ K X/\(execOp a.eval { dst:=dst,op:=.call { callee:=.invoke r name,args:=args,argTypes:=argTypes },type:=type,pos:=pos,after:=after,guard:=guard }).run P w=(callFunc g us.toArray).run P w:=by
            intro v av e1 e2 e3
            refine ⟨f,_,v :: args.toList.map a.eval,.cons e2 hargs,e3,?_⟩
            have hm:=method_run (P:=P) (w:=w) hf v
            have hx0:(execOp a.eval { dst:=dst,op:=.call { callee:=.invoke r name,args:=args,argTypes:=argTypes },type:=type,pos:=pos,after:=after,guard:=guard })=callMethod (.iface t v) name (args.map a.eval):=by
              have q1:(#[Value.iface t v] ++ args.map a.eval)[0]?=some (.iface t v):=by rw [<- Array.getElem?_toList,Array.toList_append]; rfl
              have q2:(#[Value.iface t v] ++ args.map a.eval).extract 1 (#[Value.iface t v] ++ args.map a.eval).size=args.map a.eval:=by
                apply Array.ext'
                simp [List.take_of_length_le]
              show (do let d <- (pure { target:=.fn (.method name) #[],args:=#[a.eval r] ++ args.map a.eval }:Sem Deferred); invoke d.target d.args)=_
              rw [e1]
              show invoke (.fn (.method name) #[]) (#[Value.iface t v] ++ args.map a.eval)=_
              unfold invoke
              simp only [q1,q2]
            rw [hx0]
            simp only [callMethod,Sem.run_bind,run_program,Result.andThen_ok,hm]
            congr 2
            apply Array.ext'
            simp
          obtain ⟨v,e1,e2⟩:=inv_iface hrv
          split at h
          · rename_i p
            refine fin v (.pv p) e1 ?_ h
            rw [e1] at e2
            cases e2 with | ifaceOne _ _ _ hc=>exact .pv hc
          · refine fin v _ e1 ?_ h
            rw [e1] at e2
            cases e2 with | ifaceAgg _ _ vs hl hr=>exact RelV.of_agg (RelPL.toL ⟨hl,hr⟩)
          · exact h.elim
        · exact h.elim
      · exact h.elim
    rcases E g with E | E
    · obtain ⟨h1,h2⟩:=E w0 hS ρ σ w az us K X H hr he
      unfold Oper.wp
      rw [hx,h1,Oper.upon_enter]
      refine h2.mono fun e w' hh=>?_
      obtain ⟨ρ',σ',g1,g2,g3⟩:=hh
      cases e with
      | returned u=>obtain ⟨r,g4,g5⟩:=g3; exact hn ρ' σ' w' r u g1 g2 g4 g5
      | panicked ch =>
        obtain ⟨p,u,rfl,g4,g5⟩:=g3
        exact hp ρ' σ' w' p u g1 g2 g4 g5
      | outgrown=>exact g3.elim
    · obtain ⟨u,w',ρ',σ',r,h1,h2,h3,h4,h5⟩:=E w0 hS ρ σ w az us K X H hr he
      unfold Oper.wp
      rw [hx,h1]
      exact hn ρ' σ' w' r u h2 h3 h4 h5
  ·
    rename_i args argTypes
    split at h
    · rename_i s x t t' hargs htys
      have ea:args=#[s,x]:=by rw [<- Array.toList_inj,hargs]
      have et:argTypes=#[t,t']:=by rw [<- Array.toList_inj,htys]
      obtain ⟨ρ',σ',w',v,r,h1,h2,h3,h4,h5⟩:∃ ρ' σ' w' v r,(Builtin.append_ #[t,t'] type #[_,_]).run P w=.ok r w'/\ρ.le ρ'/\RelH w0 ρ' σ' w'/\RelV ρ' v r/\K v σ':=by
        by_cases htt:t=t'
        · subst htt
          have h2:appendD P (mu dst) σ t (ev fr s) (ev fr x) K:=by simpa using h
          exact append_sound H h2 (ev_rel F s) (ev_rel F x) type
        · have h2:appendStrD P (mu dst) σ t t' (ev fr s) (ev fr x) K:=by simpa [htt] using h
          exact appendStr_sound H h2 (ev_rel F s) (ev_rel F x) type
      refine val ρ' σ' w' v r h1 h2 h3 h4 h5 ?_
      subst ea; subst et
      have em:(#[s,x]:Array Operand).map a.eval=#[a.eval s,a.eval x]:=by simp
      simp only [execOp,resolve,invoke,builtin,pure_bind,em]
    · exact h.elim
  ·
    rename_i f args argTypes
    unfold callD at h
    have go:∀ (g:FuncId) (az:List AV) (us:List Value),RelL ρ az us->env g az σ K X->(execOp a.eval { dst:=dst,op:=.call { callee:=.value f,args:=args,argTypes:=argTypes },type:=type,pos:=pos,after:=after,guard:=guard })=callFunc g us.toArray ->
        Oper.wp P { dst:=dst,op:=.call { callee:=.value f,args:=args,argTypes:=argTypes },type:=type,pos:=pos,after:=after,guard:=guard } a w next Q:=by
      intro g az us hr he hx
      rcases E g with E | E
      · obtain ⟨h1,h2⟩:=E w0 hS ρ σ w az us K X H hr he
        unfold Oper.wp
        rw [hx,h1,Oper.upon_enter]
        refine h2.mono fun e w' hh=>?_
        obtain ⟨ρ',σ',g1,g2,g3⟩:=hh
        cases e with
        | returned u=>obtain ⟨r,g4,g5⟩:=g3; exact hn ρ' σ' w' r u g1 g2 g4 g5
        | panicked ch =>
          obtain ⟨p,u,rfl,g4,g5⟩:=g3
          exact hp ρ' σ' w' p u g1 g2 g4 g5
        | outgrown=>exact g3.elim
      · obtain ⟨u,w',ρ',σ',r,h1,h2,h3,h4,h5⟩:=E w0 hS ρ σ w az us K X H hr he
        unfold Oper.wp
        rw [hx,h1]
        exact hn ρ' σ' w' r u h2 h3 h4 h5
    have hargs:=evs_rel F args.toList
    split at h
    · rename_i g hg
      have hfv:=ev_rel F f
      rw [hg] at hfv
      have hax:=inv_func hfv
      refine go g _ _ hargs h ?_
      simp only [execOp,resolve,hax,Deferred.ofValue,invoke,pure_bind]
      congr 1
      apply Array.ext'
      simp
    · rename_i g first cap hg
      have hfv:=ev_rel F f
      rw [hg] at hfv
      obtain ⟨vs,us,hax,r1,r2⟩:=inv_clo hfv
      refine go g _ _ ((r1.append hargs).append r2) h ?_
      simp only [execOp,resolve,hax,Deferred.ofValue,invoke,pure_bind]
      congr 1
      apply Array.ext'
      simp
    · exact h.elim
  · exact h.elim
end
end Go.AD
