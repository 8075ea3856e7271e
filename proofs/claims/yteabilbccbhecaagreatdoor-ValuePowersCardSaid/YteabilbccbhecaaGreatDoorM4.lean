import Derived.Test.YteabilbccbhecaaGreatDoorM3
import Derived.Laws.IdiomCopy
import Derived.Deep.AppendSrc
set_option linter.unusedVariables false
set_option linter.unusedSimpArgs false
namespace Go.AD
open RowKit
section
variable {P:Program} {w0 w w':World} {ρ ρ':Gh} {σ:AS}
theorem objRel_blk {B:Nat} {id:Nat} {o:AObj} (h:ObjRel B ρ w id o):∃ b,blkOf ρ id o=some b/\B <= b/\b < w.heap.size:=by
  cases o with
  | cells cs var =>
    obtain ⟨b,p,m,cur,e,fz,hl,hB,hb,_⟩:=h
    exact ⟨b,by simp [blkOf,hl],hB,(Array.getElem?_eq_some_iff.1 hb).1⟩
  | front n size mk =>
    obtain ⟨b,p,cap,cur,e,fz,hl,hB,hb,_⟩:=h
    exact ⟨b,by simp [blkOf,hl],hB,(Array.getElem?_eq_some_iff.1 hb).1⟩
  | strIter s pos =>
    obtain ⟨b,m,hl,hB,hb,_⟩:=h
    exact ⟨b,by simp [blkOf,hl],hB,(Array.getElem?_eq_some_iff.1 hb).1⟩
  | builder l=>exact h.elim
  | mapO n es c =>
    obtain ⟨b,m,us,hl,hB,hb,_⟩:=h
    exact ⟨b,by simp [blkOf,hl],hB,(Array.getElem?_eq_some_iff.1 hb).1⟩
  | mapIt mi since seen =>
    obtain ⟨b,m,bm,mm,hl,hB,hb,_⟩:=h
    exact ⟨b,by simp [blkOf,hl],hB,(Array.getElem?_eq_some_iff.1 hb).1⟩
theorem objRel_keep {B:Nat} {id:Nat} {o:AObj} (h:ObjRel B ρ w id o) (hm:ρ.le ρ') (hk:∀ b,blkOf ρ id o=some b->w'.heap[b]?=w.heap[b]?/\(∀ p,ρ'.imm b p=ρ.imm b p)/\∀ k,ρ'.lin id k=ρ.lin id k) :
    ObjRel B ρ' w' id o/\blkOf ρ' id o=blkOf ρ id o:=by
  cases o with
  | cells cs var =>
    obtain ⟨b,p,m,cur,e,fz,hl,hB,hb,hf,hs,hle,hok,hr,hi,hvar⟩:=h
    obtain ⟨h1,h2,h3⟩:=hk b (by simp [blkOf,hl])
    have hl':=hm.loc _ _ hl
    exact ⟨⟨b,p,m,cur,e,fz,hl',hB,h1.trans hb,hf,hs,hle,hok,hr.mono hm,fun o' v hv=>hi o' v (by rw [<- h2]; exact hv),hvar⟩,by simp [blkOf,hl,hl']⟩
  | front n size mk =>
    obtain ⟨b,p,cap,cur,e,fz,hl,hB,hb,hf,hn,hc,hs,hi,hk',hmk⟩:=h
    obtain ⟨h1,h2,h3⟩:=hk b (by simp [blkOf,hl])
    have hl':=hm.lin _ _ _ hl
    exact ⟨⟨b,p,cap,cur,e,fz,hl',hB,h1.trans hb,hf,hn,hc,hs,fun hnc o' v hv=>hi hnc o' v (by rw [<- h2]; exact hv),fun k hk2=>(h3 k).trans (hk' k hk2),hmk⟩,by simp [blkOf,hl,hl']⟩
  | strIter s pos =>
    obtain ⟨b,m,hl,hB,hb,hi⟩:=h
    obtain ⟨h1,h2,h3⟩:=hk b (by simp [blkOf,hl])
    have hl':=hm.loc _ _ hl
    exact ⟨⟨b,m,hl',hB,h1.trans hb,fun o' v hv=>hi o' v (by rw [<- h2]; exact hv)⟩,by simp [blkOf,hl,hl']⟩
  | builder l=>exact h.elim
  | mapO n es c =>
    obtain ⟨b,m,us,hl,hB,hb,hi,hk1,hlen,hr⟩:=h
    obtain ⟨h1,h2,h3⟩:=hk b (by simp [blkOf,hl])
    have hl':=hm.loc _ _ hl
    exact ⟨⟨b,m,us,hl',hB,h1.trans hb,fun o' v hv=>hi o' v (by rw [<- h2]; exact hv),hk1,hlen,fun i e u he hu=>⟨(hr i e u he hu).1.mono hm,(hr i e u he hu).2.1.mono hm,(hr i e u he hu).2.2⟩⟩,by simp [blkOf,hl,hl']⟩
  | mapIt mi since seen =>
    obtain ⟨b,m,bm,mm,hl,hB,hb,hlm,hi⟩:=h
    obtain ⟨h1,h2,h3⟩:=hk b (by simp [blkOf,hl])
    have hl':=hm.loc _ _ hl
    exact ⟨⟨b,m,bm,mm,hl',hB,h1.trans hb,hm.loc _ _ hlm,fun o' v hv=>hi o' v (by rw [<- h2]; exact hv)⟩,by simp [blkOf,hl,hl']⟩
theorem RelH.keep (H:RelH w0 ρ σ w) (hm:ρ.le ρ') (hb:Below w0.heap.size w0 w') (hi:∀ b o v,ρ'.imm b o=some v->w'.cell? ⟨b,o,none⟩=some v)
    (hk:∀ id o b,σ id=some o->blkOf ρ id o=some b->w'.heap[b]?=w.heap[b]?/\(∀ p,ρ'.imm b p=ρ.imm b p)/\∀ k,ρ'.lin id k=ρ.lin id k)
    (hN:∃ N,∀ id,N <= id->ρ'.loc id=none/\(∀ n,ρ'.lin id n=none)/\σ id=none):RelH w0 ρ' σ w' where
  below:=hb
  imm:=hi
  base:=fun b o v hv=>hm.imm _ _ _ (H.base b o v hv)
  obj:=fun id o ho=>(objRel_keep (H.obj id o ho) hm (fun b hb=>hk id o b ho hb)).1
  apart:=fun id id' o o' ho ho' he=>by
    rw [(objRel_keep (H.obj id o ho) hm (fun b hb=>hk id o b ho hb)).2,(objRel_keep (H.obj id' o' ho') hm (fun b hb=>hk id' o' b ho' hb)).2] at he
    exact H.apart id id' o o' ho ho' he
  bound:=hN
theorem RelH.turn (H:RelH w0 ρ σ w) (hm:ρ.le ρ') (hb:Below w0.heap.size w0 w') (hi:∀ b o v,ρ'.imm b o=some v->w'.cell? ⟨b,o,none⟩=some v) (id:Nat) (o:AObj)
    (hk:∀ j oj b,j ≠ id->σ j=some oj->blkOf ρ j oj=some b->w'.heap[b]?=w.heap[b]?/\(∀ p,ρ'.imm b p=ρ.imm b p)/\∀ k,ρ'.lin j k=ρ.lin j k)
    (hnew:ObjRel w0.heap.size ρ' w' id o) (hap:∀ j oj,j ≠ id->σ j=some oj->blkOf ρ j oj ≠ blkOf ρ' id o)
    (hN:∃ N,∀ j,N <= j->ρ'.loc j=none/\(∀ n,ρ'.lin j n=none)/\(σ.set id o) j=none):RelH w0 ρ' (σ.set id o) w' where
  below:=hb
  imm:=hi
  base:=fun b o v hv=>hm.imm _ _ _ (H.base b o v hv)
  obj:=fun j oj ho=>by
    by_cases hj:j=id
    · subst hj
      rw [AS.set_same] at ho
      cases ho
      exact hnew
    · rw [AS.set_ne σ o hj] at ho
      exact (objRel_keep (H.obj j oj ho) hm (fun b hb=>hk j oj b hj ho hb)).1
  apart:=fun j j' oj oj' ho ho' he=>by
    by_cases hj:j=id
    · by_cases hj':j'=id
      · rw [hj,hj']
      · rw [AS.set_ne σ o hj'] at ho'
        rw [(objRel_keep (H.obj j' oj' ho') hm (fun b hb=>hk j' oj' b hj' ho' hb)).2] at he
        subst hj
        rw [AS.set_same] at ho
        cases ho
        exact absurd he.symm (hap j' oj' hj' ho')
    · rw [AS.set_ne σ o hj] at ho
      rw [(objRel_keep (H.obj j oj ho) hm (fun b hb=>hk j oj b hj ho hb)).2] at he
      by_cases hj':j'=id
      · subst hj'
        rw [AS.set_same] at ho'
        cases ho'
        exact absurd he (hap j oj hj ho)
      · rw [AS.set_ne σ o hj'] at ho'
        rw [(objRel_keep (H.obj j' oj' ho') hm (fun b hb=>hk j' oj' b hj' ho' hb)).2] at he
        exact H.apart j j' oj oj' ho ho' he
  bound:=hN
def Gh.ext (ρ:Gh) (b o:Nat) (vs:List Value):Gh:={ ρ with imm:=fun b' o'=>if b'=b/\o <= o'/\o' < o + vs.length then vs[o' - o]? else ρ.imm b' o' }
def Gh.withLoc (ρ:Gh) (id:Nat) (x:Nat × Nat × Nat):Gh:={ ρ with loc:=fun i=>if i=id then some x else ρ.loc i }
def Gh.withLin (ρ:Gh) (id n:Nat) (x:Addr × Nat):Gh:={ ρ with lin:=fun i k=>if i=id/\k=n then some x else ρ.lin i k }
theorem Gh.le_ext {b o:Nat} {vs:List Value} (h:∀ o' v,ρ.imm b o'=some v->¬ (o <= o'/\o' < o + vs.length)):ρ.le (ρ.ext b o vs) :=
  ⟨fun b' o' v hv=>by
    simp only [Gh.ext]
    rw [if_neg (fun hc=>by obtain ⟨rfl,hc⟩:=hc; exact h _ _ hv hc)]
    exact hv,fun _ _ h=>h,fun _ _ _ h=>h⟩
theorem Gh.le_withLoc {id:Nat} {x:Nat × Nat × Nat} (h:ρ.loc id=none):ρ.le (ρ.withLoc id x) :=
  ⟨fun _ _ _ h=>h,fun i y hy=>by
    simp only [Gh.withLoc]
    rw [if_neg (fun hc=>by subst hc; rw [h] at hy; cases hy)]
    exact hy,fun _ _ _ h=>h⟩
theorem Gh.le_withLin {id n:Nat} {x:Addr × Nat} (h:ρ.lin id n=none):ρ.le (ρ.withLin id n x) :=
  ⟨fun _ _ _ h=>h,fun _ _ h=>h,fun i k y hy=>by
    simp only [Gh.withLin]
    rw [if_neg (fun hc=>by obtain ⟨rfl,rfl⟩:=hc; rw [h] at hy; cases hy)]
    exact hy⟩
theorem Gh.ext_at (ρ:Gh) (b o:Nat) (vs:List Value):ImmAt (ρ.ext b o vs).imm b o vs:=by
  intro i hi
  simp only [Gh.ext]
  rw [if_pos ⟨trivial,by omega,by omega⟩,Nat.add_sub_cancel_left,List.getD_eq_getElem?_getD,List.getElem?_eq_getElem hi]
  rfl
theorem Gh.ext_other (ρ:Gh) (b o:Nat) (vs:List Value) {b':Nat} (h:b' ≠ b) (p:Nat):(ρ.ext b o vs).imm b' p=ρ.imm b' p:=by
  simp only [Gh.ext]
  rw [if_neg (fun hc=>h hc.1)]
theorem Gh.ext_inv {b o:Nat} {vs:List Value} {b' p:Nat} {v:Value} (h:(ρ.ext b o vs).imm b' p=some v):(b'=b/\o <= p/\p < o + vs.length/\vs[p - o]?=some v) \/ ρ.imm b' p=some v:=by
  simp only [Gh.ext] at h
  split at h
  · rename_i hc; exact .inl ⟨hc.1,hc.2.1,hc.2.2,h⟩
  · exact .inr h
theorem RelH.imm_lt (H:RelH w0 ρ σ w) {b o:Nat} {v:Value} (h:ρ.imm b o=some v):b < w.heap.size:=World.block_lt_of_cell? w _ (H.imm _ _ _ h)
theorem RelH.blk_lt (H:RelH w0 ρ σ w) {id:Nat} {o:AObj} {b:Nat} (ho:σ id=some o) (hb:blkOf ρ id o=some b):b < w.heap.size:=by
  obtain ⟨b',h1,_,h2⟩:=objRel_blk (H.obj id o ho)
  rw [hb] at h1
  cases h1
  exact h2
theorem RelH.alloc_imm (H:RelH w0 ρ σ w) (ob:Obj):∀ b o v,ρ.imm b o=some v->(w.alloc ob).cell? ⟨b,o,none⟩=some v:=fun b o v h=>by
  have hlt:=H.imm_lt h
  have:=H.imm _ _ _ h
  rw [World.cell?_of_block (w:=w) (Below.heap_alloc w ob b hlt)]
  exact this
theorem RelH.le_size (H:RelH w0 ρ σ w):w0.heap.size <= w.heap.size:=H.below.size
theorem RelH.fresh (H:RelH w0 ρ σ w):∃ id,ρ.loc id=none/\(∀ n,ρ.lin id n=none)/\σ id=none:=by
  obtain ⟨N,hN⟩:=H.bound
  exact ⟨N,hN N (Nat.le_refl _)⟩
theorem RelH.bound_set (H:RelH w0 ρ σ w) (id:Nat) (o:AObj) (f:Gh->Gh) (hf:∀ j,id < j->ρ.loc j=none->(∀ n,ρ.lin j n=none)->(f ρ).loc j=none/\∀ n,(f ρ).lin j n=none) :
    ∃ N,∀ j,N <= j->(f ρ).loc j=none/\(∀ n,(f ρ).lin j n=none)/\(σ.set id o) j=none:=by
  obtain ⟨N,hN⟩:=H.bound
  refine ⟨max N (id + 1),fun j hj=>?_⟩
  obtain ⟨h1,h2,h3⟩:=hN j (by omega)
  obtain ⟨h4,h5⟩:=hf j (by omega) h1 h2
  exact ⟨h4,h5,by rw [AS.set_ne σ o (by omega)]; exact h3⟩
theorem RelH.newCells (H:RelH w0 ρ σ w) (cur:Array Value) (e:TypeId) (fz:Nat × Nat) (hfz:NoFz fz cur.size) (cs:List AV) (hle:cs.length <= cur.size) (hr:RelL ρ cs (cur.toList.take cs.length)) (hok:cs.all AV.cellOk=true) (var:Option TypeId) (hvar:∀ t,var=some t->e=t/\cur.size=cs.length) :
    ∃ id ρ',σ id=none/\ρ.loc id=none/\ρ.le ρ'/\ρ'.loc id=some (w.heap.size,0,cur.size)/\RelH w0 ρ' (σ.set id (.cells cs var)) (w.alloc (.cells cur e fz)):=by
  obtain ⟨id,h1,h2,h3⟩:=H.fresh
  have hle':ρ.le (ρ.withLoc id (w.heap.size,0,cur.size)):=Gh.le_withLoc h1
  have hloc:(ρ.withLoc id (w.heap.size,0,cur.size)).loc id=some (w.heap.size,0,cur.size):=by simp [Gh.withLoc]
  refine ⟨id,ρ.withLoc id (w.heap.size,0,cur.size),h3,h1,hle',hloc,?_⟩
  refine H.turn hle' (H.below.alloc H.le_size _) (fun b o v hv=>H.alloc_imm _ b o v hv) id _ ?_ ?_ ?_ ?_
  · intro j oj b hj ho hb
    exact ⟨Below.heap_alloc w _ b (H.blk_lt ho hb),fun _=>rfl,fun _=>rfl⟩
  · refine ⟨w.heap.size,0,cur.size,cur,e,fz,hloc,H.le_size,heap_alloc_new w _,hfz,rfl,by omega,hok,?_,?_,fun t ht=>⟨(hvar t ht).1,rfl,(hvar t ht).2⟩⟩
    · simpa using hr.mono hle'
    · intro o' v hv
      exact absurd (H.imm_lt hv) (Nat.lt_irrefl _)
  · intro j oj hj ho he
    obtain ⟨b,hb,_,hlt⟩:=objRel_blk (H.obj j oj ho)
    rw [hb] at he
    simp [blkOf,hloc] at he
    omega
  · exact H.bound_set id _ (fun ρ=>ρ.withLoc id (w.heap.size,0,cur.size)) (fun j hj h4 h5=>⟨by simp only [Gh.withLoc]; rw [if_neg (by omega)]; exact h4,h5⟩)
theorem RelH.newImm (H:RelH w0 ρ σ w) (cur:Array Value) (e:TypeId) (fz:Nat × Nat) (vs:List Value) (hvs:∀ (i:Nat) v,vs[i]?=some v->cur[i]?=some v) :
    ρ.le (ρ.ext w.heap.size 0 vs)/\RelH w0 (ρ.ext w.heap.size 0 vs) σ (w.alloc (.cells cur e fz)):=by
  have hle:ρ.le (ρ.ext w.heap.size 0 vs):=Gh.le_ext fun o' v hv=>absurd (H.imm_lt hv) (Nat.lt_irrefl _)
  refine ⟨hle,H.keep hle (H.below.alloc H.le_size _) ?_ ?_ H.bound⟩
  · intro b o v hv
    rcases Gh.ext_inv hv with ⟨rfl,h1,h2,h3⟩ | hv
    · rw [cell_of_row _ _ o cur e fz (heap_alloc_new w _)]
      exact hvs o v (by simpa using h3)
    · exact H.alloc_imm _ b o v hv
  · intro id o b ho hb
    have:=H.blk_lt ho hb
    exact ⟨Below.heap_alloc w _ b this,fun p=>Gh.ext_other ρ _ _ _ (by omega) p,fun _=>rfl⟩
theorem RelH.newLine (H:RelH w0 ρ σ w) (b:Nat) (hb:w0.heap.size <= b) (cur:Array Value) (e:TypeId) (fz:Nat × Nat) (hw:w.heap[b]?=some (.cells cur e fz)) (hfz:NoFz fz cur.size)
    (o n cap size:Nat) (hn:n <= cap) (hc:cap <= maxLen) (hs:o + cap * size <= cur.size) (hi:n < cap->∀ o' v,ρ.imm b o'=some v->o' < o + n * size)
    (hap:∀ j oj,σ j=some oj->blkOf ρ j oj ≠ some b) (mk:Option TypeId) (hmk:∀ e',mk=some e'->e=e'/\o=0) :
    ∃ id ρ',σ id=none/\(∀ k,ρ.lin id k=none)/\ρ.le ρ'/\ρ'.lin id n=some (⟨b,o,none⟩,cap)/\RelH w0 ρ' (σ.set id (.front n size mk)) w:=by
  obtain ⟨id,h1,h2,h3⟩:=H.fresh
  have hle:ρ.le (ρ.withLin id n (⟨b,o,none⟩,cap)):=Gh.le_withLin (h2 n)
  have hlin:(ρ.withLin id n (⟨b,o,none⟩,cap)).lin id n=some (⟨b,o,none⟩,cap):=by simp [Gh.withLin]
  refine ⟨id,_,h3,h2,hle,hlin,H.turn hle H.below H.imm id _ (fun j oj b hj ho hb=>⟨rfl,fun _=>rfl,fun k=>by simp only [Gh.withLin]; rw [if_neg (fun hc=>hj hc.1)]⟩) ⟨b,o,cap,cur,e,fz,hlin,hb,hw,hfz,hn,hc,hs,hi,fun k hk=>by simp only [Gh.withLin]; rw [if_neg (by omega)]; exact h2 k,hmk⟩ ?_ ?_⟩
  · intro j oj hj ho he
    simp only [blkOf,hlin,Option.map_some] at he
    exact hap j oj ho he
  · exact H.bound_set id _ (fun ρ=>ρ.withLin id n (⟨b,o,none⟩,cap)) (fun j hj h4 h5=>⟨h4,fun k=>by simp only [Gh.withLin]; rw [if_neg (by omega)]; exact h5 k⟩)
end
end Go.AD

set_option linter.unusedVariables false
set_option linter.unusedSimpArgs false
namespace Go.AD
open RowKit
section
variable {P:Program} {w0 w w':World} {ρ ρ':Gh} {σ:AS}
theorem frozen_no {b p:Nat} {cur:Array Value} {e:TypeId} {fz:Nat × Nat} (hb:w.heap[b]?=some (.cells cur e fz)) (hf:NoFz fz cur.size) (hp:p < cur.size):w.frozen? ⟨b,p,none⟩=false:=by
  obtain ⟨lo,hi⟩:=fz
  have:=hf p hp
  simp only [World.frozen?,hb]
  simp only [Bool.and_eq_false_iff,decide_eq_false_iff_not]
  omega
theorem heap_setCell_at {b p:Nat} {cur:Array Value} {e:TypeId} {fz:Nat × Nat} (hb:w.heap[b]?=some (.cells cur e fz)) (u:Value) :
    (w.setCell ⟨b,p,none⟩ u).heap[b]?=some (.cells (cur.setIfInBounds p u) e fz):=by
  simp [World.setCell,Array.getElem?_modify,hb]
theorem heap_setCells:∀ (us:List Value) (p:Nat) (cur:Array Value) (w:World) (b:Nat) (e:TypeId) (fz:Nat × Nat),w.heap[b]?=some (.cells cur e fz) ->
    (w.setCells b p us).heap[b]?=some (.cells (setV cur.toList p us).toArray e fz)
  | [],p,cur,w,b,e,fz,hb=>by simpa [World.setCells,setV] using hb
  | u :: us,p,cur,w,b,e,fz,hb=>by
    rw [World.setCells,heap_setCells us (p + 1) _ _ b e fz (heap_setCell_at hb u),setV]
    simp
theorem setCells_other:∀ (us:List Value) (p:Nat) (w:World) (b k:Nat),k ≠ b->(w.setCells b p us).heap[k]?=w.heap[k]?
  | [],p,w,b,k,h=>rfl
  | u :: us,p,w,b,k,h=>by rw [World.setCells,setCells_other us (p + 1) _ b k h,Below.heap_setCell w ⟨b,p,none⟩ u k h]
theorem below_setCells {B:Nat}:∀ (us:List Value) (p:Nat) (w:World) (b:Nat),Below B w0 w->B <= b->Below B w0 (w.setCells b p us)
  | [],p,w,b,h,hb=>h
  | u :: us,p,w,b,h,hb=>below_setCells us (p + 1) _ b (h.setCell (p:=⟨b,p,none⟩) hb u) hb
theorem setV_drop:∀ (us vs:List Value) (o off:Nat),(setV vs (o + off) us).drop o=setV (vs.drop o) off us
  | [],vs,o,off=>rfl
  | u :: us,vs,o,off=>by rw [setV,setV,Nat.add_assoc,setV_drop us _ o (off + 1),List.set_drop]
theorem setV_take:∀ (us vs:List Value) (n off:Nat),(setV vs off us).take n=setV (vs.take n) off us
  | [],vs,n,off=>rfl
  | u :: us,vs,n,off=>by rw [setV,setV,setV_take us,List.take_set]
theorem store_sound (H:RelH w0 ρ σ w) {t:TypeId} {x v:AV} {K:AS->Prop} (h:storeD P σ t x v K) {u y:Value} (hu:RelV ρ x u) (hv:RelV ρ v y) :
    ∃ σ' w',(Instr.storeAt t u y).run P w=.ok () w'/\RelH w0 ρ σ' w'/\K σ':=by
  obtain ⟨ht,hsz,hok,h⟩:=h
  split at h
  · rename_i id off
    split at h
    · rename_i cs var ho
      obtain ⟨hle,hK⟩:=h
      obtain ⟨b,o,m,cur,e,fz,hl,hB,hb,hf,hm,hle2,hok2,hr,hi,hvar⟩:=H.obj id _ ho
      obtain ⟨b',o',m',rfl,hl'⟩:=inv_addr hu
      rw [hl] at hl'
      cases hl'
      have hvr:=cells_rel hv hok
      have hlen:y.cells.toList.length=v.cells.length:=hvr.1
      have hone:=all_one hvr hok
      have hst:=run_storeCells_cells (P:=P) b (o + off) y.cells.toList 0 w
        (fun j hj=>by
          rw [cell_of_row w b _ cur e fz hb]
          have:o + off + j < cur.size:=by omega
          simp [this])
        (fun j hj=>frozen_no hb hf (by omega)) hone
      rw [Nat.add_zero] at hst
      refine ⟨_,w.setCells b (o + off) y.cells.toList,?_,?_,hK⟩
      · have hs:y.cells.size=szOf P t:=by have:=hlen; simp at this; omega
        simp [Instr.storeAt,Instr.sureAddr,storeVar,run_size (hasT_inf ht),hs,hst]
      · have hhb:=heap_setCells y.cells.toList (o + off) cur w b e fz hb
        refine H.turn (Gh.le_refl ρ) (below_setCells _ _ _ _ H.below hB) ?_ id _ ?_ ?_ ?_ ?_
        · intro b' p v' hv'
          have hne:b' ≠ b:=fun he=>by subst he; exact hi _ _ hv'
          rw [World.cell?_of_block (w:=w) (setCells_other _ _ w b b' hne)]
          exact H.imm _ _ _ hv'
        · intro j oj b' hj hoj hb'
          refine ⟨setCells_other _ _ w b b' (fun he=>?_),fun _=>rfl,fun _=>rfl⟩
          subst he
          exact hj (H.apart j id oj _ hoj ho (by rw [hb']; simp [blkOf,hl]))
        · refine ⟨b,o,m,_,e,fz,hl,hB,hhb,?_,?_,?_,?_,?_,hi,fun t ht=>⟨(hvar t ht).1,(hvar t ht).2.1,by rw [setAll_length,<- (hvar t ht).2.2]; simp [setV_length]⟩⟩
          · simpa [setV_length] using hf
          · simpa [setV_length] using hm
          · rw [setAll_length]; exact hle2
          · have:∀ (ds cs:List AV) (q:Nat),cs.all AV.cellOk=true->ds.all AV.cellOk=true->(setAll cs q ds).all AV.cellOk=true:=by
              intro ds
              induction ds with
              | nil=>intro cs q h1 _; exact h1
              | cons d ds ih =>
                intro cs q h1 h2
                simp only [List.all_cons,Bool.and_eq_true] at h2
                refine ih _ _ ?_ h2.2
                rw [List.all_eq_true] at h1 ⊢
                intro z hz
                rcases List.mem_or_eq_of_mem_set hz with hz | rfl
                · exact h1 z hz
                · exact h2.1
            exact this _ _ _ hok2 hok
          · rw [setAll_length]
            have e1:(setV cur.toList (o + off) y.cells.toList).toArray.toList=setV cur.toList (o + off) y.cells.toList:=by simp
            rw [e1,setV_drop,setV_take]
            exact setAll_rel off hvr hr
        · intro j oj hj hoj he
          exact hj (H.apart j id oj _ hoj ho (by rw [he]; simp [blkOf]))
        · exact H.bound_set id _ (fun ρ=>ρ) (fun j _ h4 h5=>⟨h4,h5⟩)
    · exact h.elim
  · exact h.elim
theorem pv_one {imm:Nat->Nat->Option Value} {cs:List PV} {vs:List Value} (h:RelPL imm cs vs):∀ u ∈ vs,u.oneCell'=true:=by
  intro u hu
  obtain ⟨i,hi,rfl⟩:=List.mem_iff_getElem.1 hu
  have hi':i < cs.length:=by rw [<- h.1]; exact hi
  have:=h.2 i hi'
  rw [List.getD_eq_getElem?_getD,List.getElem?_eq_getElem hi] at this
  simp only [Option.getD_some] at this
  generalize vs[i]=x at this ⊢
  generalize cs[i]=y at this
  cases this <;> rfl
theorem map_ok (cs:List PV):(cs.map AV.pv).all AV.cellOk=true:=by simp [AV.cellOk]
theorem newRow_sound (H:RelH w0 ρ σ w) {mu:Bool} {n size:Nat} {cs:List AV} {K:AV->AS->Prop} (e:TypeId) (h:newRowD mu σ n size e cs K) (cur:Array Value) (fz:Nat × Nat) (hfz:NoFz fz cur.size)
    (vs:List Value) (hr:RelL ρ cs vs) (hcv:cur.toList.take cs.length=vs) (hlen:cs.length=n * size) (cap:Nat) (hn:n <= cap) (hc:cap <= maxLen) (hs:cap * size <= cur.size) :
    ∃ ρ' σ' v,ρ.le ρ'/\RelH w0 ρ' σ' (w.alloc (.cells cur e fz))/\RelV ρ' v (.slice (some ⟨w.heap.size,0,none⟩) n cap)/\K v σ':=by
  have hnc:n * size <= cap * size:=Nat.mul_le_mul_right _ hn
  unfold newRowD at h
  split at h
  · obtain ⟨hok,hK⟩:=h
    obtain ⟨id,ρ',h1,_,h2,h3,h4⟩:=H.newCells cur e fz hfz cs (by omega) (by rw [hcv]; exact hr) hok none (fun t ht=>by cases ht)
    exact ⟨ρ',_,_,h2,h4,.msl id 0 n size w.heap.size 0 cur.size cap h3 hn hc (by omega),hK id h1⟩
  · split at h
    · rename_i ps hp
      have hpl:=toPVs_rel hr hp
      have hpn:ps.length=cs.length:=by rw [<- hpl.1,hr.1]
      have hcur:∀ (i:Nat) v,vs[i]?=some v->cur[i]?=some v:=fun i v hv=>by
        rw [<- hcv,List.getElem?_take] at hv
        split at hv
        · simpa using hv
        · cases hv
      obtain ⟨hle,H1⟩:=H.newImm cur e fz vs hcur
      obtain ⟨id,ρ2,h1,_,h2,h3,h4⟩:=H1.newLine w.heap.size H.le_size cur e fz (heap_alloc_new w _) hfz 0 n cap size hn hc (by omega)
        (fun _ o' v hv=>by
          rcases Gh.ext_inv hv with ⟨_,_,h3,_⟩ | hv
          · have:=hr.1; omega
          · exact absurd (H.imm_lt hv) (Nat.lt_irrefl _))
        (fun j oj hj he=>by
          have he':blkOf ρ j oj=some w.heap.size:=by
            obtain ⟨b,hb,_,hlt⟩:=objRel_blk (H.obj j oj hj)
            have:=(objRel_keep (H.obj j oj hj) hle (w':=w.alloc (.cells cur e fz)) (fun b hb=>by
              have:=H.blk_lt hj hb
              exact ⟨Below.heap_alloc w _ b this,fun p=>Gh.ext_other ρ _ _ _ (by omega) p,fun _=>rfl⟩)).2
            rw [this] at he
            exact he
          exact absurd (H.blk_lt hj he') (Nat.lt_irrefl _)) (some e) (fun e' he=>⟨Option.some.inj he,rfl⟩)
      refine ⟨ρ2,_,_,Gh.le_trans hle h2,h4,.grow id n ps w.heap.size 0 cap vs h3 hn hpl.1 ?_ ?_,h id h1⟩
      · intro i hi
        exact h2.imm _ _ _ (Gh.ext_at ρ w.heap.size 0 vs i hi)
      · intro i hi
        exact ((hpl.2 i hi).mono hle.imm).mono h2.imm
    · exact h.elim
end
end Go.AD

set_option linter.unusedVariables false
set_option linter.unusedSimpArgs false
namespace Go.AD
open RowKit
section
variable {P:Program} {w0 w w':World} {ρ ρ':Gh} {σ:AS}
theorem rel_map {cs:List PV} {vs:List Value} (h:RelPL ρ.imm cs vs):RelL ρ (cs.map .pv) vs:=h.toL
theorem RelPL.append {imm:Nat->Nat->Option Value} {cs ds:List PV} {vs us:List Value} (h:RelPL imm cs vs) (k:RelPL imm ds us):RelPL imm (cs ++ ds) (vs ++ us):=by
  have h1:=RelPL.toL (ρ:=⟨imm,fun _=>none,fun _ _=>none⟩) h
  have h2:=RelPL.toL (ρ:=⟨imm,fun _=>none,fun _ _=>none⟩) k
  have:=h1.append h2
  rw [<- List.map_append] at this
  exact RelPL.of_L this
theorem nofz_zero (m:Nat):NoFz (0,0) m:=fun i _ h=>by omega
theorem AS.del_sub (σ:AS) (id:Nat):(σ.del id).sub σ:=fun i o h=>by
  unfold AS.del at h
  split at h
  · cases h
  · exact h
theorem RelH.grown (H:RelH w0 ρ σ w) {id n size:Nat} {mk mk2:Option TypeId} (ho:σ id=some (.front n size mk)) (hmk2:∀ e',mk2=some e'->mk=some e') {b o cap:Nat} (hl:ρ.lin id n=some (⟨b,o,none⟩,cap)) (m:Nat) (hm:0 < m) (hroom:n + m <= cap) (vs:List Value) (hv:vs.length=m * size) :
    ∃ ρ',ρ.le ρ'/\ρ'.lin id (n + m)=some (⟨b,o,none⟩,cap)/\ImmAt ρ'.imm b (o + n * size) vs/\RelH w0 ρ' (σ.set id (.front (n + m) size mk2)) (w.setCells b (o + n * size) vs):=by
  obtain ⟨b',o',cap',cur,e,fz,hl',hB,hb,hf,hnc,hc,hs,hi,hk,hmk⟩:=H.obj id _ ho
  rw [hl] at hl'
  cases hl'
  have hnlt:n < cap:=by omega
  have hle1:ρ.le (ρ.ext b (o + n * size) vs):=Gh.le_ext fun p v hv=>by have:=hi hnlt p v hv; omega
  have hle2:(ρ.ext b (o + n * size) vs).le ((ρ.ext b (o + n * size) vs).withLin id (n + m) (⟨b,o,none⟩,cap)):=Gh.le_withLin (hk _ (by omega))
  have hlin:((ρ.ext b (o + n * size) vs).withLin id (n + m) (⟨b,o,none⟩,cap)).lin id (n + m)=some (⟨b,o,none⟩,cap):=by simp [Gh.withLin]
  have hhb:=heap_setCells vs (o + n * size) cur w b e fz hb
  have hfit:n * size + m * size <= cap * size:=by rw [<- Nat.add_mul]; exact Nat.mul_le_mul_right _ hroom
  refine ⟨_,Gh.le_trans hle1 hle2,hlin,fun i hi=>Gh.ext_at ρ b _ vs i hi,?_⟩
  refine H.turn (Gh.le_trans hle1 hle2) (below_setCells _ _ _ _ H.below hB) ?_ id _ ?_ ?_ ?_ ?_
  · intro b' p v hv'
    rcases Gh.ext_inv (show (ρ.ext b (o + n * size) vs).imm b' p=some v from hv') with ⟨rfl,h1,h2,h3⟩ | hq
    · rw [cell_of_row _ _ p _ e fz hhb]
      have:(setV cur.toList (o + n * size) vs)[p]?=some v:=by
        rw [setV_eq _ _ _ (by simp; omega)]
        rw [List.append_assoc,List.getElem?_append_right (by simp; omega),List.getElem?_append_left (by simp; omega)]
        rw [<- h3]
        congr 1
        simp
        omega
      simpa using this
    · by_cases hbb:b'=b
      · subst hbb
        rw [cell_of_row _ _ p _ e fz hhb]
        have hp:=hi hnlt p v hq
        have hc0:=H.imm _ _ _ hq
        rw [cell_of_row _ _ p _ e fz hb] at hc0
        have:(setV cur.toList (o + n * size) vs)[p]?=some v:=by
          rw [setV_eq _ _ _ (by simp; omega)]
          rw [List.append_assoc,List.getElem?_append_left (by simp; omega),List.getElem?_take,if_pos hp]
          simpa using hc0
        simpa using this
      · rw [World.cell?_of_block (w:=w) (setCells_other _ _ w b b' hbb)]
        exact H.imm _ _ _ hq
  · intro j oj b' hj hoj hb'
    have hne:b' ≠ b:=fun he=>by
      subst he
      exact hj (H.apart j id oj _ hoj ho (by rw [hb']; simp [blkOf,hl]))
    exact ⟨setCells_other _ _ w b b' hne,fun p=>Gh.ext_other ρ _ _ _ hne p,fun k=>by simp only [Gh.withLin]; rw [if_neg (fun hc=>hj hc.1)]; rfl⟩
  · refine ⟨b,o,cap,_,e,fz,hlin,hB,hhb,?_,hroom,hc,?_,?_,?_,fun e' he=>hmk e' (hmk2 e' he)⟩
    · simpa [setV_length] using hf
    · simpa [setV_length] using hs
    · intro _ p v hv'
      rw [Nat.add_mul]
      rcases Gh.ext_inv (show (ρ.ext b (o + n * size) vs).imm b p=some v from hv') with ⟨_,h1,h2,_⟩ | hv'
      · omega
      · have:=hi hnlt p v hv'; omega
    · intro k hk2
      simp only [Gh.withLin]
      rw [if_neg (by omega)]
      exact hk k (by omega)
  · intro j oj hj hoj he
    exact hj (H.apart j id oj _ hoj ho (by rw [he]; simp only [blkOf,hlin,hl,Option.map_some]))
  · exact H.bound_set id _ (fun ρ=>(ρ.ext b (o + n * size) vs).withLin id (n + m) (⟨b,o,none⟩,cap)) (fun j hj h4 h5=>⟨h4,fun k=>by simp only [Gh.withLin]; rw [if_neg (by omega)]; exact h5 k⟩)
theorem RelH.moved (H:RelH w0 ρ σ w) {id n size:Nat} {mk mk2:Option TypeId} (ho:σ id=some (.front n size mk)) (m:Nat) (hm:0 < m) (cur:Array Value) (e:TypeId) (cap:Nat) (hn:n + m <= cap) (hc:cap <= maxLen) (hs:cap * size <= cur.size)
    (vs:List Value) (hv:vs.length=(n + m) * size) (hcv:cur.toList.take vs.length=vs) (hmk2:∀ e',mk2=some e'->e=e') :
    ∃ ρ',ρ.le ρ'/\ρ'.lin id (n + m)=some (⟨w.heap.size,0,none⟩,cap)/\ImmAt ρ'.imm w.heap.size 0 vs/\RelH w0 ρ' (σ.set id (.front (n + m) size mk2)) (w.alloc (.cells cur e (0,0))):=by
  obtain ⟨b',o',cap',cur',e',fz',hl',hB,hb,hf,hnc,hc',hs',hi,hk,hmk⟩:=H.obj id _ ho
  have hcur:∀ (i:Nat) v,vs[i]?=some v->cur[i]?=some v:=fun i v hv=>by
    rw [<- hcv,List.getElem?_take] at hv
    split at hv
    · simpa using hv
    · cases hv
  obtain ⟨hle1,H1⟩:=H.newImm cur e (0,0) vs hcur
  have hle2:(ρ.ext w.heap.size 0 vs).le ((ρ.ext w.heap.size 0 vs).withLin id (n + m) (⟨w.heap.size,0,none⟩,cap)):=Gh.le_withLin (hk _ (by omega))
  have hlin:((ρ.ext w.heap.size 0 vs).withLin id (n + m) (⟨w.heap.size,0,none⟩,cap)).lin id (n + m)=some (⟨w.heap.size,0,none⟩,cap):=by simp [Gh.withLin]
  refine ⟨_,Gh.le_trans hle1 hle2,hlin,fun i hi=>Gh.ext_at ρ _ 0 vs i hi,?_⟩
  refine H.turn (Gh.le_trans hle1 hle2) (H.below.alloc H.le_size _) H1.imm id _ ?_ ?_ ?_ ?_
  · intro j oj b hj hoj hbj
    have:=H.blk_lt hoj hbj
    exact ⟨Below.heap_alloc w _ b this,fun p=>Gh.ext_other ρ _ _ _ (by omega) p,fun k=>by simp only [Gh.withLin]; rw [if_neg (fun hc=>hj hc.1)]; rfl⟩
  · refine ⟨w.heap.size,0,cap,cur,e,(0,0),hlin,H.le_size,heap_alloc_new w _,nofz_zero _,hn,hc,by omega,?_,?_,fun e' he=>⟨hmk2 e' he,rfl⟩⟩
    · intro _ p v hv'
      rcases Gh.ext_inv (show (ρ.ext w.heap.size 0 vs).imm w.heap.size p=some v from hv') with ⟨_,_,h2,_⟩ | hv'
      · omega
      · exact absurd (H.imm_lt hv') (Nat.lt_irrefl _)
    · intro k hk2
      simp only [Gh.withLin]
      rw [if_neg (by omega)]
      exact hk k (by omega)
  · intro j oj hj hoj he
    obtain ⟨b,hbj,_,hlt⟩:=objRel_blk (H.obj j oj hoj)
    rw [hbj] at he
    simp only [blkOf,hlin,Option.map_some,Option.some.injEq] at he
    omega
  · exact H.bound_set id _ (fun ρ=>(ρ.ext w.heap.size 0 vs).withLin id (n + m) (⟨w.heap.size,0,none⟩,cap)) (fun j hj h4 h5=>⟨h4,fun k=>by simp only [Gh.withLin]; rw [if_neg (by omega)]; exact h5 k⟩)
theorem RelH.regrown (H:RelH w0 ρ σ w) {id:Nat} {cs:List AV} {var:Option TypeId} (ho:σ id=some (.cells cs var)) {b o mm off n size cap m:Nat} (hl:ρ.loc id=some (b,o,mm)) (hfit:o + off + cap * size <= mm) (hroom:n + m <= cap) (hcl:cs.length=off + n * size)
    {ds:List AV} {vs:List Value} (hv:vs.length=m * size) (hd:RelL ρ ds vs) (hdo:ds.all AV.cellOk=true) :
    ∃ id2 ρ',σ id2=none/\ρ.le ρ'/\ρ'.loc id2=some (b,o + off,mm)/\RelH w0 ρ' ((σ.del id).set id2 (.cells (cs.drop off ++ ds) none)) (w.setCells b (o + off + n * size) vs):=by
  obtain ⟨b',o',m',cur,e,fz,hl',hB,hb,hf,hms,hle,hok,hr,hi,_⟩:=H.obj id _ ho
  rw [hl] at hl'
  cases hl'
  obtain ⟨id2,f1,f2,f3⟩:=H.fresh
  have Hd:=H.sub (AS.del_sub σ id)
  have hle':ρ.le (ρ.withLoc id2 (b,o + off,mm)):=Gh.le_withLoc f1
  have hloc:(ρ.withLoc id2 (b,o + off,mm)).loc id2=some (b,o + off,mm):=by simp [Gh.withLoc]
  have hhb:=heap_setCells vs (o + off + n * size) cur w b e fz hb
  have hdl:ds.length=m * size:=by rw [<- hd.1,hv]
  have hfit':n * size + m * size <= cap * size:=by rw [<- Nat.add_mul]; exact Nat.mul_le_mul_right _ hroom
  have hne:∀ j oj b',(σ.del id) j=some oj->blkOf ρ j oj=some b'->b' ≠ b:=fun j oj b' hoj hbj he=>by
    subst he
    have hj:j ≠ id:=fun he=>by subst he; simp [AS.del] at hoj
    exact hj (H.apart j id oj _ (AS.del_sub σ id j oj hoj) ho (by rw [hbj]; simp [blkOf,hl]))
  refine ⟨id2,_,f3,hle',hloc,Hd.turn hle' (below_setCells _ _ _ _ H.below hB) ?_ id2 _ ?_ ?_ ?_ ?_⟩
  · intro b' p v' hv'
    have hnb:b' ≠ b:=fun he=>by subst he; exact hi _ _ hv'
    rw [World.cell?_of_block (w:=w) (setCells_other _ _ w b b' hnb)]
    exact H.imm _ _ _ hv'
  · intro j oj b' hj hoj hbj
    exact ⟨setCells_other _ _ w b b' (hne j oj b' hoj hbj),fun _=>rfl,fun _=>rfl⟩
  · refine ⟨b,o + off,mm,_,e,fz,hloc,hB,hhb,?_,?_,?_,?_,?_,hi,fun t ht=>by cases ht⟩
    · simpa [setV_length] using hf
    · simpa [setV_length] using hms
    · rw [List.length_append,List.length_drop,hdl]; omega
    · rw [List.all_append,Bool.and_eq_true]
      refine ⟨?_,hdo⟩
      rw [List.all_eq_true] at hok ⊢
      exact fun z hz=>hok z (List.mem_of_mem_drop hz)
    · have e1:(setV cur.toList (o + off + n * size) vs).toArray.toList=setV cur.toList (o + off + n * size) vs:=by simp
      have hcl2:(cs.drop off).length=n * size:=by rw [List.length_drop]; omega
      rw [e1,setV_drop,setV_take,List.length_append,hcl2,hdl,setV_eq _ _ _ (by simp; omega)]
      have e2:List.drop (n * size + vs.length) (List.take (n * size + m * size) (List.drop (o + off) cur.toList))=[]:=List.drop_eq_nil_of_le (by rw [List.length_take]; omega)
      rw [e2,List.append_nil,List.take_take,Nat.min_eq_left (by omega)]
      refine RelL.append ?_ (hd.mono hle')
      have:=(hr.drop off).mono hle'
      rw [List.drop_take,List.drop_drop] at this
      rwa [show cs.length - off=n * size by omega] at this
  · intro j oj hj hoj he
    obtain ⟨b',hbj,_,_⟩:=objRel_blk (Hd.obj j oj hoj)
    have:=hne j oj b' hoj hbj
    rw [hbj] at he
    simp [blkOf,hloc] at he
    exact this he
  · obtain ⟨N,hN⟩:=Hd.bound
    refine ⟨max N (id2 + 1),fun j hj=>?_⟩
    obtain ⟨h1,h2,h3⟩:=hN j (by omega)
    exact ⟨by simp only [Gh.withLoc]; rw [if_neg (by omega)]; exact h1,h2,by rw [AS.set_ne _ _ (by omega)]; exact h3⟩
theorem RelH.copied (H:RelH w0 ρ σ w) {id:Nat} {cs:List AV} {var:Option TypeId} (ho:σ id=some (.cells cs var)) {b o mm off n size m:Nat} (hl:ρ.loc id=some (b,o,mm)) {z:Array Value} {e:TypeId} (cap:Nat) (hcap:cap < n + m) (hml:n + m <= maxLen)
    {olds:List Value} (hcl:(cs.drop off).length=n * size) (hro:RelL ρ (cs.drop off) olds) (hul:olds.length=n * size) (hok:cs.all AV.cellOk=true)
    {ds:List AV} {vs:List Value} (hv:vs.length=m * size) (hd:RelL ρ ds vs) (hdo:ds.all AV.cellOk=true) (hz:z.size=size) :
    ∃ id2 ρ',σ id2=none/\ρ.le ρ'/\RelV ρ' (.msl id2 0 (n + m) size) (.slice (some ⟨w.heap.size,0,none⟩) (n + m) (grownCap w (n + m) cap e)) /\
      RelH w0 ρ' ((σ.del id).set id2 (.cells (cs.drop off ++ ds) none)) (w.drew.alloc (.cells (olds.toArray ++ vs.toArray ++ Builtin.zeroCells z (grownCap w (n + m) cap e - (n + m))) e)):=by
  have hge:=grownCap_ge w (n + m) cap e
  have hgm:=grownCap_le_maxLen w (n + m) cap e hml
  generalize grownCap w (n + m) cap e=C at *
  have Hd:=(H.sub (AS.del_sub σ id)).drawn (w.drawn + 1)
  have hcs:=hro.append hd
  have hdl:ds.length=m * size:=by rw [<- hd.1,hv]
  have hlen:(cs.drop off ++ ds).length=(n + m) * size:=by rw [List.length_append,hcl,hdl,Nat.add_mul]
  have hsize:(olds.toArray ++ vs.toArray ++ Builtin.zeroCells z (C - (n + m))).size=C * size:=by
    simp only [Array.size_append,List.size_toArray,size_zeroCells,hz,hul,hv,<- Nat.add_mul]
    congr 1
    omega
  have hallok:(cs.drop off ++ ds).all AV.cellOk=true:=by
    rw [List.all_append,Bool.and_eq_true]
    refine ⟨?_,hdo⟩
    rw [List.all_eq_true] at hok ⊢
    exact fun y hy=>hok y (List.mem_of_mem_drop hy)
  obtain ⟨id2,ρ',g1,g0,g2,g3,g4⟩:=Hd.newCells _ e (0,0) (nofz_zero _) (cs.drop off ++ ds) (by rw [hlen,hsize]; exact Nat.mul_le_mul_right _ hge)
    (by
      rw [<- hcs.1]
      simp only [Array.toList_append]
      rw [List.take_left]
      exact hcs) hallok none (fun t ht=>by cases ht)
  have hne:id2 ≠ id:=fun he=>by subst he; rw [g0] at hl; cases hl
  refine ⟨id2,ρ',?_,g2,?_,g4⟩
  · have:(σ.del id) id2=σ id2:=by simp [AS.del,hne]
    rw [<- this]
    exact g1
  · exact .msl id2 0 (n + m) size _ 0 _ C g3 hge hgm (by rw [hsize]; omega)
theorem run_append_place_src {t tx e:TypeId} {i:TypeInfo} (ht:P.underlying t=some (.slice e)) (hi:P.info? e=some i) (hsi:szOf P e=i.size) {b o n cap m:Nat} {cur:Array Value} {e':TypeId} {fz:Nat × Nat} (hb:w.heap[b]?=some (.cells cur e' fz)) (hf:NoFz fz cur.size)
    (hroom:n + m <= cap) (hfit:o + cap * szOf P e <= cur.size) {x:Value} {vs:List Value} (hx:Src P i.size tx x m vs w) (ty:TypeId) :
    (Builtin.append_ #[t,tx] ty #[.slice (some ⟨b,o,none⟩) n cap,x]).run P w=.ok (.slice (some ⟨b,o,none⟩) (n + m) cap) (w.setCells b (o + n * szOf P e) vs):=by
  have hnm:n * szOf P e + m * szOf P e <= cap * szOf P e:=by rw [<- Nat.add_mul]; exact Nat.mul_le_mul_right _ hroom
  have hl:=hx.newsLen
  rw [hsi] at *
  exact run_append_room_src (P:=P) w t tx ty e i ht hi b o n cap x m vs hx hroom (fun j hj=>by
      rw [cell_of_row w b _ cur e' fz hb]
      have:o + n * i.size + j < cur.size:=by omega
      simp [this]) (fun j hj=>frozen_no hb hf (by omega))
theorem run_append_none_src {t tx e:TypeId} (ht:P.underlying t=some (.slice e)) (hs:(inf P e).isSome=true) (B:Option Addr) (n cap:Nat) (hn:n <= cap) (x:Value) (hx:Src P (szOf P e) tx x 0 [] w) (ty:TypeId) :
    (Builtin.append_ #[t,tx] ty #[.slice B n cap,x]).run P w=.ok (.slice B n cap) w:=by
  have hc:=hx.cells
  rcases hx.kind with ⟨e',hk⟩ | hk <;> cases B <;> simp [Builtin.append_,run_underlying ht,run_underlying hk,run_size hs,hx.len,hn,hc,storeCells]
theorem run_append_new_src (t tx ty e:TypeId) (i:TypeInfo) (z:Value) (ht:P.underlying t=some (.slice e)) (hi:P.info? e=some i) (hz:i.zero=some z) (base:Option Addr) (sLen sCap:Nat) (olds:List Value)
    (hold:(Builtin.firstCells i.size sLen (.slice base sLen sCap)).run P w.drew=.ok olds.toArray w.drew) (x:Value) (n:Nat) (news:List Value) (hs:Src P i.size tx x n news w)
    (hg:sCap < sLen + n) (h63:((sLen + n:Nat):Int) <= 9223372036854775807) (hfit:Builtin.nextslicecap (sLen + n) sCap * i.bytes <= 281474976710656) :
    (Builtin.append_ #[t,tx] ty #[.slice base sLen sCap,x]).run P w=.ok (.slice (some ⟨w.heap.size,0,none⟩) (sLen + n) (grownCap w (sLen + n) sCap e))
        (w.drew.alloc (.cells (olds.toArray ++ news.toArray ++ Builtin.zeroCells z.cells (grownCap w (sLen + n) sCap e - (sLen + n))) e)):=by
  have h:=run_append_grow_src (P:=P) w t tx ty e i z ht hi hz base sLen sCap olds hold x n news hs hg h63 hfit
  have e1:(olds ++ news).toArray=olds.toArray ++ news.toArray:=by simp
  rw [e1] at h
  exact h
theorem appendCore_sound (H:RelH w0 ρ σ w) {mu:Bool} {t tx e:TypeId} {s:AV} {m:Nat} {ys:List PV} {K:AV->AS->Prop} (he:elOf P t=some e) (hsz:0 < szOf P e) (hz:match zeroOf P e with | some z=>z.length=szOf P e | none=>False)
    (h:appendCore P mu σ e m ys s K) {u v:Value} (hu:RelV ρ s u) {vs:List Value} (hx:Src P (szOf P e) tx v m vs w) (hry:RelPL ρ.imm ys vs) (hyl:ys.length=m * szOf P e) (ty:TypeId) :
    ∃ ρ' σ' w' a r,(Builtin.append_ #[t,tx] ty #[u,v]).run P w=.ok r w'/\ρ.le ρ'/\RelH w0 ρ' σ' w'/\RelV ρ' a r/\K a σ':=by
  unfold appendCore at h
  have ht:=elOf_some he
  split at hz
  case h_2=>exact hz.elim
  rename_i z hz0
  obtain ⟨i,zv,hi,hzv,hzz⟩:=zeroOf_some hz0
  have hs:(inf P e).isSome=true:=by simp [inf,hi]
  obtain ⟨i',hi',hsi,hbi⟩:=inf_some hs
  rw [hi] at hi'
  cases hi'
  have hzl:zv.cells.size=szOf P e:=by rw [hzz] at hz; simpa using hz
  have hx':Src P i.size tx v m vs w:=by rw [<- hsi]; exact hx
  have hvl:vs.length=m * szOf P e:=by rw [hry.1,hyl]
  have key:∀ (olds:List Value) (n old:Nat),olds.length=n * szOf P e->n + m <= maxLen->∀ (cs:List AV),RelL ρ cs (olds ++ vs)->newRowD mu σ (n + m) (szOf P e) e cs K ->
      ∃ ρ' σ' a,ρ.le ρ'/\RelH w0 ρ' σ' (w.drew.alloc (.cells (olds.toArray ++ vs.toArray ++ Builtin.zeroCells zv.cells (grownCap w (n + m) old e - (n + m))) e)) /\
        RelV ρ' a (.slice (some ⟨w.heap.size,0,none⟩) (n + m) (grownCap w (n + m) old e))/\K a σ':=by
    intro olds n old hol hml cs hcs hK
    have hge:=grownCap_ge w (n + m) old e
    have hlen:(olds ++ vs).length=(n + m) * szOf P e:=by rw [List.length_append,hol,hvl,Nat.add_mul]
    have hsize:(olds.toArray ++ vs.toArray ++ Builtin.zeroCells zv.cells (grownCap w (n + m) old e - (n + m))).size=grownCap w (n + m) old e * szOf P e:=by
      simp only [Array.size_append,List.size_toArray,size_zeroCells,hzl,hol,hvl,<- Nat.add_mul]
      congr 1
      omega
    exact newRow_sound (w:=w.drew) (H.drawn (w.drawn + 1)) e hK _ (0,0) (nofz_zero _) (olds ++ vs) hcs
      (by
        rw [<- hcs.1]
        simp only [Array.toList_append]
        exact List.take_left) (by rw [<- hcs.1,hlen]) _ hge (grownCap_le_maxLen w _ old e hml) (by rw [hsize]; exact Nat.le_refl _)
  by_cases hm:m=0
  · subst hm
    have hys:ys=[]:=List.eq_nil_of_length_eq_zero (by rw [hyl]; simp)
    subst hys
    have hvs0:vs=[]:=List.eq_nil_of_length_eq_zero (by rw [hvl]; simp)
    have hx0:Src P (szOf P e) tx v 0 [] w:=by rw [<- hvs0]; exact hx
    split at h
    · rw [if_pos rfl] at h
      cases hu
      exact ⟨ρ,σ,w,_,_,run_append_none_src ht hs none 0 0 (Nat.le_refl _) v hx0 ty,Gh.le_refl ρ,H,.nilS,h⟩
    · rename_i n cs
      rw [if_pos rfl] at h
      have hu':=hu
      cases hu with
      | full _ _ b o us hl hi hr=>exact ⟨ρ,σ,w,_,_,run_append_none_src ht hs _ n n (Nat.le_refl _) v hx0 ty,Gh.le_refl ρ,H,hu',h⟩
    · rename_i n cs
      rw [if_pos rfl] at h
      have hu':=hu
      cases hu with
      | cut _ _ A b o us hA hl hi hr=>exact ⟨ρ,σ,w,_,_,run_append_none_src ht hs _ n n (Nat.le_refl _) v hx0 ty,Gh.le_refl ρ,H,.pv (.lst n cs A n b o us (Nat.le_refl _) hA hl hi hr),h⟩
    · rename_i id n cs
      rw [if_pos rfl] at h
      have hu':=hu
      cases hu with
      | grow _ _ _ b o cap us hlin hnc hl hi hr=>exact ⟨ρ,σ,w,_,_,run_append_none_src ht hs _ n cap hnc v hx0 ty,Gh.le_refl ρ,H,hu',h⟩
    · split at h
      · exact absurd h.2.2.2.2.1 (Nat.lt_irrefl _)
      · exact h.elim
    · exact h.elim
  · have hm0:0 < m:=Nat.pos_of_ne_zero hm
    split at h
    · rw [if_neg hm] at h
      obtain ⟨h1,h2,hK⟩:=h
      cases hu
      have hr:=run_append_new_src (P:=P) (w:=w) t tx ty e i zv ht hi hzv none 0 0 [] (run_firstCells_none w.drew i.size 0 0 0) v m vs hx' (by omega) (by omega) (growslice_fits (by omega) (by rw [<- hbi,Nat.zero_add]; exact h1))
      simp only [Nat.zero_add,Array.empty_append] at hr
      obtain ⟨ρ',σ',a,k1,k2,k3,k4⟩:=key [] 0 0 (by simp) (by simp only [maxLen]; omega) (ys.map .pv) (by simpa using rel_map hry) (by simpa using hK)
      simp only [Nat.zero_add,Array.empty_append] at k2 k3
      exact ⟨ρ',σ',_,a,_,hr,k1,k2,k3,k4⟩
    · rename_i n cs
      rw [if_neg hm] at h
      obtain ⟨hcl,h1,h2,hK⟩:=h
      cases hu with
      | full _ _ b o us hl hi' hr' =>
        have hr:=run_append_new_src (P:=P) (w:=w) t tx ty e i zv ht hi hzv (some ⟨b,o,none⟩) n n us (run_firstCells_some w.drew i.size n ⟨b,o,none⟩ n n us (by rw [hl,hcl,hsi]) (fun j v hv=>by rw [Addr.add_lit]; exact ImmAt.cell H hi' j v hv))
          v m vs hx' (by omega) (by omega) (growslice_fits (by omega) (by rw [<- hbi]; exact h1))
        obtain ⟨ρ',σ',a,k1,k2,k3,k4⟩:=key us n n (by rw [hl,hcl]) (by simp only [maxLen]; omega) ((cs ++ ys).map .pv) (by rw [List.map_append]; exact (rel_map ⟨hl,hr'⟩).append (rel_map hry)) hK
        exact ⟨ρ',σ',_,a,_,hr,k1,k2,k3,k4⟩
    · rename_i n cs
      rw [if_neg hm] at h
      obtain ⟨hcl,h1,h2,hK⟩:=h
      cases hu with
      | cut _ _ A b o us hA hl hi' hr' =>
        have hfc:(Builtin.firstCells i.size n (.slice A n n)).run P w.drew=.ok us.toArray w.drew:=by
          rcases Nat.eq_zero_or_pos n with h0 | h0
          · subst h0
            have:us=[]:=List.eq_nil_of_length_eq_zero (by rw [hl,hcl]; simp)
            subst this
            cases A with
            | none=>exact run_firstCells_none w.drew i.size 0 0 0
            | some a=>exact run_firstCells_some w.drew i.size 0 a 0 0 [] (by simp) (fun j v hv=>by simp at hv)
          · have hA':A=some ⟨b,o,none⟩:=by
              rcases hA with rfl | h
              · have:0 < n * szOf P e:=Nat.mul_pos h0 hsz
                simp at hcl; omega
              · exact h
            subst hA'
            exact run_firstCells_some w.drew i.size n ⟨b,o,none⟩ n n us (by rw [hl,hcl,hsi]) (fun j v hv=>by rw [Addr.add_lit]; exact ImmAt.cell H hi' j v hv)
        have hr:=run_append_new_src (P:=P) (w:=w) t tx ty e i zv ht hi hzv A n n us hfc
          v m vs hx' (by omega) (by omega) (growslice_fits (by omega) (by rw [<- hbi]; exact h1))
        obtain ⟨ρ',σ',a,k1,k2,k3,k4⟩:=key us n n (by rw [hl,hcl]) (by simp only [maxLen]; omega) ((cs ++ ys).map .pv) (by rw [List.map_append]; exact (rel_map ⟨hl,hr'⟩).append (rel_map hry)) hK
        exact ⟨ρ',σ',_,a,_,hr,k1,k2,k3,k4⟩
    · rename_i id n cs
      rw [if_neg hm] at h
      split at h
      case h_2=>exact h.elim
      rename_i n sz mk ho
      obtain ⟨rfl,rfl,hcl,h1,h2,hK⟩:=h
      have hmk2:∀ e',(if mk=some e then mk else none)=some e'->mk=some e':=by
        intro e' he'
        split at he'
        · exact he'
        · cases he'
      have hmk3:∀ e',(if mk=some e then mk else none)=some e'->e=e':=by
        intro e' he'
        split at he'
        · rename_i hme; rw [hme] at he'; exact Option.some.inj he'
        · cases he'
      cases hu with
      | grow _ _ _ b o cap us hlin hnc hl hi' hr' =>
        have hul:us.length=n * szOf P e:=by rw [hl,hcl]
        by_cases hroom:n + m <= cap
        · obtain ⟨b',o',cap',cur,e',fz,hlin',hB,hb,hf,hnc',hcm,hsz',hii,hkk,_⟩:=H.obj id _ ho
          rw [hlin] at hlin'
          cases hlin'
          have hr:=run_append_place_src (P:=P) ht hi hsi hb hf hroom hsz' hx' ty
          obtain ⟨ρ',g1,g2,g3,g4⟩:=H.grown ho hmk2 hlin m hm0 hroom vs hvl
          refine ⟨ρ',_,_,_,_,hr,g1,g4,?_,hK⟩
          have happ:=RelPL.append (imm:=ρ'.imm) (cs:=cs) (ds:=ys) (vs:=us) (us:=vs) ⟨hl,fun i hi=>(hr' i hi).mono g1.imm⟩ ⟨hry.1,fun i hi=>(hry.2 i hi).mono g1.imm⟩
          refine .grow id (n + m) _ b o cap (us ++ vs) g2 hroom happ.1 ?_ happ.2
          intro k hk
          rw [List.length_append] at hk
          by_cases hku:k < us.length
          · rw [List.getD_eq_getElem?_getD,List.getElem?_append_left hku,<- List.getD_eq_getElem?_getD]
            exact g1.imm _ _ _ (hi' k hku)
          · have:=g3 (k - us.length) (by omega)
            rw [List.getD_eq_getElem?_getD,List.getElem?_append_right (by omega),<- List.getD_eq_getElem?_getD,<- this]
            congr 1
            omega
        · have hr:=run_append_new_src (P:=P) (w:=w) t tx ty e i zv ht hi hzv (some ⟨b,o,none⟩) n cap us (run_firstCells_some w.drew i.size n ⟨b,o,none⟩ n cap us (by rw [hul,hsi]) (fun j v hv=>by rw [Addr.add_lit]; exact ImmAt.cell H hi' j v hv))
            v m vs hx' (by omega) (by omega) (growslice_fits (by omega) (by rw [<- hbi]; exact h1))
          have hge:=grownCap_ge w (n + m) cap e
          have hlen:(us ++ vs).length=(n + m) * szOf P e:=by rw [List.length_append,hul,hvl,Nat.add_mul]
          obtain ⟨ρ',g1,g2,g3,g4⟩:=(H.drawn (w.drawn + 1)).moved ho m hm0 (us.toArray ++ vs.toArray ++ Builtin.zeroCells zv.cells (grownCap w (n + m) cap e - (n + m))) e _ hge
            (grownCap_le_maxLen w _ cap e (by simp only [maxLen]; omega)) (by
              simp only [Array.size_append,List.size_toArray,size_zeroCells,hzl,hul,hvl,<- Nat.add_mul]
              refine Nat.le_of_eq ?_
              congr 1
              omega) (us ++ vs) hlen (by simp only [Array.toList_append]; exact List.take_left) hmk3
          refine ⟨ρ',_,_,_,_,hr,g1,g4,?_,hK⟩
          have happ:=RelPL.append (imm:=ρ'.imm) (cs:=cs) (ds:=ys) (vs:=us) (us:=vs) ⟨hl,fun i hi=>(hr' i hi).mono g1.imm⟩ ⟨hry.1,fun i hi=>(hry.2 i hi).mono g1.imm⟩
          exact .grow id (n + m) _ _ 0 _ (us ++ vs) g2 hge happ.1 g3 happ.2
    · rename_i id off n sz
      split at h
      · rename_i cs var ho
        obtain ⟨hse,hcl,h1,h2,_,hK⟩:=h
        subst hse
        cases hu with
        | msl _ _ _ _ b o mm cap hloc hnc hcm hfit =>
          obtain ⟨b',o',m',cur,e',fz,hloc',hB,hb,hf,hms,hle2,hok2,hrr,hii,_⟩:=H.obj id _ ho
          rw [hloc] at hloc'
          cases hloc'
          by_cases hroom:n + m <= cap
          · have hr:=run_append_place_src (P:=P) ht hi hsi (o:=o + off) hb hf hroom (by rw [hms]; exact hfit) hx' ty
            obtain ⟨id2,ρ',g1,g2,g3,g4⟩:=H.regrown ho hloc hfit hroom hcl hvl (rel_map hry) (map_ok ys)
            refine ⟨ρ',_,_,_,_,hr,g2,g4,?_,hK id2 g1⟩
            have:=RelV.msl (ρ:=ρ') id2 0 (n + m) (szOf P e) b (o + off) mm cap g3 hroom hcm (by rw [Nat.add_zero]; exact hfit)
            rwa [Nat.add_zero] at this
          · have hcl2:(cs.drop off).length=n * szOf P e:=by rw [List.length_drop]; omega
            have hro:RelL ρ (cs.drop off) ((cur.toList.drop (o + off)).take (n * szOf P e)):=by
              have:=hrr.drop off
              rw [List.drop_take,List.drop_drop] at this
              rwa [show cs.length - off=n * szOf P e by omega] at this
            have hul:((cur.toList.drop (o + off)).take (n * szOf P e)).length=n * szOf P e:=by rw [hro.1,hcl2]
            have hr:=run_append_new_src (P:=P) (w:=w) t tx ty e i zv ht hi hzv (some ⟨b,o + off,none⟩) n cap _ (run_firstCells_some w.drew i.size n ⟨b,o + off,none⟩ n cap _ (by rw [hul,hsi]) (fun j v hv=>by
                rw [Addr.add_lit]
                show w.cell? _=_
                rw [cell_of_row w b _ cur e' fz hb]
                rw [List.getElem?_take] at hv
                split at hv
                · rw [List.getElem?_drop] at hv
                  simpa using hv
                · cases hv))
              v m vs hx' (by omega) (by omega) (growslice_fits (by omega) (by rw [<- hbi]; exact h1))
            obtain ⟨id2,ρ',g1,g2,g3,g4⟩:=H.copied ho hloc (n:=n) (m:=m) (z:=zv.cells) (e:=e) cap (by omega) (by simp only [maxLen]; omega) hcl2 hro hul hok2 hvl (rel_map hry) (map_ok ys) hzl
            exact ⟨ρ',_,_,_,_,hr,g2,g4,g3,hK id2 g1⟩
      · exact h.elim
    · exact h.elim
theorem av_one {a:AV} {u:Value} (h:RelV ρ a u) (hok:a.cellOk=true):u.oneCell'=true:=by
  cases h with
  | pv h=>exact pv_one (cs:=[_]) (vs:=[_]) ⟨rfl,fun i hi=>by
      have:i=0:=by simpa using hi
      subst this
      exact h⟩ _ (List.mem_singleton_self _)
  | undef=>cases hok
  | agg=>cases hok
  | tuple=>cases hok
  | any _ h1 h2=>exact h1
  | _=>rfl
theorem avs_one {az:List AV} {us:List Value} (h:RelL ρ az us) (hok:az.all AV.cellOk=true):∀ u ∈ us,u.oneCell'=true:=by
  intro u hu
  obtain ⟨i,hi,rfl⟩:=List.mem_iff_getElem.1 hu
  have hi':i < az.length:=by rw [<- h.1]; exact hi
  have:=h.2 i hi'
  rw [List.getD_eq_getElem?_getD,List.getElem?_eq_getElem hi] at this
  exact av_one this (List.all_eq_true.1 hok _ (List.getElem_mem hi'))
theorem appendA_sound (H:RelH w0 ρ σ w) {t e:TypeId} {s x:AV} {K:AV->AS->Prop} (he:elOf P t=some e) (hsz:0 < szOf P e) (hz:match zeroOf P e with | some z=>z.length=szOf P e | none=>False)
    (h:appendA P σ e x s K) {u v:Value} (hu:RelV ρ s u) (hv:RelV ρ x v) (ty:TypeId) :
    ∃ ρ' σ' w' a r,(Builtin.append_ #[t,t] ty #[u,v]).run P w=.ok r w'/\ρ.le ρ'/\RelH w0 ρ' σ' w'/\RelV ρ' a r/\K a σ':=by
  unfold appendA at h
  have ht:=elOf_some he
  split at hz
  case h_2=>exact hz.elim
  rename_i z hz0
  obtain ⟨i,zv,hi,hzv,hzz⟩:=zeroOf_some hz0
  have hs:(inf P e).isSome=true:=by simp [inf,hi]
  obtain ⟨i',hi',hsi,hbi⟩:=inf_some hs
  rw [hi] at hi'
  cases hi'
  have hzl:zv.cells.size=szOf P e:=by rw [hzz] at hz; simpa using hz
  split at h
  case h_2=>exact h.elim
  rename_i idx offx m szx
  split at h
  case h_2=>exact h.elim
  rename_i cx varx hox
  obtain ⟨hlx,hm0,h⟩:=h
  cases hv with
  | msl _ _ _ _ bx ox mx capx hlocx hncx hcmx hfitx =>
  obtain ⟨b',o',m',curx,ex',fzx,hloc',hBx,hbx,hfx,hmsx,hle2x,hok2x,hrrx,hiix,_⟩:=H.obj idx _ hox
  rw [hlocx] at hloc'
  cases hloc'
  have hry:RelL ρ ((cx.drop offx).take (m * szOf P e)) ((curx.toList.drop (ox + offx)).take (m * szOf P e)):=by
    have:=(hrrx.drop offx).take (m * szOf P e)
    rw [List.drop_take,List.drop_drop,List.take_take] at this
    rwa [Nat.min_eq_left (by omega:m * szOf P e <= cx.length - offx)] at this
  have hyl:((cx.drop offx).take (m * szOf P e)).length=m * szOf P e:=by rw [List.length_take,List.length_drop]; omega
  have hyo:((cx.drop offx).take (m * szOf P e)).all AV.cellOk=true:=by
    rw [List.all_eq_true] at hok2x ⊢
    exact fun a ha=>hok2x a (List.mem_of_mem_drop (List.mem_of_mem_take ha))
  generalize (cx.drop offx).take (m * szOf P e)=ys at hry hyl hyo h
  have hcell:∀ (j:Nat) y,((curx.toList.drop (ox + offx)).take (m * szOf P e))[j]?=some y->w.cell? ((⟨bx,ox + offx,none⟩:Addr).add j)=some y:=by
    intro j y hy
    rw [Addr.add_lit]
    rw [cell_of_row w bx _ curx ex' fzx hbx]
    rw [List.getElem?_take] at hy
    split at hy
    · rw [List.getElem?_drop] at hy
      simpa using hy
    · cases hy
  generalize hvs:(curx.toList.drop (ox + offx)).take (m * szOf P e)=vs at hry hcell
  have hvl:vs.length=m * szOf P e:=by rw [hry.1,hyl]
  have hx:Src P (szOf P e) t (.slice (some ⟨bx,ox + offx,none⟩) m capx) m vs w:=Src.ofSlice w (elOf_some he) _ m capx vs hvl hcell (avs_one hry hyo)
  have hx':Src P i.size t (.slice (some ⟨bx,ox + offx,none⟩) m capx) m vs w:=by rw [<- hsi]; exact hx
  split at h
  · obtain ⟨h1,h2,hK⟩:=h
    cases hu
    have hr:=run_append_new_src (P:=P) (w:=w) t t ty e i zv ht hi hzv none 0 0 [] (run_firstCells_none w.drew i.size 0 0 0) _ m vs hx' (by omega) (by omega) (growslice_fits (by omega) (by rw [<- hbi,Nat.zero_add]; exact h1))
    simp only [Nat.zero_add,Array.empty_append] at hr
    have hge:=grownCap_ge w m 0 e
    obtain ⟨ρ',σ',a,k1,k2,k3,k4⟩:=newRow_sound (w:=w.drew) (H.drawn (w.drawn + 1)) e hK (vs.toArray ++ Builtin.zeroCells zv.cells (grownCap w m 0 e - m)) (0,0) (nofz_zero _) vs hry
      (by
        rw [<- hry.1]
        simp only [Array.toList_append]
        exact List.take_left) (by rw [hyl]) _ hge (grownCap_le_maxLen w _ 0 e (by simp only [maxLen]; omega)) (by
        simp only [Array.size_append,List.size_toArray,size_zeroCells,hzl,hvl,<- Nat.add_mul]
        refine Nat.le_of_eq ?_
        congr 1
        omega)
    exact ⟨ρ',σ',_,a,_,hr,k1,k2,k3,k4⟩
  · rename_i id off n sz
    split at h
    · rename_i cs var ho
      obtain ⟨hse,hcl,h1,h2,hK⟩:=h
      subst hse
      cases hu with
      | msl _ _ _ _ b o mm cap hloc hnc hcm hfit =>
        obtain ⟨b',o',m',cur,e',fz,hloc',hB,hb,hf,hms,hle2,hok2,hrr,hii,_⟩:=H.obj id _ ho
        rw [hloc] at hloc'
        cases hloc'
        by_cases hroom:n + m <= cap
        · have hr:=run_append_place_src (P:=P) ht hi hsi (o:=o + off) hb hf hroom (by rw [hms]; exact hfit) hx' ty
          obtain ⟨id2,ρ',g1,g2,g3,g4⟩:=H.regrown ho hloc hfit hroom hcl hvl hry hyo
          refine ⟨ρ',_,_,_,_,hr,g2,g4,?_,hK id2 g1⟩
          have:=RelV.msl (ρ:=ρ') id2 0 (n + m) (szOf P e) b (o + off) mm cap g3 hroom hcm (by rw [Nat.add_zero]; exact hfit)
          rwa [Nat.add_zero] at this
        · have hcl2:(cs.drop off).length=n * szOf P e:=by rw [List.length_drop]; omega
          have hro:RelL ρ (cs.drop off) ((cur.toList.drop (o + off)).take (n * szOf P e)):=by
            have:=hrr.drop off
            rw [List.drop_take,List.drop_drop] at this
            rwa [show cs.length - off=n * szOf P e by omega] at this
          have hul:((cur.toList.drop (o + off)).take (n * szOf P e)).length=n * szOf P e:=by rw [hro.1,hcl2]
          have hr:=run_append_new_src (P:=P) (w:=w) t t ty e i zv ht hi hzv (some ⟨b,o + off,none⟩) n cap _ (run_firstCells_some w.drew i.size n ⟨b,o + off,none⟩ n cap _ (by rw [hul,hsi]) (fun j v hv=>by
              rw [Addr.add_lit]
              show w.cell? _=_
              rw [cell_of_row w b _ cur e' fz hb]
              rw [List.getElem?_take] at hv
              split at hv
              · rw [List.getElem?_drop] at hv
                simpa using hv
              · cases hv))
            _ m vs hx' (by omega) (by omega) (growslice_fits (by omega) (by rw [<- hbi]; exact h1))
          obtain ⟨id2,ρ',g1,g2,g3,g4⟩:=H.copied ho hloc (n:=n) (m:=m) (z:=zv.cells) (e:=e) cap (by omega) (by simp only [maxLen]; omega) hcl2 hro hul hok2 hvl hry hyo hzl
          exact ⟨ρ',_,_,_,_,hr,g2,g4,g3,hK id2 g1⟩
    · exact h.elim
  · exact h.elim
theorem append_sound (H:RelH w0 ρ σ w) {mu:Bool} {t:TypeId} {s x:AV} {K:AV->AS->Prop} (h:appendD P mu σ t s x K) {u v:Value} (hu:RelV ρ s u) (hv:RelV ρ x v) (ty:TypeId) :
    ∃ ρ' σ' w' a r,(Builtin.append_ #[t,t] ty #[u,v]).run P w=.ok r w'/\ρ.le ρ'/\RelH w0 ρ' σ' w'/\RelV ρ' a r/\K a σ':=by
  unfold appendD at h
  split at h
  · exact h.elim
  rename_i e he
  obtain ⟨hsz,hz,h⟩:=h
  split at h
  · exact appendA_sound H he hsz hz h.2 hu hv ty
  rename_i m ys hsh
  obtain ⟨hyl,h⟩:=h
  obtain ⟨A,c,b0,o0,vs,rfl,hmc,hry,hA,hcell⟩:=shown_sound (P:=P) H hsh hv
  have hvl:vs.length=m * szOf P e:=by rw [hry.1,hyl]
  refine appendCore_sound H he hsz hz h hu (vs:=vs) ?_ hry hyl ty
  cases A with
  | some a =>
    have ha:m=0 \/ a=⟨b0,o0,none⟩:=by
      rcases hA with h | h
      · left
        rw [h] at hyl
        rcases Nat.mul_eq_zero.1 hyl.symm with h | h
        · exact h
        · omega
      · exact .inr (Option.some.inj h)
    refine Src.ofSlice w (elOf_some he) a m c vs hvl ?_ (pv_one hry)
    intro j y hy
    rcases ha with rfl | rfl
    · rw [List.eq_nil_of_length_eq_zero (l:=vs) (by omega)] at hy; cases hy
    · rw [Addr.add_lit]; exact hcell j y hy
  | none =>
    have hm:m=0:=by
      rcases hA with h | h
      · rw [h] at hyl
        rcases Nat.mul_eq_zero.1 hyl.symm with h | h
        · exact h
        · omega
      · cases h
    subst hm
    have hv0:vs=[]:=List.eq_nil_of_length_eq_zero (by omega)
    subst hv0
    exact Src.ofNil w (elOf_some he) c
theorem pvByteCells_rel (imm:Nat->Nat->Option Value) (l:List UInt8):RelPL imm (pvBytes l) (Go.byteCells ⟨l.toArray⟩):=by
  refine ⟨by simp [pvBytes,Go.byteCells],fun i hi=>?_⟩
  have hi':i < l.length:=by simpa [pvBytes] using hi
  simp [pvBytes,Go.byteCells,List.getD_eq_getElem?_getD,hi']
  exact .int _ _
theorem appendStr_sound (H:RelH w0 ρ σ w) {mu:Bool} {t t':TypeId} {s x:AV} {K:AV->AS->Prop} (h:appendStrD P mu σ t t' s x K) {u v:Value} (hu:RelV ρ s u) (hv:RelV ρ x v) (ty:TypeId) :
    ∃ ρ' σ' w' a r,(Builtin.append_ #[t,t'] ty #[u,v]).run P w=.ok r w'/\ρ.le ρ'/\RelH w0 ρ' σ' w'/\RelV ρ' a r/\K a σ':=by
  unfold appendStrD at h
  split at h
  case h_2=>exact h.elim
  rename_i e l he
  obtain ⟨hsz,hz,ht',h⟩:=h
  rw [relStr hv]
  have hsrc:=Src.ofString (P:=P) w ht' ⟨l.toArray⟩
  have hsize:(⟨l.toArray⟩:ByteArray).size=l.length:=rfl
  rw [hsize,<- hsz] at hsrc
  refine appendCore_sound H he (by omega) (by rw [hsz]; exact hz) h hu hsrc (pvByteCells_rel _ l) (by rw [hsz]; simp [pvBytes]) ty
end
end Go.AD
