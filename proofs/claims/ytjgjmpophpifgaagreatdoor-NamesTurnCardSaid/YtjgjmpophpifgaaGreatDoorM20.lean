import Derived.Test.YtjgjmpophpifgaaGreatDoorM19
set_option linter.unusedVariables false
namespace Go.AD.Lx
inductive Ev where
  | use (x:Bytes)
  | sc (x:Bytes)
  | ar (x:Bytes)
  | link (a b:Bytes)
  | bad
deriving DecidableEq
def kSplit:Bytes:=[115,112,108,105,116]
def paramsN (f:NTree):List NTree:=match f.kids with
  | []=>[]
  | k :: _=>k.kids
def fullN (f:NTree) (x:Bytes):Bytes:=if (paramsN f).any (fun p=>p.text == x)=true then f.text ++ [46] ++ x else x
def noF:NTree:=.mk [] [] []
def funF (fs:List NTree) (x:Bytes):Option NTree:=fs.find? fun f=>f.text == x
mutual
def evN (fs:List NTree) (f:NTree):NTree->List Ev
  | .mk op text kids =>
    if op=oCall then (match funF fs text with
      | none=>[.bad]
      | some g=>if (paramsN g).length < kids.length then [.bad] else evAs fs f g kids (paramsN g))
    else if op=oElem \/ op=wIn \/ op=oDelete then .ar (fullN f text) :: evNs fs f kids
    else if op=oVar then .sc (fullN f text) :: evNs fs f kids
    else if op=oForin then .sc (fullN f text) :: (match kids with
      | []=>[]
      | k :: ks=>.ar (fullN f k.text) :: evNs fs f ks)
    else if op=kBuilt/\text=kSplit then (match kids with
      | a :: b :: ks=>if b.op=oVar then .ar (fullN f b.text) :: (evN fs f a ++ evNs fs f ks) else evN fs f a ++ (evN fs f b ++ evNs fs f ks)
      | ks=>evNs fs f ks)
    else evNs fs f kids
def evNs (fs:List NTree) (f:NTree):List NTree->List Ev
  | []=>[]
  | n :: l=>evN fs f n ++ evNs fs f l
def evAs (fs:List NTree) (f g:NTree):List NTree->List NTree->List Ev
  | k :: ks,p :: ps=>(if k.op=oVar then [.link (fullN f k.text) (fullN g p.text)] else .sc (fullN g p.text) :: evN fs f k) ++ evAs fs f g ks ps
  | _,_=>[]
end
end Go.AD.Lx
namespace Go.AD.Lx
mutual
def wN:NTree->Nat
  | .mk _ _ kids=>wNs kids + 1
def wNs:List NTree->Nat
  | []=>0
  | n :: l=>wN n + wNs l
end
theorem wN_pos (n:NTree):0 < wN n:=by cases n; rw [wN]; omega
theorem wN_kids (n:NTree):wN n=wNs n.kids + 1:=by cases n; rw [wN]; rfl
theorem wNs_app:∀ a b:List NTree,wNs (a ++ b)=wNs a + wNs b
  | [],b=>by rw [List.nil_append,wNs,Nat.zero_add]
  | n :: a,b=>by rw [List.cons_append,wNs,wNs,wNs_app a b]; omega
mutual
theorem evN_len (fs:List NTree) (f:NTree):∀ n:NTree,(evN fs f n).length + 2 <= 3 * wN n
  | .mk op text kids=>by
    have ih:=evNs_len fs f kids
    unfold evN
    rw [wN]
    split
    · split
      · simp only [List.length_singleton]; omega
      · split
        · simp only [List.length_singleton]; omega
        · have:=evAs_len fs f ‹_› kids (paramsN ‹_›); omega
    split
    · rw [List.length_cons]; omega
    split
    · rw [List.length_cons]; omega
    split
    · cases kids with
      | nil=>simp only [List.length_cons,List.length_nil]; omega
      | cons k ks =>
        have:=evNs_len fs f ks
        have:=wN_pos k
        rw [wNs,List.length_cons,List.length_cons]; omega
    split
    · match kids,ih with
      | [],ih=>simp only; omega
      | [a],ih=>simp only at ih ⊢; omega
      | a :: b :: ks,ih =>
        have h1:=evN_len fs f a
        have h2:=evN_len fs f b
        have h3:=evNs_len fs f ks
        have:=wN_pos b
        simp only
        split <;> simp only [List.length_cons,List.length_append,wNs] <;> omega
    · omega
theorem evNs_len (fs:List NTree) (f:NTree):∀ l:List NTree,(evNs fs f l).length <= 3 * wNs l
  | []=>by rw [evNs,wNs]; simp
  | n :: l=>by
    have:=evN_len fs f n
    have:=evNs_len fs f l
    rw [evNs,wNs,List.length_append]; omega
theorem evAs_len (fs:List NTree) (f g:NTree):∀ l ps:List NTree,(evAs fs f g l ps).length <= 3 * wNs l
  | [],ps=>by unfold evAs; simp
  | k :: ks,[]=>by unfold evAs; simp
  | k :: ks,p :: ps=>by
    have:=evN_len fs f k
    have:=evAs_len fs f g ks ps
    have:=wN_pos k
    rw [evAs,wNs,List.length_append]
    split
    · rw [List.length_singleton]; omega
    · rw [List.length_cons]; omega
end
inductive Conn (lk:Bytes->Bytes->Prop):Bytes->Bytes->Prop where
  | refl (x):Conn lk x x
  | step {x y z} (h:Conn lk x y) (hl:lk y z):Conn lk x z
def Lk (E:List Ev) (a b:Bytes):Prop:=.link a b ∈ E \/ .link b a ∈ E
def namesE:Ev->List Bytes
  | .use x | .sc x | .ar x=>[x]
  | .link a b=>[a,b]
  | .bad=>[]
def Named (E:List Ev) (x:Bytes):Prop:=∃ e ∈ E,x ∈ namesE e
def baseS (sp:Bytes->Bool) (E:List Ev) (x:Bytes):Prop:=.sc x ∈ E \/ (sp x=true/\Named E x)
def IsS (sp:Bytes->Bool) (E:List Ev) (x:Bytes):Prop:=∃ y,baseS sp E y/\Conn (Lk E) y x
def IsA (E:List Ev) (x:Bytes):Prop:=∃ y,.ar y ∈ E/\Conn (Lk E) y x
def SameE (E F:List Ev):Prop:=∀ e,e ∈ E ↔ e ∈ F
theorem SameE.symm {E F:List Ev} (h:SameE E F):SameE F E:=fun e=>(h e).symm
theorem Conn.imp {p q:Bytes->Bytes->Prop} (h:∀ a b,p a b->q a b) {x y:Bytes} (c:Conn p x y):Conn q x y:=by
  induction c with
  | refl=>exact .refl _
  | step _ hl ih=>exact .step ih (h _ _ hl)
section
variable {E F:List Ev} {sp:Bytes->Bool} {x y:Bytes}
theorem SameE.lk (h:SameE E F) (a b:Bytes) (hl:Lk E a b):Lk F a b:=hl.elim (fun h1=>.inl ((h _).1 h1)) (fun h1=>.inr ((h _).1 h1))
theorem SameE.named (h:SameE E F) (hn:Named E x):Named F x:=by
  obtain ⟨e,h1,h2⟩:=hn
  exact ⟨e,(h e).1 h1,h2⟩
theorem SameE.isS (h:SameE E F) (hs:IsS sp E x):IsS sp F x:=by
  obtain ⟨y,h1,h2⟩:=hs
  refine ⟨y,?_,h2.imp h.lk⟩
  rcases h1 with h1 | ⟨h1,h3⟩
  · exact .inl ((h _).1 h1)
  · exact .inr ⟨h1,h.named h3⟩
theorem SameE.isA (h:SameE E F) (hs:IsA E x):IsA F x:=by
  obtain ⟨y,h1,h2⟩:=hs
  exact ⟨y,(h _).1 h1,h2.imp h.lk⟩
theorem Lk.symm {a b:Bytes} (h:Lk E a b):Lk E b a:=h.elim .inr .inl
theorem Lk.named {a b:Bytes} (h:Lk E a b):Named E b:=h.elim (fun h=>⟨_,h,by simp [namesE]⟩) (fun h=>⟨_,h,by simp [namesE]⟩)
end
structure VR where
  name:Bytes
  id:Nat
  lks:List Nat
  row:Option Nat
abbrev Marks:=Nat->Bool × Bool
def fset (fl:Marks) (i:Nat) (v:Bool × Bool):Marks:=fun j=>if j=i then v else fl j
theorem fset_same (fl:Marks) (i:Nat) (v:Bool × Bool):fset fl i v i=v:=if_pos rfl
theorem fset_ne (fl:Marks) {i j:Nat} (v:Bool × Bool) (h:j ≠ i):fset fl i v j=fl j:=if_neg h
structure TL (nm sc ar:Bytes->Prop) (H:Bytes->Bytes->Prop) (n:Nat) (rs:List VR) (fl:Marks):Prop where
  nn:(rs.map (·.name)).Nodup
  ni:(rs.map (·.id)).Nodup
  named:∀ x,(∃ r ∈ rs,r.name=x) ↔ nm x
  msc:∀ r ∈ rs,(fl r.id).1=true ↔ sc r.name
  mar:∀ r ∈ rs,(fl r.id).2=true ↔ ar r.name
  sound:∀ r ∈ rs,∀ o ∈ r.lks,∃ r' ∈ rs,r'.id=o/\H r.name r'.name
  full:∀ r ∈ rs,∀ r' ∈ rs,H r.name r'.name->r'.id ∈ r.lks
  few:∀ r ∈ rs,r.lks.length <= n
  scn:∀ x,sc x->nm x
  arn:∀ x,ar x->nm x
  Hn:∀ x y,H x y->nm x/\nm y
def isLk:Ev->Bool
  | .link _ _=>true
  | _=>false
def cntL (E:List Ev):Nat:=(E.filter isLk).length
theorem cntL_le (E:List Ev):cntL E <= E.length:=List.length_filter_le ..
theorem cntL_snoc (E:List Ev) (e:Ev):cntL (E ++ [e])=cntL E + (if isLk e=true then 1 else 0):=by
  unfold cntL
  rw [List.filter_append,List.length_append]
  congr 1
  by_cases h:isLk e=true
  · rw [if_pos h]; simp [h]
  · rw [if_neg h]; simp [h]
abbrev Told (E:List Ev) (rs:List VR) (fl:Marks):Prop:=TL (Named E) (fun x=>.sc x ∈ E) (fun x=>.ar x ∈ E) (Lk E) (2 * cntL E) rs fl
section
variable {nm sc ar nm' sc' ar':Bytes->Prop} {H H':Bytes->Bytes->Prop} {n m:Nat} {rs l1 l2:List VR} {fl:Marks} {E:List Ev} {x a b:Bytes} {r:VR}
theorem TL.imp (h:TL nm sc ar H n rs fl) (h1:∀ x,nm x ↔ nm' x) (h2:∀ x,sc x ↔ sc' x) (h3:∀ x,ar x ↔ ar' x) (h4:∀ x y,H x y ↔ H' x y) (h5:n <= m):TL nm' sc' ar' H' m rs fl :=
  ⟨h.nn,h.ni,fun x=>(h.named x).trans (h1 x),fun r hr=>(h.msc r hr).trans (h2 _),fun r hr=>(h.mar r hr).trans (h3 _),
    fun r hr o ho=>by obtain ⟨r',g1,g2,g3⟩:=h.sound r hr o ho; exact ⟨r',g1,g2,(h4 _ _).1 g3⟩,fun r hr r' hr' hh=>h.full r hr r' hr' ((h4 _ _).2 hh),fun r hr=>Nat.le_trans (h.few r hr) h5,
    fun x hx=>(h1 _).1 (h.scn x ((h2 _).2 hx)),fun x hx=>(h1 _).1 (h.arn x ((h3 _).2 hx)),fun x y hh=>by have:=h.Hn x y ((h4 _ _).2 hh); exact ⟨(h1 _).1 this.1,(h1 _).1 this.2⟩⟩
theorem TL.var (h:TL nm sc ar H n rs fl) {i:Nat} (hi:i ∉ rs.map (·.id)) (hx:¬ ∃ r ∈ rs,r.name=x):TL (fun y=>nm y \/ y=x) sc ar H n (rs ++ [⟨x,i,[],none⟩]) (fset fl i (false,false)):=by
  have hnx:¬ nm x:=fun hh=>hx ((h.named x).2 hh)
  have hf:∀ r ∈ rs,fset fl i (false,false) r.id=fl r.id:=fun r hr=>fset_ne _ _ (fun e=>hi (List.mem_map.2 ⟨r,hr,e⟩))
  refine ⟨?_,?_,fun y=>?_,fun r hr=>?_,fun r hr=>?_,fun r hr o ho=>?_,fun r hr r' hr' hh=>?_,fun r hr=>?_,fun y hy=>.inl (h.scn y hy),fun y hy=>.inl (h.arn y hy),fun y z hh=>⟨.inl (h.Hn y z hh).1,.inl (h.Hn y z hh).2⟩⟩
  · rw [List.map_append,List.nodup_append]
    refine ⟨h.nn,by simp,?_⟩
    intro a ha b hb e
    simp only [List.map_cons,List.map_nil,List.mem_singleton] at hb
    obtain ⟨r,hr,hra⟩:=List.mem_map.1 ha
    exact hx ⟨r,hr,by rw [hra,e,hb]⟩
  · rw [List.map_append,List.nodup_append]
    refine ⟨h.ni,by simp,?_⟩
    intro a ha b hb e
    simp only [List.map_cons,List.map_nil,List.mem_singleton] at hb
    exact hi (by rw [<- hb,<- e]; exact ha)
  · constructor
    · rintro ⟨r,hr,e⟩
      rcases List.mem_append.1 hr with hr | hr
      · exact .inl ((h.named y).1 ⟨r,hr,e⟩)
      · rw [List.mem_singleton.1 hr] at e; exact .inr e.symm
    · rintro (hy | hy)
      · obtain ⟨r,hr,e⟩:=(h.named y).2 hy; exact ⟨r,List.mem_append_left _ hr,e⟩
      · exact ⟨_,List.mem_append_right _ (List.mem_singleton_self _),hy.symm⟩
  · rcases List.mem_append.1 hr with hr | hr
    · rw [hf r hr]; exact h.msc r hr
    · rw [List.mem_singleton.1 hr,fset_same]; exact ⟨fun e=>absurd e (by simp),fun e=>absurd (h.scn _ e) hnx⟩
  · rcases List.mem_append.1 hr with hr | hr
    · rw [hf r hr]; exact h.mar r hr
    · rw [List.mem_singleton.1 hr,fset_same]; exact ⟨fun e=>absurd e (by simp),fun e=>absurd (h.arn _ e) hnx⟩
  · rcases List.mem_append.1 hr with hr | hr
    · obtain ⟨r',g1,g2,g3⟩:=h.sound r hr o ho; exact ⟨r',List.mem_append_left _ g1,g2,g3⟩
    · rw [List.mem_singleton.1 hr] at ho; cases ho
  · rcases List.mem_append.1 hr with hr | hr
    · rcases List.mem_append.1 hr' with hr' | hr'
      · exact h.full r hr r' hr' hh
      · rw [List.mem_singleton.1 hr'] at hh; exact absurd (h.Hn _ _ hh).2 hnx
    · rw [List.mem_singleton.1 hr] at hh; exact absurd (h.Hn _ _ hh).1 hnx
  · rcases List.mem_append.1 hr with hr | hr
    · exact h.few r hr
    · rw [List.mem_singleton.1 hr]; exact Nat.zero_le _
theorem nodup_on {β:Type} (g:VR->β) {rs:List VR} (h:(rs.map g).Nodup) {r r':VR} (hr:r ∈ rs) (hr':r' ∈ rs) (e:g r=g r'):r=r':=by
  induction rs with
  | nil=>cases hr
  | cons a l ih =>
    rw [List.map_cons,List.nodup_cons] at h
    rcases List.mem_cons.1 hr with h1 | h1
    · rcases List.mem_cons.1 hr' with h2 | h2
      · rw [h1,h2]
      · exact absurd (List.mem_map.2 ⟨r',h2,by rw [<- h1]; exact e.symm⟩) h.1
    · rcases List.mem_cons.1 hr' with h2 | h2
      · exact absurd (List.mem_map.2 ⟨r,h1,by rw [<- h2]; exact e⟩) h.1
      · exact ih h.2 h1 h2
theorem TL.markS (h:TL nm sc ar H n rs fl) (hr:r ∈ rs):TL nm (fun y=>sc y \/ y=r.name) ar H n rs (fset fl r.id (true,(fl r.id).2)):=by
  refine ⟨h.nn,h.ni,h.named,fun q hq=>?_,fun q hq=>?_,h.sound,h.full,h.few,fun y hy=>hy.elim (h.scn y) (fun e=>(h.named y).1 ⟨r,hr,e.symm⟩),h.arn,h.Hn⟩
  · by_cases e:q.id=r.id
    · rw [nodup_on _ h.ni hq hr e,fset_same]; exact ⟨fun _=>.inr rfl,fun _=>rfl⟩
    · rw [fset_ne _ _ e,h.msc q hq]
      exact ⟨.inl,fun hh=>hh.elim id (fun e2=>absurd (congrArg VR.id (nodup_on _ h.nn hq hr e2)) e)⟩
  · by_cases e:q.id=r.id
    · rw [nodup_on _ h.ni hq hr e,fset_same]; exact h.mar r hr
    · rw [fset_ne _ _ e]; exact h.mar q hq
theorem TL.markA (h:TL nm sc ar H n rs fl) (hr:r ∈ rs):TL nm sc (fun y=>ar y \/ y=r.name) H n rs (fset fl r.id ((fl r.id).1,true)):=by
  refine ⟨h.nn,h.ni,h.named,fun q hq=>?_,fun q hq=>?_,h.sound,h.full,h.few,h.scn,fun y hy=>hy.elim (h.arn y) (fun e=>(h.named y).1 ⟨r,hr,e.symm⟩),h.Hn⟩
  · by_cases e:q.id=r.id
    · rw [nodup_on _ h.ni hq hr e,fset_same]; exact h.msc r hr
    · rw [fset_ne _ _ e]; exact h.msc q hq
  · by_cases e:q.id=r.id
    · rw [nodup_on _ h.ni hq hr e,fset_same]; exact ⟨fun _=>.inr rfl,fun _=>rfl⟩
    · rw [fset_ne _ _ e,h.mar q hq]
      exact ⟨.inl,fun hh=>hh.elim id (fun e2=>absurd (congrArg VR.id (nodup_on _ h.nn hq hr e2)) e)⟩
theorem TL.half {w:Option Nat} {r2:VR} (h:TL nm sc ar H n (l1 ++ r :: l2) fl) (hr2:r2 ∈ l1 ++ r :: l2):TL nm sc ar (fun a b=>H a b \/ (a=r.name/\b=r2.name)) (n + 1) (l1 ++ { r with lks:=r.lks ++ [r2.id],row:=w } :: l2) fl:=by
  have hr:r ∈ l1 ++ r :: l2:=by simp
  have old:∀ q ∈ l1 ++ { r with lks:=r.lks ++ [r2.id],row:=w } :: l2,∃ q' ∈ l1 ++ r :: l2,q'.name=q.name/\q'.id=q.id/\(q.lks=q'.lks \/ (q'=r/\q.lks=r.lks ++ [r2.id])):=by
    intro q hq
    rcases List.mem_append.1 hq with hq | hq
    · exact ⟨q,by simp [hq],rfl,rfl,.inl rfl⟩
    · rcases List.mem_cons.1 hq with hq | hq
      · exact ⟨r,hr,by rw [hq],by rw [hq],.inr ⟨rfl,by rw [hq]⟩⟩
      · exact ⟨q,by simp [hq],rfl,rfl,.inl rfl⟩
  have new:∀ q ∈ l1 ++ r :: l2,∃ q' ∈ l1 ++ { r with lks:=r.lks ++ [r2.id],row:=w } :: l2,q'.name=q.name/\q'.id=q.id:=by
    intro q hq
    rcases List.mem_append.1 hq with hq | hq
    · exact ⟨q,by simp [hq],rfl,rfl⟩
    · rcases List.mem_cons.1 hq with hq | hq
      · exact ⟨_,List.mem_append_right _ (List.mem_cons_self ..),by rw [hq],by rw [hq]⟩
      · exact ⟨q,by simp [hq],rfl,rfl⟩
  have onm:(l1 ++ { r with lks:=r.lks ++ [r2.id],row:=w } :: l2).map (·.name)=(l1 ++ r :: l2).map (·.name):=by simp
  have oid:(l1 ++ { r with lks:=r.lks ++ [r2.id],row:=w } :: l2).map (·.id)=(l1 ++ r :: l2).map (·.id):=by simp
  refine ⟨by rw [onm]; exact h.nn,by rw [oid]; exact h.ni,fun x=>?_,fun q hq=>?_,fun q hq=>?_,fun q hq o ho=>?_,fun q hq p hp hh=>?_,fun q hq=>?_,h.scn,h.arn,fun x y hh=>?_⟩
  · rw [<- h.named x]
    constructor
    · rintro ⟨q,hq,e⟩; obtain ⟨q',g1,g2,_⟩:=old q hq; exact ⟨q',g1,g2.trans e⟩
    · rintro ⟨q,hq,e⟩; obtain ⟨q',g1,g2,_⟩:=new q hq; exact ⟨q',g1,g2.trans e⟩
  · obtain ⟨q',g1,g2,g3,_⟩:=old q hq; rw [<- g2,<- g3]; exact h.msc q' g1
  · obtain ⟨q',g1,g2,g3,_⟩:=old q hq; rw [<- g2,<- g3]; exact h.mar q' g1
  · obtain ⟨q',g1,g2,g3,g4⟩:=old q hq
    have lift:(∃ r' ∈ l1 ++ r :: l2,r'.id=o/\H q'.name r'.name)->∃ r' ∈ l1 ++ { r with lks:=r.lks ++ [r2.id],row:=w } :: l2,r'.id=o/\(H q.name r'.name \/ (q.name=r.name/\r'.name=r2.name)):=by
      rintro ⟨r',k1,k2,k3⟩
      obtain ⟨s,k4,k5,k6⟩:=new r' k1
      exact ⟨s,k4,k6.trans k2,.inl (by rw [<- g2,k5]; exact k3)⟩
    rcases g4 with g4 | ⟨g4,g5⟩
    · exact lift (h.sound q' g1 o (by rw [<- g4]; exact ho))
    · rw [g5] at ho
      rcases List.mem_append.1 ho with ho | ho
      · exact lift (h.sound q' g1 o (by rw [g4]; exact ho))
      · obtain ⟨s,k4,k5,k6⟩:=new r2 hr2
        exact ⟨s,k4,k6.trans (List.mem_singleton.1 ho).symm,.inr ⟨by rw [<- g2,g4],k5⟩⟩
  · obtain ⟨q',g1,g2,g3,g4⟩:=old q hq
    obtain ⟨p',k1,k2,k3,_⟩:=old p hp
    rcases hh with hh | ⟨hh1,hh2⟩
    · have:=h.full q' g1 p' k1 (by rw [g2,k2]; exact hh)
      rw [k3] at this
      rcases g4 with g4 | ⟨g4,g5⟩
      · rw [g4]; exact this
      · rw [g5]; rw [g4] at this; exact List.mem_append_left _ this
    · have e1:q'=r:=nodup_on _ h.nn g1 hr (g2.trans hh1)
      have e2:p'=r2:=nodup_on _ h.nn k1 hr2 (k2.trans hh2)
      subst e2
      rw [<- k3]
      have hq2:q={ r with lks:=r.lks ++ [p'.id],row:=w }:=nodup_on (·.name) (by rw [onm]; exact h.nn) hq (by simp) hh1
      rw [hq2]
      exact List.mem_append_right _ (List.mem_singleton_self _)
  · obtain ⟨q',g1,g2,g3,g4⟩:=old q hq
    rcases g4 with g4 | ⟨g4,g5⟩
    · rw [g4]; exact Nat.le_trans (h.few q' g1) (Nat.le_succ _)
    · rw [g5,List.length_append,List.length_singleton]
      have:=h.few r hr
      omega
  · rcases hh with hh | ⟨h1,h2⟩
    · exact h.Hn x y hh
    · exact ⟨(h.named x).1 ⟨r,hr,h1.symm⟩,(h.named y).1 ⟨r2,hr2,h2.symm⟩⟩
end
section
variable {E:List Ev} {rs:List VR} {fl:Marks} {x a b:Bytes} {r r2:VR} {e:Ev}
theorem named_snoc:Named (E ++ [e]) x ↔ Named E x \/ x ∈ namesE e:=by
  unfold Named
  constructor
  · rintro ⟨e',h1,h2⟩
    rcases List.mem_append.1 h1 with h1 | h1
    · exact .inl ⟨e',h1,h2⟩
    · rw [List.mem_singleton.1 h1] at h2; exact .inr h2
  · rintro (⟨e',h1,h2⟩ | h)
    · exact ⟨e',List.mem_append_left _ h1,h2⟩
    · exact ⟨e,List.mem_append_right _ (List.mem_singleton_self _),h⟩
theorem mem_snoc {c:Ev}:c ∈ E ++ [e] ↔ c ∈ E \/ c=e:=by rw [List.mem_append,List.mem_singleton]
theorem lk_snoc:Lk (E ++ [e]) a b ↔ Lk E a b \/ e=.link a b \/ e=.link b a:=by
  unfold Lk
  rw [mem_snoc,mem_snoc]
  constructor
  · rintro ((h | h) | (h | h))
    · exact .inl (.inl h)
    · exact .inr (.inl h.symm)
    · exact .inl (.inr h)
    · exact .inr (.inr h.symm)
  · rintro ((h | h) | (h | h))
    · exact .inl (.inl h)
    · exact .inr (.inl h)
    · exact .inl (.inr h.symm)
    · exact .inr (.inr h.symm)
theorem Told.start:Told [] [] (fun _=>(false,false)) :=
  ⟨by simp,by simp,fun x=>⟨fun ⟨r,h,_⟩=>absurd h (by simp),fun ⟨e,h,_⟩=>absurd h (by simp)⟩,by simp,by simp,by simp,by simp,by simp,fun x h=>absurd h (by simp),fun x h=>absurd h (by simp),fun x y h=>absurd h (by unfold Lk; simp)⟩
theorem Told.use (h:Told E rs fl) {i:Nat} (hi:i ∉ rs.map (·.id)) (hx:¬ ∃ r ∈ rs,r.name=x):Told (E ++ [.use x]) (rs ++ [⟨x,i,[],none⟩]) (fset fl i (false,false)) :=
  (TL.var h hi hx).imp (fun y=>by rw [named_snoc]; simp [namesE]) (fun y=>by rw [mem_snoc]; simp) (fun y=>by rw [mem_snoc]; simp) (fun y z=>by rw [lk_snoc]; simp) (by simp [cntL_snoc,isLk])
theorem Told.has (h:Told E rs fl) (hr:r ∈ rs) (hx:r.name=x):Told (E ++ [.use x]) rs fl :=
  TL.imp h (fun y=>by
    rw [named_snoc]
    constructor
    · exact .inl
    · rintro (h1 | h1)
      · exact h1
      · have:y=x:=by simpa [namesE] using h1
        exact (h.named y).1 ⟨r,hr,hx.trans this.symm⟩) (fun y=>by rw [mem_snoc]; simp) (fun y=>by rw [mem_snoc]; simp) (fun y z=>by rw [lk_snoc]; simp) (by simp [cntL_snoc,isLk])
theorem Told.bad (h:Told E rs fl):Told (E ++ [.bad]) rs fl :=
  TL.imp h (fun y=>by rw [named_snoc]; simp [namesE]) (fun y=>by rw [mem_snoc]; simp) (fun y=>by rw [mem_snoc]; simp) (fun y z=>by rw [lk_snoc]; simp) (by simp [cntL_snoc,isLk])
theorem Told.markS (h:Told (E ++ [.use x]) rs fl) (hr:r ∈ rs) (hx:r.name=x):Told (E ++ [.sc x]) rs (fset fl r.id (true,(fl r.id).2)) :=
  (TL.markS h hr).imp (fun y=>by rw [named_snoc,named_snoc]; simp [namesE]) (fun y=>by rw [mem_snoc,mem_snoc,hx]; simp) (fun y=>by rw [mem_snoc,mem_snoc]; simp) (fun y z=>by rw [lk_snoc,lk_snoc]; simp) (by simp [cntL_snoc,isLk])
theorem Told.markA (h:Told (E ++ [.use x]) rs fl) (hr:r ∈ rs) (hx:r.name=x):Told (E ++ [.ar x]) rs (fset fl r.id ((fl r.id).1,true)) :=
  (TL.markA h hr).imp (fun y=>by rw [named_snoc,named_snoc]; simp [namesE]) (fun y=>by rw [mem_snoc,mem_snoc]; simp) (fun y=>by rw [mem_snoc,mem_snoc,hx]; simp) (fun y z=>by rw [lk_snoc,lk_snoc]; simp) (by simp [cntL_snoc,isLk])
theorem Told.link (h:TL (Named (E ++ [.use b] ++ [.use a])) (fun x=>.sc x ∈ E ++ [.use b] ++ [.use a]) (fun x=>.ar x ∈ E ++ [.use b] ++ [.use a]) (fun x y=>(Lk (E ++ [.use b] ++ [.use a]) x y \/ (x=a/\y=b)) \/ (x=b/\y=a)) (2 * cntL (E ++ [.use b] ++ [.use a]) + 1 + 1) rs fl):Told (E ++ [.link a b]) rs fl :=
  h.imp (fun y=>by rw [named_snoc,named_snoc,named_snoc]; simp [namesE,or_comm,or_assoc]) (fun y=>by rw [mem_snoc,mem_snoc,mem_snoc]; simp) (fun y=>by rw [mem_snoc,mem_snoc,mem_snoc]; simp) (fun y z=>by
    rw [lk_snoc,lk_snoc,lk_snoc]
    constructor
    · rintro ((((h | h | h) | h | h) | ⟨h1,h2⟩) | ⟨h1,h2⟩)
      · exact .inl h
      · cases h
      · cases h
      · cases h
      · cases h
      · exact .inr (.inl (by rw [h1,h2]))
      · exact .inr (.inr (by rw [h1,h2]))
    · rintro (h | h | h)
      · exact .inl (.inl (.inl (.inl h)))
      · cases h; exact .inl (.inr ⟨rfl,rfl⟩)
      · cases h; exact .inr ⟨rfl,rfl⟩) (by rw [cntL_snoc,cntL_snoc,cntL_snoc]; simp only [isLk]; simp; omega)
end
def needB (fl:Marks) (v o:Nat):Bool:=((fl v).1 && !(fl o).1) || ((fl v).2 && !(fl o).2)
def mergeF (fl:Marks) (v o:Nat):Marks:=fset fl o ((fl o).1 || (fl v).1,(fl o).2 || (fl v).2)
def spreadL (v:Nat):List Nat->Marks->List Nat->Marks × List Nat
  | [],fl,todo=>(fl,todo)
  | o :: os,fl,todo=>if needB fl v o=true then spreadL v os (mergeF fl v o) (todo ++ [o]) else spreadL v os fl todo
def cntB (p:Bool × Bool):Nat:=(if p.1=true then 0 else 1) + (if p.2=true then 0 else 1)
def falses (fl:Marks) (l:List Nat):Nat:=(l.map fun i=>cntB (fl i)).sum
theorem falses_ne {fl:Marks} {o:Nat} {v:Bool × Bool}:∀ {l:List Nat},o ∉ l->falses (fset fl o v) l=falses fl l
  | [],_=>rfl
  | i :: l,h=>by
    simp only [List.mem_cons,not_or] at h
    show cntB (fset fl o v i) + falses (fset fl o v) l=cntB (fl i) + falses fl l
    rw [falses_ne h.2,fset_ne _ _ (fun e=>h.1 e.symm)]
theorem falses_merge {fl:Marks} {v o:Nat} (hn:needB fl v o=true):∀ {l:List Nat},l.Nodup->o ∈ l->falses (mergeF fl v o) l + 1 <= falses fl l
  | i :: l,hnd,hm=>by
    rw [List.nodup_cons] at hnd
    show cntB (mergeF fl v o i) + falses (mergeF fl v o) l + 1 <= cntB (fl i) + falses fl l
    by_cases e:o=i
    · subst e
      rw [show falses (mergeF fl v o) l=falses fl l from falses_ne hnd.1]
      have:cntB (mergeF fl v o o) + 1 <= cntB (fl o):=by
        unfold mergeF
        rw [fset_same]
        unfold needB at hn
        revert hn
        generalize fl o=p
        generalize fl v=q
        rcases p with ⟨a,b⟩
        rcases q with ⟨c,d⟩
        cases a <;> cases b <;> cases c <;> cases d <;> decide
      omega
    · have h2:o ∈ l:=by
        rcases List.mem_cons.1 hm with h | h
        · exact absurd h e
        · exact h
      have:=falses_merge hn hnd.2 h2
      have h3:mergeF fl v o i=fl i:=fset_ne _ _ (fun h=>e h.symm)
      rw [h3]
      omega
theorem spreadL_measure {v:Nat} {l:List Nat} (hnd:l.Nodup):∀ (os:List Nat) (fl:Marks) (todo:List Nat),(∀ o ∈ os,o ∈ l)->(spreadL v os fl todo).2.length + falses (spreadL v os fl todo).1 l <= todo.length + falses fl l
  | [],fl,todo,_=>Nat.le_refl _
  | o :: os,fl,todo,h=>by
    rw [spreadL]
    split
    · rename_i hn
      have h1:=spreadL_measure (v:=v) hnd os (mergeF fl v o) (todo ++ [o]) (fun x hx=>h x (List.mem_cons_of_mem _ hx))
      have h2:=falses_merge hn hnd (h o (List.mem_cons_self ..))
      rw [List.length_append,List.length_singleton] at h1
      omega
    · exact spreadL_measure hnd os fl todo (fun x hx=>h x (List.mem_cons_of_mem _ hx))
theorem falses_le (fl:Marks):∀ l:List Nat,falses fl l <= 2 * l.length
  | []=>Nat.le_refl _
  | i :: l=>by
    have:=falses_le fl l
    have h2:cntB (fl i) <= 2:=by unfold cntB; split <;> split <;> omega
    show cntB (fl i) + falses fl l <= _
    rw [List.length_cons]; omega
structure Mid (sp:Bytes->Bool) (E:List Ev) (rs:List VR) (fl:Marks) (todo:List Nat):Prop where
  s1:∀ r ∈ rs,(fl r.id).1=true->IsS sp E r.name
  a1:∀ r ∈ rs,(fl r.id).2=true->IsA E r.name
  s2:∀ r ∈ rs,baseS sp E r.name->(fl r.id).1=true
  a2:∀ r ∈ rs,.ar r.name ∈ E->(fl r.id).2=true
  clo:∀ r ∈ rs,r.id ∉ todo->∀ o ∈ r.lks,((fl r.id).1=true->(fl o).1=true)/\((fl r.id).2=true->(fl o).2=true)
  ids:∀ o ∈ todo,∃ r ∈ rs,r.id=o
section
variable {sp:Bytes->Bool} {E:List Ev} {rs:List VR} {fl:Marks} {todo:List Nat}
structure MidV (sp:Bytes->Bool) (E:List Ev) (rs:List VR) (v:VR) (done:List Nat) (fl:Marks) (todo:List Nat):Prop where
  s1:∀ r ∈ rs,(fl r.id).1=true->IsS sp E r.name
  a1:∀ r ∈ rs,(fl r.id).2=true->IsA E r.name
  s2:∀ r ∈ rs,baseS sp E r.name->(fl r.id).1=true
  a2:∀ r ∈ rs,.ar r.name ∈ E->(fl r.id).2=true
  clo:∀ r ∈ rs,r.id ∉ todo->r.id ≠ v.id->∀ o ∈ r.lks,((fl r.id).1=true->(fl o).1=true)/\((fl r.id).2=true->(fl o).2=true)
  dn:v.id ∉ todo->∀ o ∈ done,((fl v.id).1=true->(fl o).1=true)/\((fl v.id).2=true->(fl o).2=true)
  ids:∀ o ∈ todo,∃ r ∈ rs,r.id=o
theorem merge_grows (fl:Marks) (v o i:Nat):((fl i).1=true->(mergeF fl v o i).1=true)/\((fl i).2=true->(mergeF fl v o i).2=true):=by
  unfold mergeF fset
  split
  · rename_i e; subst e
    constructor <;> intro h <;> simp [h]
  · exact ⟨id,id⟩
theorem merge_v {fl:Marks} {v o:Nat}:mergeF fl v o v=fl v:=by
  unfold mergeF fset
  split
  · rename_i e; subst e; simp
  · rfl
theorem MidV.step {v:VR} {done:List Nat} {o:Nat} {ro:VR} (hni:(rs.map (·.id)).Nodup) (hv:v ∈ rs) (hro:ro ∈ rs) (ho:ro.id=o) (hl:Lk E v.name ro.name) (h:MidV sp E rs v done fl todo) :
    if needB fl v.id o=true then MidV sp E rs v (done ++ [o]) (mergeF fl v.id o) (todo ++ [o]) else MidV sp E rs v (done ++ [o]) fl todo:=by
  split
  · rename_i hn
    have g:=merge_grows fl v.id o
    have hself:∀ r ∈ rs,r.id ≠ o->mergeF fl v.id o r.id=fl r.id:=fun r _ hne=>fset_ne _ _ hne
    refine ⟨?_,?_,fun r hr hb=>(g _).1 (h.s2 r hr hb),fun r hr hb=>(g _).2 (h.a2 r hr hb),?_,?_,?_⟩
    · intro r hr ht
      by_cases e:r.id=o
      · have:r=ro:=nodup_on _ hni hr hro (e.trans ho.symm)
        subst this
        rw [show mergeF fl v.id o r.id=((fl o).1 || (fl v.id).1,(fl o).2 || (fl v.id).2) by rw [e]; exact fset_same ..] at ht
        simp only [Bool.or_eq_true] at ht
        rcases ht with ht | ht
        · exact h.s1 r hr (by rw [e]; exact ht)
        · obtain ⟨y,h1,h2⟩:=h.s1 v hv ht
          exact ⟨y,h1,.step h2 hl⟩
      · rw [hself r hr e] at ht; exact h.s1 r hr ht
    · intro r hr ht
      by_cases e:r.id=o
      · have:r=ro:=nodup_on _ hni hr hro (e.trans ho.symm)
        subst this
        rw [show mergeF fl v.id o r.id=((fl o).1 || (fl v.id).1,(fl o).2 || (fl v.id).2) by rw [e]; exact fset_same ..] at ht
        simp only [Bool.or_eq_true] at ht
        rcases ht with ht | ht
        · exact h.a1 r hr (by rw [e]; exact ht)
        · obtain ⟨y,h1,h2⟩:=h.a1 v hv ht
          exact ⟨y,h1,.step h2 hl⟩
      · rw [hself r hr e] at ht; exact h.a1 r hr ht
    · intro r hr hnt hne p hp
      rw [List.mem_append,List.mem_singleton,not_or] at hnt
      rw [hself r hr hnt.2]
      have:=h.clo r hr hnt.1 hne p hp
      exact ⟨fun hh=>(g _).1 (this.1 hh),fun hh=>(g _).2 (this.2 hh)⟩
    · intro hnt p hp
      rw [List.mem_append,List.mem_singleton,not_or] at hnt
      rw [merge_v]
      rcases List.mem_append.1 hp with hp | hp
      · have:=h.dn hnt.1 p hp
        exact ⟨fun hh=>(g _).1 (this.1 hh),fun hh=>(g _).2 (this.2 hh)⟩
      · rw [List.mem_singleton.1 hp]
        rw [show mergeF fl v.id o o=((fl o).1 || (fl v.id).1,(fl o).2 || (fl v.id).2) from fset_same ..]
        exact ⟨fun hh=>by simp [hh],fun hh=>by simp [hh]⟩
    · intro p hp
      rcases List.mem_append.1 hp with hp | hp
      · exact h.ids p hp
      · rw [List.mem_singleton.1 hp]; exact ⟨ro,hro,ho⟩
  · rename_i hn
    refine ⟨h.s1,h.a1,h.s2,h.a2,h.clo,?_,h.ids⟩
    intro hnt p hp
    rcases List.mem_append.1 hp with hp | hp
    · exact h.dn hnt p hp
    · rw [List.mem_singleton.1 hp]
      unfold needB at hn
      constructor
      · intro hh; cases ho':(fl o).1 with
        | true=>rfl
        | false=>rw [hh,ho'] at hn; simp at hn
      · intro hh; cases ho':(fl o).2 with
        | true=>rfl
        | false=>rw [hh,ho'] at hn; simp at hn
theorem MidV.all {v:VR} (hni:(rs.map (·.id)).Nodup) (hv:v ∈ rs):∀ (os done:List Nat) (fl:Marks) (todo:List Nat),(∀ o ∈ os,∃ r ∈ rs,r.id=o/\Lk E v.name r.name)->MidV sp E rs v done fl todo->MidV sp E rs v (done ++ os) (spreadL v.id os fl todo).1 (spreadL v.id os fl todo).2
  | [],done,fl,todo,_,h=>by rw [List.append_nil]; exact h
  | o :: os,done,fl,todo,ho,h=>by
    obtain ⟨ro,h1,h2,h3⟩:=ho o (List.mem_cons_self ..)
    have hs:=h.step hni hv h1 h2 h3
    rw [spreadL]
    have e:done ++ o :: os=(done ++ [o]) ++ os:=by simp
    rw [e]
    split at hs
    · rename_i hn
      rw [if_pos hn]
      exact MidV.all hni hv os _ _ _ (fun x hx=>ho x (List.mem_cons_of_mem _ hx)) hs
    · rename_i hn
      rw [if_neg hn]
      exact MidV.all hni hv os _ _ _ (fun x hx=>ho x (List.mem_cons_of_mem _ hx)) hs
theorem Mid.round {fl0:Marks} (T:Told E rs fl0) {v:VR} {todo:List Nat} (hv:v ∈ rs) (h:Mid sp E rs fl (todo ++ [v.id])):Mid sp E rs (spreadL v.id v.lks fl todo).1 (spreadL v.id v.lks fl todo).2:=by
  have h0:MidV sp E rs v [] fl todo:=by
    refine ⟨h.s1,h.a1,h.s2,h.a2,?_,fun _ o ho=>absurd ho (by simp),fun o ho=>h.ids o (List.mem_append_left _ ho)⟩
    intro r hr hnt hne
    exact h.clo r hr (by rw [List.mem_append,List.mem_singleton,not_or]; exact ⟨hnt,hne⟩)
  have h1:=MidV.all T.ni hv v.lks [] fl todo (T.sound v hv) h0
  rw [List.nil_append] at h1
  refine ⟨h1.s1,h1.a1,h1.s2,h1.a2,?_,h1.ids⟩
  intro r hr hnt
  by_cases e:r.id=v.id
  · have:r=v:=nodup_on _ T.ni hr hv e
    subst this
    exact h1.dn hnt
  · exact h1.clo r hr hnt e
theorem Mid.last {fl0:Marks} (T:Told E rs fl0) (h:Mid sp E rs fl []):∀ r ∈ rs,((fl r.id).1=true ↔ IsS sp E r.name)/\((fl r.id).2=true ↔ IsA E r.name):=by
  have key:∀ (x y:Bytes),Conn (Lk E) x y->Named E x->∃ r ∈ rs,r.name=x/\∃ r' ∈ rs,r'.name=y/\((fl r.id).1=true->(fl r'.id).1=true)/\((fl r.id).2=true->(fl r'.id).2=true):=by
    intro x y c hx
    induction c with
    | refl=>obtain ⟨r,h1,h2⟩:=(T.named _).2 hx; exact ⟨r,h1,h2,r,h1,h2,id,id⟩
    | step _ hl ih =>
      obtain ⟨r,h1,h2,r',h3,h4,h5,h6⟩:=ih
      obtain ⟨r2,h7,h8⟩:=(T.named _).2 hl.named
      have h9:=T.full r' h3 r2 h7 (by rw [h4,h8]; exact hl)
      have h10:=h.clo r' h3 (by simp) _ h9
      exact ⟨r,h1,h2,r2,h7,h8,fun hh=>h10.1 (h5 hh),fun hh=>h10.2 (h6 hh)⟩
  have name_eq:∀ {r r':VR},r ∈ rs->r' ∈ rs->r.name=r'.name->r=r':=fun hr hr' e=>nodup_on _ T.nn hr hr' e
  intro r hr
  refine ⟨⟨h.s1 r hr,?_⟩,⟨h.a1 r hr,?_⟩⟩
  · rintro ⟨y,hb,hc⟩
    have hy:Named E y:=hb.elim (fun h=>⟨_,h,by simp [namesE]⟩) (fun h=>h.2)
    obtain ⟨r1,h1,h2,r2,h3,h4,h5,_⟩:=key y r.name hc hy
    rw [name_eq h3 hr h4] at h5
    exact h5 (h.s2 r1 h1 (by rw [h2]; exact hb))
  · rintro ⟨y,hb,hc⟩
    have hy:Named E y:=⟨_,hb,by simp [namesE]⟩
    obtain ⟨r1,h1,h2,r2,h3,h4,_,h5⟩:=key y r.name hc hy
    rw [name_eq h3 hr h4] at h5
    exact h5 (h.a2 r1 h1 (by rw [h2]; exact hb))
end
end Go.AD.Lx
namespace Go.AD.Lx
def funcsN (l:List NTree):List NTree:=l.filter fun n=>n.op == kFunc
def evI (fs:List NTree) (n:NTree):List Ev:=if n.op=kFunc then evNs fs n n.kids.tail else evNs fs noF n.kids
def evL (fs l:List NTree):List Ev:=l.flatMap (evI fs)
structure DeclS (sp:Bytes->Bool) (fs:List NTree):Prop where
  once:(fs.map (·.text)).Nodup
  plain:∀ f ∈ fs,sp f.text=false/\f.kids ≠ []
  pars:∀ f ∈ fs,((paramsN f).map (·.text)).Nodup/\∀ p ∈ paramsN f,sp p.text=false/\funF fs p.text=none
def WrongN (sp:Bytes->Bool) (l:List NTree):Prop :=
  ¬ DeclS sp (funcsN l) \/ .bad ∈ evL (funcsN l) l \/ ∃ x,Named (evL (funcsN l) l) x/\((IsS sp (evL (funcsN l) l) x/\IsA (evL (funcsN l) l) x) \/ (funF (funcsN l) x).isSome=true)
structure NamesOf (lt:Bytes->Bytes->Bool) (l:List NTree) (F S A P:List Bytes):Prop where
  rF:F.Pairwise (fun a b=>lt a b=true)
  rS:S.Pairwise (fun a b=>lt a b=true)
  rA:A.Pairwise (fun a b=>lt a b=true)
  rP:P.Pairwise (fun a b=>lt a b=true)
  mF:∀ x,x ∈ F ↔ (funF (funcsN l) x).isSome=true
  mS:∀ x,x ∈ S ↔ Named (evL (funcsN l) l) x/\¬ IsA (evL (funcsN l) l) x/\46 ∉ x
  mA:∀ x,x ∈ A ↔ Named (evL (funcsN l) l) x/\IsA (evL (funcsN l) l) x/\46 ∉ x
  mP:∀ x,x ∈ P ↔ Named (evL (funcsN l) l) x/\IsA (evL (funcsN l) l) x/\46 ∈ x
theorem rising_ext {lt:Bytes->Bytes->Bool} (hi:∀ x,lt x x=false) (ha:∀ x y,lt x y=true->lt y x=false):∀ l l':List Bytes,l.Pairwise (fun a b=>lt a b=true)->l'.Pairwise (fun a b=>lt a b=true)->(∀ x,x ∈ l ↔ x ∈ l')->l=l'
  | [],[],_,_,_=>rfl
  | [],b :: t',_,_,h=>by have:=(h b).2 (List.mem_cons_self ..); cases this
  | a :: t,[],_,_,h=>by have:=(h a).1 (List.mem_cons_self ..); cases this
  | a :: t,b :: t',h1,h2,h=>by
    rw [List.pairwise_cons] at h1 h2
    have e:a=b:=by
      rcases List.mem_cons.1 ((h a).1 (List.mem_cons_self ..)) with e | e
      · exact e
      rcases List.mem_cons.1 ((h b).2 (List.mem_cons_self ..)) with e' | e'
      · exact e'.symm
      have:=ha _ _ (h1.1 b e')
      rw [h2.1 a e] at this; cases this
    subst e
    rw [rising_ext hi ha t t' h1.2 h2.2]
    intro x
    constructor
    · intro hx
      rcases List.mem_cons.1 ((h x).1 (List.mem_cons_of_mem _ hx)) with e | e
      · subst e; have:=h1.1 x hx; rw [hi] at this; cases this
      · exact e
    · intro hx
      rcases List.mem_cons.1 ((h x).2 (List.mem_cons_of_mem _ hx)) with e | e
      · subst e; have:=h2.1 x hx; rw [hi] at this; cases this
      · exact e
theorem funF_some {fs:List NTree} (hn:(fs.map (·.text)).Nodup) {f:NTree} {x:Bytes}:funF fs x=some f ↔ f ∈ fs/\f.text=x:=by
  unfold funF
  induction fs with
  | nil=>simp
  | cons g l ih =>
    rw [List.map_cons,List.nodup_cons] at hn
    rw [List.find?_cons]
    by_cases h:g.text=x
    · rw [show (g.text == x)=true from beq_iff_eq.2 h]
      constructor
      · intro e; cases e; exact ⟨List.mem_cons_self ..,h⟩
      · rintro ⟨h1,h2⟩
        rcases List.mem_cons.1 h1 with rfl | h1
        · rfl
        · exact absurd (List.mem_map.2 ⟨f,h1,h2.trans h.symm⟩) hn.1
    · rw [show (g.text == x)=false from beq_eq_false_iff_ne.2 h]
      show l.find? _=some f ↔ _
      rw [ih hn.2]
      constructor
      · rintro ⟨h1,h2⟩; exact ⟨List.mem_cons_of_mem _ h1,h2⟩
      · rintro ⟨h1,h2⟩
        rcases List.mem_cons.1 h1 with rfl | h1
        · exact absurd h2 h
        · exact ⟨h1,h2⟩
theorem funF_isSome {fs:List NTree} {x:Bytes}:(funF fs x).isSome=true ↔ ∃ f ∈ fs,f.text=x:=by
  unfold funF
  rw [List.find?_isSome]
  constructor
  · rintro ⟨f,h1,h2⟩; exact ⟨f,h1,beq_iff_eq.1 h2⟩
  · rintro ⟨f,h1,h2⟩; exact ⟨f,h1,beq_iff_eq.2 h2⟩
theorem funF_perm {fs gs:List NTree} (hp:fs.Perm gs) (hn:(fs.map (·.text)).Nodup) (x:Bytes):funF fs x=funF gs x:=by
  have hn2:(gs.map (·.text)).Nodup:=(hp.map _).nodup_iff.1 hn
  cases h:funF fs x with
  | some f =>
    obtain ⟨h1,h2⟩:=(funF_some hn).1 h
    exact ((funF_some hn2).2 ⟨hp.mem_iff.1 h1,h2⟩).symm
  | none =>
    cases h':funF gs x with
    | none=>rfl
    | some f =>
      obtain ⟨h1,h2⟩:=(funF_some hn2).1 h'
      rw [(funF_some hn).2 ⟨hp.mem_iff.2 h1,h2⟩] at h; cases h
section
variable {fs gs:List NTree}
mutual
theorem evN_ext (hf:∀ x,funF fs x=funF gs x) (f:NTree):∀ n:NTree,evN fs f n=evN gs f n
  | .mk op text kids=>by
    have ih:=evNs_ext hf f kids
    unfold evN
    rw [hf text,ih]
    split
    · split
      · rfl
      · split
        · rfl
        · exact evAs_ext hf f _ kids _
    split
    · rfl
    split
    · rfl
    split
    · cases kids with
      | nil=>rfl
      | cons k ks=>simp only; rw [evNs_ext hf f ks]
    split
    · match kids,ih with
      | [],ih=>rfl
      | [a],ih=>exact ih
      | a :: b :: ks,ih=>simp only; rw [evN_ext hf f a,evN_ext hf f b,evNs_ext hf f ks]
    · rfl
theorem evNs_ext (hf:∀ x,funF fs x=funF gs x) (f:NTree):∀ l:List NTree,evNs fs f l=evNs gs f l
  | []=>by rw [evNs,evNs]
  | n :: l=>by rw [evNs,evNs,evN_ext hf f n,evNs_ext hf f l]
theorem evAs_ext (hf:∀ x,funF fs x=funF gs x) (f g:NTree):∀ l ps:List NTree,evAs fs f g l ps=evAs gs f g l ps
  | [],ps=>by unfold evAs; rfl
  | k :: ks,[]=>by unfold evAs; rfl
  | k :: ks,p :: ps=>by rw [evAs,evAs,evN_ext hf f k,evAs_ext hf f g ks ps]
end
theorem evL_ext (hf:∀ x,funF fs x=funF gs x) (l:List NTree):evL fs l=evL gs l:=by
  unfold evL
  congr 1
  funext n
  unfold evI
  rw [evNs_ext hf,evNs_ext hf]
end
section
variable {sp:Bytes->Bool} {a b:List NTree}
theorem funcs_perm (a b:List NTree):(funcsN (a ++ b)).Perm (funcsN (b ++ a)):=(List.perm_append_comm).filter _
theorem DeclS.turn {fs gs:List NTree} (hp:fs.Perm gs) (h:DeclS sp fs):DeclS sp gs:=by
  refine ⟨(hp.map _).nodup_iff.1 h.once,fun f hf=>h.plain f (hp.mem_iff.2 hf),fun f hf=>?_⟩
  have:=h.pars f (hp.mem_iff.2 hf)
  exact ⟨this.1,fun p hpm=>⟨(this.2 p hpm).1,by rw [<- funF_perm hp h.once]; exact (this.2 p hpm).2⟩⟩
theorem ev_turn (h:DeclS sp (funcsN (a ++ b))):SameE (evL (funcsN (a ++ b)) (a ++ b)) (evL (funcsN (b ++ a)) (b ++ a)):=by
  intro e
  rw [evL_ext (funF_perm (funcs_perm a b) h.once)]
  unfold evL
  rw [List.flatMap_append,List.flatMap_append,List.mem_append,List.mem_append,Or.comm]
theorem wrong_turn' (h:WrongN sp (a ++ b)):WrongN sp (b ++ a):=by
  by_cases hd:DeclS sp (funcsN (a ++ b))
  · have he:=ev_turn hd
    rcases h with h | h | ⟨x,h1,h2⟩
    · exact absurd hd h
    · exact .inr (.inl ((he _).1 h))
    · refine .inr (.inr ⟨x,he.named h1,?_⟩)
      rcases h2 with ⟨h2,h3⟩ | h2
      · exact .inl ⟨he.isS h2,he.isA h3⟩
      · exact .inr (by rw [<- funF_perm (funcs_perm a b) hd.once]; exact h2)
  · exact .inl fun h=>hd (h.turn (funcs_perm b a))
theorem wrong_turn:WrongN sp (a ++ b) ↔ WrongN sp (b ++ a):=⟨wrong_turn',wrong_turn'⟩
theorem names_turn {lt:Bytes->Bytes->Bool} (hi:∀ x,lt x x=false) (ha:∀ x y,lt x y=true->lt y x=false) (hw:¬ WrongN sp (a ++ b)) {F S A P F' S' A' P':List Bytes}
    (h:NamesOf lt (a ++ b) F S A P) (h':NamesOf lt (b ++ a) F' S' A' P'):F=F'/\S=S'/\A=A'/\P=P':=by
  have hd:DeclS sp (funcsN (a ++ b)):=Classical.byContradiction fun hd=>hw (.inl hd)
  have he:=ev_turn hd
  have hn:∀ x,Named (evL (funcsN (a ++ b)) (a ++ b)) x ↔ Named (evL (funcsN (b ++ a)) (b ++ a)) x:=fun x=>⟨he.named,he.symm.named⟩
  have hA:∀ x,IsA (evL (funcsN (a ++ b)) (a ++ b)) x ↔ IsA (evL (funcsN (b ++ a)) (b ++ a)) x:=fun x=>⟨he.isA,he.symm.isA⟩
  refine ⟨rising_ext hi ha _ _ h.rF h'.rF fun x=>?_,rising_ext hi ha _ _ h.rS h'.rS fun x=>?_,rising_ext hi ha _ _ h.rA h'.rA fun x=>?_,rising_ext hi ha _ _ h.rP h'.rP fun x=>?_⟩
  · rw [h.mF,h'.mF,funF_perm (funcs_perm a b) hd.once]
  · rw [h.mS,h'.mS,hn,hA]
  · rw [h.mA,h'.mA,hn,hA]
  · rw [h.mP,h'.mP,hn,hA]
end
end Go.AD.Lx

set_option linter.unusedVariables false
set_option linter.unusedSimpArgs false
set_option maxRecDepth 100000
namespace Go.AD.Lx
open Go.Proofs RowKit
def strsA (l:List Bytes):List AV:=l.map fun s=>.pv (.str s)
section
variable {w0 w w':World} {ρ:Gh} {σ:AS}
theorem RelH.put (H:RelH w0 ρ σ w) {id:Nat} {cs:List AV} {var:Option TypeId} (ho:σ id=some (.cells cs var)) {b o m:Nat} (hl:ρ.loc id=some (b,o,m)) (d:List Bytes) (hd:d.length=cs.length) :
    RelH w0 ρ (σ.set id (.cells (strsA d) var)) (Go.Sort.putRow encStr w b o d.toArray):=by
  obtain ⟨b',o',m',cur,e,fz,hl',hB,hb,hf,hms,hle,hok,hr,hi,hvar⟩:=H.obj id _ ho
  rw [hl] at hl'
  cases hl'
  have hhb:(Go.Sort.putRow encStr w b o d.toArray).heap[b]?=some (.cells (Go.Sort.putCells encStr o d.toArray cur) e fz):=by
    simp [Go.Sort.putRow,Go.Sort.mapBlock,Array.getElem?_modify,hb,Go.Sort.onCells]
  have hother:∀ k,k ≠ b->(Go.Sort.putRow encStr w b o d.toArray).heap[k]?=w.heap[k]?:=fun k hk=>by
    simp [Go.Sort.putRow,Go.Sort.mapBlock,Array.getElem?_modify,Ne.symm hk]
  have hcs:(Go.Sort.putCells encStr o d.toArray cur).size=cur.size:=by simp [Go.Sort.putCells]
  have hdl:(strsA d).length=d.length:=by simp [strsA]
  refine RelH.turn H (Gh.le_refl ρ) (H.below.trans (show Below w0.heap.size w (Go.Sort.putRow encStr w b o d.toArray) from ⟨rfl,rfl,rfl,by simp,fun k hk=>hother k (by omega)⟩)) ?_ id _ ?_ ?_ ?_ (H.bound_set id _ (fun ρ=>ρ) (fun j _ h4 h5=>⟨h4,h5⟩))
  · intro b' p v hv
    have hne:b' ≠ b:=fun he=>by subst he; exact hi _ _ hv
    rw [World.cell?_of_block (w:=w) (hother b' hne)]
    exact H.imm _ _ _ hv
  · intro j oj b' hj hoj hb'
    refine ⟨hother b' (fun he=>?_),fun _=>rfl,fun _=>rfl⟩
    subst he
    exact hj (H.apart j id oj _ hoj ho (by rw [hb']; simp [blkOf,hl]))
  · refine ⟨b,o,m,_,e,fz,hl,hB,hhb,by rw [hcs]; exact hf,by rw [hcs]; exact hms,by rw [hdl,hd]; exact hle,?_,?_,hi,fun t ht=>?_⟩
    · unfold strsA; simp [AV.cellOk]
    · refine RelL.of_get? ?_ ?_
      · have e1:(Go.Sort.putCells encStr o d.toArray cur).toList.length=cur.size:=by rw [Array.length_toList,hcs]
        rw [List.length_take,List.length_drop,e1,hdl,hd]; omega
      · intro i c v hc hv
        rw [hdl] at hv
        rw [List.getElem?_take] at hv
        split at hv
        · rename_i hlt
          rw [List.getElem?_drop,Array.getElem?_toList] at hv
          have hcur:o + i < cur.size:=by omega
          simp only [Go.Sort.putCells,Array.getElem?_mapIdx,Array.getElem?_eq_getElem hcur,Option.map_some,List.size_toArray] at hv
          rw [if_pos ⟨by omega,by omega⟩,show o + i - o=i by omega] at hv
          unfold strsA at hc
          rw [List.getElem?_map,List.getElem?_eq_getElem hlt] at hc
          cases hc
          have e1:d.toArray[i]! = d[i]:=by
            rw [getElem!_pos _ i (by simpa using hlt)]; simp
          rw [e1] at hv
          cases hv
          exact .pv (.str d[i])
        · cases hv
    · obtain ⟨h1,h2,h3⟩:=hvar t ht
      exact ⟨h1,h2,by rw [hcs,hdl,hd]; exact h3⟩
  · intro j oj hj hoj he
    exact hj (H.apart j id oj _ hoj ho (by rw [he]; simp [blkOf,hl]))
end
def T_sort:Tr:=fun args σ K _=>∃ (v:AV) (l:List Bytes),args=[v]/\l.length <= 1000000000/\((v=.nilS/\K (.tuple []) σ) \/
  ∃ id var,v=.msl id 0 l.length 1/\σ id=some (.cells (strsA l) var)/\K (.tuple []) (σ.set id (.cells (strsA (sortS l)) var)))
theorem F_sort:SoundF PS 25 T_sort:=by
  rintro w0 hS ρ σ w args us K X H hr ⟨v,l,rfl,hn,h⟩
  obtain ⟨u,us',rfl,hu,hr⟩:=hr.uncons
  obtain rfl:us'=[]:=hr.nil_inv
  refine ⟨Tryz.call25 _ w,?_⟩
  rcases h with ⟨rfl,hK⟩ | ⟨id,var,rfl,ho,hK⟩
  · cases hu
    refine (Tryz.slices_Sort_string_none none 0 w).mono fun e W' ⟨he,hW⟩=>?_
    subst he hW
    exact ⟨ρ,σ,Gh.le_refl ρ,H,_,RelV.of_tuple (.nil ρ),hK⟩
  · cases hu with
    | msl _ _ _ _ b o m cap hl hnc hcm hfit =>
      obtain ⟨b',o',m',cur,e,fz,hl',hB,hb,hf,hms,hle,hok,hrr,hi,hvar⟩:=H.obj id _ ho
      have hl0:=hl
      rw [hl] at hl'
      cases hl'
      have hln:(strsA l).length=l.length:=by simp [strsA]
      rw [hln] at hle hrr
      have hH:Go.Sort.Holds encStr w b (o + 0) l.toArray:=by
        intro j hj
        have hj':j < l.length:=by simpa using hj
        have hcur:o + j < cur.size:=by omega
        have hcell:cur[o + j]'hcur=.string ⟨l[j].toArray⟩:=by
          have hg:(strsA l)[j]?=some (.pv (.str l[j])):=by unfold strsA; rw [List.getElem?_map,List.getElem?_eq_getElem hj']; rfl
          obtain ⟨x,hx,hrx⟩:=RelL.get? hrr j hg
          rw [List.getElem?_take,if_pos hj',List.getElem?_drop,Array.getElem?_toList,Array.getElem?_eq_getElem hcur] at hx
          cases hx
          exact relStr hrx
        have e1:l.toArray[j]! = l[j]:=by
          rw [getElem!_pos _ j hj]; simp
        refine ⟨?_,frozen_no hb hf (by omega)⟩
        rw [cell_of_row w b _ cur e fz hb,e1,Array.getElem?_eq_getElem (by omega)]
        simp only [Nat.add_zero]
        rw [hcell]
      have hblk:b < w.heap.size:=(Array.getElem?_eq_some_iff.1 hb).1
      have hc:=Tryz.slices_Sort_string b (o + 0) cap l w hH hblk (by omega)
      refine hc.mono fun e' W' ⟨he,n,os,hW⟩=>?_
      subst he
      have hp:(sortS l).length=(strsA l).length:=by rw [sortS_len,hln]
      have H1:=RelH.put (RelH.drawn H (w.drawn + n)) ho hl0 (sortS l) hp
      have H2:RelH w0 ρ (σ.set id (.cells (strsA (sortS l)) var)) W':=by
        rw [hW]
        refine RelH.grew H1 ⟨rfl,rfl,rfl,by simp [Go.Sort.grow],fun k hk=>Go.Sort.heap_grow_old _ os hk⟩
      exact ⟨ρ,_,Gh.le_refl ρ,H2,_,RelV.of_tuple (.nil ρ),hK⟩
theorem sortS_perm (l:List Bytes):(sortS l).Perm l:=List.mergeSort_perm l _
theorem sortS_rises {l:List Bytes} (hn:l.Nodup):(sortS l).Pairwise (fun a b=>Op.bytesLess a b=true):=by
  have h1:(sortS l).Pairwise (fun a b=>decide (a <= b)=true):=List.pairwise_mergeSort (fun a b c h1 h2=>by
      rw [decide_eq_true_eq] at *; exact List.le_trans h1 h2) (fun a b=>by
      rw [Bool.or_eq_true,decide_eq_true_eq,decide_eq_true_eq]; exact List.le_total a b) l
  have h2:(sortS l).Nodup:=(sortS_perm l).nodup_iff.2 hn
  have h3:=List.Pairwise.and h1 h2
  refine h3.imp fun {a b} h=>?_
  obtain ⟨h4,h5⟩:=h
  rw [decide_eq_true_eq] at h4
  rw [bytesLess_eq,decide_eq_true_eq]
  by_cases h:a < b
  · exact h
  · exact absurd (List.le_antisymm h4 (List.not_lt.1 h)) h5
theorem less_irrefl (x:Bytes):Op.bytesLess x x=false:=by rw [bytesLess_eq]; exact decide_eq_false (List.lt_irrefl x)
theorem less_asymm (x y:Bytes) (h:Op.bytesLess x y=true):Op.bytesLess y x=false:=by
  rw [bytesLess_eq] at h ⊢
  exact decide_eq_false (List.lt_asymm (of_decide_eq_true h))
end Go.AD.Lx
