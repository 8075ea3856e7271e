import Derived.Test.YteabilbccbhecaaGreatDoorAd1
import Derived.ShapedOpen
import Derived.Laws.StructEq
set_option linter.unusedVariables false
namespace Go.AD
theorem Fr.get_put (fr:Fr) (d t:Nat) (v:AV):Fr.get (Fr.put fr (some d) v) t=if d=t then v else Fr.get fr t:=rfl
theorem AS.set_same (σ:AS) (id:Nat) (o:AObj):(σ.set id o) id=some o:=by simp [AS.set]
theorem AS.set_ne (σ:AS) {id id':Nat} (o:AObj) (h:id' ≠ id):(σ.set id o) id'=σ id':=by simp [AS.set,h]
theorem AS.sub_refl (σ:AS):σ.sub σ:=fun _ _ h=>h
structure Gh where
  imm:Nat->Nat->Option Value
  loc:Nat->Option (Nat × Nat × Nat)
  lin:Nat->Nat->Option (Addr × Nat)
structure Gh.le (ρ ρ':Gh):Prop where
  imm:∀ b o v,ρ.imm b o=some v->ρ'.imm b o=some v
  loc:∀ i x,ρ.loc i=some x->ρ'.loc i=some x
  lin:∀ i n x,ρ.lin i n=some x->ρ'.lin i n=some x
theorem Gh.le_refl (ρ:Gh):ρ.le ρ:=⟨fun _ _ _ h=>h,fun _ _ h=>h,fun _ _ _ h=>h⟩
theorem Gh.le_trans {a b c:Gh} (h:a.le b) (k:b.le c):a.le c :=
  ⟨fun b o v e=>k.imm b o v (h.imm b o v e),fun i x e=>k.loc i x (h.loc i x e),fun i n x e=>k.lin i n x (h.lin i n x e)⟩
def ImmAt (imm:Nat->Nat->Option Value) (b o:Nat) (vs:List Value):Prop:=∀ i,i < vs.length->imm b (o + i)=some (vs.getD i undef)
inductive RelP (imm:Nat->Nat->Option Value):PV->Value->Prop where
  | bool (b):RelP imm (.bool b) (.bool b)
  | int (k n):RelP imm (.int k n) (.int k n)
  | float (k b):RelP imm (.float k b) (.float k b)
  | str (l:List UInt8):RelP imm (.str l) (.string ⟨l.toArray⟩)
  | nilPtr:RelP imm .nilPtr (.pointer none)
  | lst (n:Nat) (cells:List PV) (A:Option Addr) (cap b o:Nat) (vs:List Value) (hn:n <= cap) (hA:cells=[] \/ A=some ⟨b,o,none⟩) (hl:vs.length=cells.length)
      (hi:ImmAt imm b o vs) (hr:∀ i (h:i < cells.length),RelP imm cells[i] (vs.getD i undef)):RelP imm (.lst n cells) (.slice A n cap)
  | nilFunc:RelP imm .nilFunc .nilFunc
  | func (f):RelP imm (.func f) (.func (.func f) #[] #[])
  | nilIface:RelP imm .nilIface .nilIface
  | ifaceOne (t c v) (hc:RelP imm c v):RelP imm (.iface t false [c]) (.iface t v)
  | ifaceAgg (t:TypeId) (cells:List PV) (vs:List Value) (hl:vs.length=cells.length) (hr:∀ i (h:i < cells.length),RelP imm cells[i] (vs.getD i undef)) :
      RelP imm (.iface t true cells) (.iface t (.agg vs.toArray))
theorem RelP.mono {imm imm':Nat->Nat->Option Value} (hm:∀ b o v,imm b o=some v->imm' b o=some v) {p:PV} {v:Value} (h:RelP imm p v):RelP imm' p v:=by
  induction h with
  | bool b=>exact .bool b
  | int k n=>exact .int k n
  | float k b=>exact .float k b
  | str l=>exact .str l
  | nilPtr=>exact .nilPtr
  | lst n cells A cap b o vs hn hA hl hi hr ih=>exact .lst n cells A cap b o vs hn hA hl (fun i h=>hm _ _ _ (hi i h)) ih
  | nilFunc=>exact .nilFunc
  | func f=>exact .func f
  | nilIface=>exact .nilIface
  | ifaceOne t c v hc ih=>exact .ifaceOne t c v ih
  | ifaceAgg t cells vs hl hr ih=>exact .ifaceAgg t cells vs hl ih
inductive RelV (ρ:Gh):AV->Value->Prop where
  | undef (v):RelV ρ .undef v
  | pv {p v} (h:RelP ρ.imm p v):RelV ρ (.pv p) v
  | addr (id off b o m) (h:ρ.loc id=some (b,o,m)):RelV ρ (.addr id off) (.pointer (some ⟨b,o + off,none⟩))
  | elemP (cells:List PV) (off b o:Nat) (vs:List Value) (hl:vs.length=cells.length) (hi:ImmAt ρ.imm b o vs) (hr:∀ i (h:i < cells.length),RelP ρ.imm cells[i] (vs.getD i undef)) :
      RelV ρ (.elemP cells off) (.pointer (some ⟨b,o + off,none⟩))
  | nilS:RelV ρ .nilS (.slice none 0 0)
  | glob (g off:Nat):RelV ρ (.glob g off) (.pointer (some ⟨g,off,none⟩))
  | cut (n:Nat) (cells:List PV) (A:Option Addr) (b o:Nat) (vs:List Value) (hA:cells=[] \/ A=some ⟨b,o,none⟩) (hl:vs.length=cells.length) (hi:ImmAt ρ.imm b o vs)
      (hr:∀ i (h:i < cells.length),RelP ρ.imm cells[i] (vs.getD i undef)):RelV ρ (.cut n cells) (.slice A n n)
  | grow (id n:Nat) (cells:List PV) (b o cap:Nat) (vs:List Value) (h:ρ.lin id n=some (⟨b,o,none⟩,cap)) (hn:n <= cap) (hl:vs.length=cells.length)
      (hi:ImmAt ρ.imm b o vs) (hr:∀ i (h:i < cells.length),RelP ρ.imm cells[i] (vs.getD i undef)):RelV ρ (.grow id n cells) (.slice (some ⟨b,o,none⟩) n cap)
  | full (n:Nat) (cells:List PV) (b o:Nat) (vs:List Value) (hl:vs.length=cells.length) (hi:ImmAt ρ.imm b o vs)
      (hr:∀ i (h:i < cells.length),RelP ρ.imm cells[i] (vs.getD i undef)):RelV ρ (.full n cells) (.slice (some ⟨b,o,none⟩) n n)
  | msl (id off n size b o m cap:Nat) (h:ρ.loc id=some (b,o,m)) (hn:n <= cap) (hc:cap <= maxLen) (hm:o + off + cap * size <= m):RelV ρ (.msl id off n size) (.slice (some ⟨b,o + off,none⟩) n cap)
  | clo (f:FuncId) (first cap:List AV) (vs us:List Value) (hl:vs.length=first.length) (hr:∀ i (h:i < first.length),RelV ρ first[i] (vs.getD i undef))
      (hl':us.length=cap.length) (hr':∀ i (h:i < cap.length),RelV ρ cap[i] (us.getD i undef)):RelV ρ (.clo f first cap) (.func (.func f) vs.toArray us.toArray)
  | agg (cs:List AV) (vs:List Value) (hl:vs.length=cs.length) (hr:∀ i (h:i < cs.length),RelV ρ cs[i] (vs.getD i undef)):RelV ρ (.agg cs) (.agg vs.toArray)
  | tuple (cs:List AV) (vs:List Value) (hl:vs.length=cs.length) (hr:∀ i (h:i < cs.length),RelV ρ cs[i] (vs.getD i undef)):RelV ρ (.tuple cs) (.tuple vs.toArray)
  | iter (id b m) (h:ρ.loc id=some (b,0,m)):RelV ρ (.iter id) (.pointer (some ⟨b,0,none⟩))
  | amap (id b m) (h:ρ.loc id=some (b,0,m)):RelV ρ (.amap id) (.map (some b))
  | any (v:Value) (h1:v.oneCell'=true) (h2:v.cells=#[v]):RelV ρ .any v
theorem RelV.mono {ρ ρ':Gh} (hm:ρ.le ρ') {v:AV} {u:Value} (h:RelV ρ v u):RelV ρ' v u:=by
  induction h with
  | undef v=>exact .undef v
  | pv h=>exact .pv (h.mono hm.imm)
  | addr id off b o m h=>exact .addr id off b o m (hm.loc _ _ h)
  | elemP cells off b o vs hl hi hr=>exact .elemP cells off b o vs hl (fun i h=>hm.imm _ _ _ (hi i h)) (fun i h=>(hr i h).mono hm.imm)
  | nilS=>exact .nilS
  | glob g off=>exact .glob g off
  | cut n cells A b o vs hA hl hi hr=>exact .cut n cells A b o vs hA hl (fun i h=>hm.imm _ _ _ (hi i h)) (fun i h=>(hr i h).mono hm.imm)
  | grow id n cells b o cap vs h hn hl hi hr=>exact .grow id n cells b o cap vs (hm.lin _ _ _ h) hn hl (fun i h=>hm.imm _ _ _ (hi i h)) (fun i h=>(hr i h).mono hm.imm)
  | full n cells b o vs hl hi hr=>exact .full n cells b o vs hl (fun i h=>hm.imm _ _ _ (hi i h)) (fun i h=>(hr i h).mono hm.imm)
  | msl id off n size b o m cap h hn hc hm'=>exact .msl id off n size b o m cap (hm.loc _ _ h) hn hc hm'
  | clo f first cap vs us hl hr hl' hr' ih ih'=>exact .clo f first cap vs us hl ih hl' ih'
  | agg cs vs hl hr ih=>exact .agg cs vs hl ih
  | tuple cs vs hl hr ih=>exact .tuple cs vs hl ih
  | iter id b m h=>exact .iter id b m (hm.loc _ _ h)
  | amap id b m h=>exact .amap id b m (hm.loc _ _ h)
  | any v h1 h2=>exact .any v h1 h2
def RelL (ρ:Gh) (cs:List AV) (vs:List Value):Prop:=vs.length=cs.length/\∀ i (h:i < cs.length),RelV ρ cs[i] (vs.getD i undef)
theorem RelL.nil (ρ:Gh):RelL ρ [] []:=⟨rfl,fun i h=>absurd h (by simp)⟩
theorem RelL.cons {ρ:Gh} {c:AV} {v:Value} {cs:List AV} {vs:List Value} (h:RelV ρ c v) (k:RelL ρ cs vs):RelL ρ (c :: cs) (v :: vs):=by
  refine ⟨by simp [k.1],fun i hi=>?_⟩
  cases i with
  | zero=>simpa using h
  | succ i=>simpa using k.2 i (by simpa using hi)
theorem RelL.uncons {ρ:Gh} {c:AV} {cs:List AV} {vs:List Value} (h:RelL ρ (c :: cs) vs):∃ v vs',vs=v :: vs'/\RelV ρ c v/\RelL ρ cs vs':=by
  cases vs with
  | nil=>simp [RelL] at h
  | cons v vs' =>
    refine ⟨v,vs',rfl,h.2 0 (by simp),by simpa using h.1,fun i hi=>?_⟩
    exact h.2 (i + 1) (by simpa using hi)
theorem RelL.nil_inv {ρ:Gh} {vs:List Value} (h:RelL ρ [] vs):vs=[]:=List.eq_nil_of_length_eq_zero (by simpa using h.1)
theorem RelL.mono {ρ ρ':Gh} (hm:ρ.le ρ') {cs:List AV} {vs:List Value} (h:RelL ρ cs vs):RelL ρ' cs vs:=⟨h.1,fun i hi=>(h.2 i hi).mono hm⟩
theorem RelL.append {ρ:Gh} {cs ds:List AV} {vs us:List Value} (h:RelL ρ cs vs) (k:RelL ρ ds us):RelL ρ (cs ++ ds) (vs ++ us):=by
  induction cs generalizing vs with
  | nil=>rw [h.nil_inv]; simpa using k
  | cons c cs ih =>
    obtain ⟨v,vs',rfl,hv,hr⟩:=h.uncons
    exact .cons hv (ih hr)
theorem RelL.get? {ρ:Gh} {cs:List AV} {vs:List Value} (h:RelL ρ cs vs) (i:Nat) {c:AV} (hc:cs[i]?=some c):∃ v,vs[i]?=some v/\RelV ρ c v:=by
  obtain ⟨hi,rfl⟩:=List.getElem?_eq_some_iff.1 hc
  have hi':i < vs.length:=by rw [h.1]; exact hi
  refine ⟨vs[i],List.getElem?_eq_getElem hi',?_⟩
  have:=h.2 i hi
  rwa [List.getD_eq_getElem?_getD,List.getElem?_eq_getElem hi'] at this
theorem RelL.of_get? {ρ:Gh} {cs:List AV} {vs:List Value} (hl:vs.length=cs.length) (h:∀ (i:Nat) c v,cs[i]?=some c->vs[i]?=some v->RelV ρ c v):RelL ρ cs vs :=
  ⟨hl,fun i hi=>h i _ _ (List.getElem?_eq_getElem hi) (by rw [List.getD_eq_getElem?_getD,List.getElem?_eq_getElem (by omega:i < vs.length)]; rfl)⟩
theorem RelL.take {ρ:Gh} {cs:List AV} {vs:List Value} (h:RelL ρ cs vs) (n:Nat):RelL ρ (cs.take n) (vs.take n) :=
  .of_get? (by simp [h.1]) fun i c v hc hv=>by
    rw [List.getElem?_take] at hc hv
    split at hc
    · rename_i hi
      rw [if_pos hi] at hv
      obtain ⟨v',hv',hr⟩:=h.get? i hc
      rw [hv'] at hv
      cases hv
      exact hr
    · cases hc
theorem RelL.drop {ρ:Gh} {cs:List AV} {vs:List Value} (h:RelL ρ cs vs) (n:Nat):RelL ρ (cs.drop n) (vs.drop n) :=
  .of_get? (by simp [h.1]) fun i c v hc hv=>by
    rw [List.getElem?_drop] at hc hv
    obtain ⟨v',hv',hr⟩:=h.get? _ hc
    rw [hv'] at hv
    cases hv
    exact hr
theorem RelL.set {ρ:Gh} {cs:List AV} {vs:List Value} (h:RelL ρ cs vs) (n:Nat) {c:AV} {v:Value} (hr:RelV ρ c v):RelL ρ (cs.set n c) (vs.set n v) :=
  .of_get? (by simp [h.1]) fun i c' v' hc hv=>by
    rw [List.getElem?_set] at hc hv
    by_cases hn:n=i
    · rw [if_pos hn] at hc hv
      have hvl:=h.1
      by_cases hl:n < cs.length
      · rw [if_pos (by omega)] at hc hv
        cases hc; cases hv
        exact hr
      · rw [if_neg (by omega)] at hc
        cases hc
    · rw [if_neg hn] at hc hv
      obtain ⟨u,hu,hr'⟩:=h.get? i hc
      rw [hu] at hv
      cases hv
      exact hr'
theorem RelV.of_agg {ρ:Gh} {cs:List AV} {vs:List Value} (h:RelL ρ cs vs):RelV ρ (.agg cs) (.agg vs.toArray):=.agg cs vs h.1 h.2
theorem RelV.of_tuple {ρ:Gh} {cs:List AV} {vs:List Value} (h:RelL ρ cs vs):RelV ρ (.tuple cs) (.tuple vs.toArray):=.tuple cs vs h.1 h.2
def RelPL (imm:Nat->Nat->Option Value) (cs:List PV) (vs:List Value):Prop:=vs.length=cs.length/\∀ i (h:i < cs.length),RelP imm cs[i] (vs.getD i undef)
theorem RelPL.toL {ρ:Gh} {cs:List PV} {vs:List Value} (h:RelPL ρ.imm cs vs):RelL ρ (cs.map .pv) vs :=
  ⟨by simpa using h.1,fun i hi=>by simpa using RelV.pv (h.2 i (by simpa using hi))⟩
theorem RelPL.of_L {ρ:Gh} {cs:List PV} {vs:List Value} (h:RelL ρ (cs.map .pv) vs):RelPL ρ.imm cs vs:=by
  refine ⟨by simpa using h.1,fun i hi=>?_⟩
  have:=h.2 i (by simpa using hi)
  simp only [List.getElem_map] at this
  cases this with
  | pv h=>exact h
theorem toPV_rel {ρ:Gh} {a:AV} {p:PV} {v:Value} (h:RelV ρ a v) (hp:toPV a=some p):RelP ρ.imm p v:=by
  cases h with
  | pv h=>simp [toPV] at hp; exact hp ▸ h
  | nilS=>simp [toPV] at hp; subst hp; exact .lst 0 [] none 0 0 0 [] (Nat.le_refl _) (.inl rfl) rfl (fun i h=>absurd h (by simp)) (fun i h=>absurd h (by simp))
  | grow id n cells b o cap vs h hn hl hi hr=>simp [toPV] at hp; subst hp; exact .lst n cells _ cap b o vs hn (.inr rfl) hl hi hr
  | full n cells b o vs hl hi hr=>simp [toPV] at hp; subst hp; exact .lst n cells _ n b o vs (Nat.le_refl _) (.inr rfl) hl hi hr
  | clo f first cap vs us hl hr hl' hr' =>
    cases first with
    | cons _ _=>simp [toPV] at hp
    | nil=>cases cap with
      | cons _ _=>simp [toPV] at hp
      | nil =>
        simp [toPV] at hp
        subst hp
        have e1:vs=[]:=List.eq_nil_of_length_eq_zero hl
        have e2:us=[]:=List.eq_nil_of_length_eq_zero hl'
        subst e1; subst e2
        exact .func f
  | _=>simp [toPV] at hp
theorem toPVs_rel {ρ:Gh}:∀ {az:List AV} {ps:List PV} {vs:List Value},RelL ρ az vs->toPVs az=some ps->RelPL ρ.imm ps vs
  | [],ps,vs,h,hp=>by
    simp [toPVs] at hp
    subst hp
    exact ⟨h.1,fun i hi=>absurd hi (by simp)⟩
  | a :: az,ps,vs,h,hp=>by
    obtain ⟨v,vs',rfl,hv,hr⟩:=h.uncons
    unfold toPVs at hp
    split at hp
    · rename_i p ps' hp1 hp2
      cases hp
      have ih:=toPVs_rel hr hp2
      refine ⟨by simp [ih.1],fun i hi=>?_⟩
      cases i with
      | zero=>simpa using toPV_rel hv hp1
      | succ i=>simpa using ih.2 i (by simpa using hi)
    · cases hp
theorem ofCell_rel (ρ:Gh) (v:Value):RelV ρ (ofCell v) v:=by
  unfold ofCell
  split
  · exact .pv (.bool _)
  · exact .pv (.int _ _)
  · exact .pv (.float _ _)
  · rename_i s
    have:s=⟨s.data.toList.toArray⟩:=by cases s; simp
    have h:=RelP.str (imm:=ρ.imm) s.data.toList
    rw [<- this] at h
    exact .pv h
  · exact .pv .nilPtr
  · exact .nilS
  · exact .pv .nilFunc
  · exact .pv .nilIface
  · exact .undef _
theorem ofCells_rel (ρ:Gh) (l:List Value):RelL ρ (l.map ofCell) l :=
  ⟨by simp,fun i hi=>by
    have hi':i < l.length:=by simpa using hi
    rw [List.getElem_map,List.getD_eq_getElem?_getD,List.getElem?_eq_getElem hi']
    exact ofCell_rel ρ _⟩
theorem ofConst_rel (ρ:Gh) (v:Value):RelV ρ (ofConst v) v:=by
  cases v with
  | agg cs=>exact RelV.of_agg (ofCells_rel ρ cs.toList)
  | func fn x y =>
    cases fn with
    | func f =>
      simp only [ofConst]
      split
      · rename_i h1 h2
        have e1:x=#[]:=by simpa using h1
        have e2:y=#[]:=by simpa using h2
        subst e1; subst e2
        exact .pv (.func _)
      · exact .undef _
    | method m=>exact ofCell_rel ρ (.func (.method m) x y)
    | methodOf t m=>exact ofCell_rel ρ (.func (.methodOf t m) x y)
    | via t p f q=>exact ofCell_rel ρ (.func (.via t p f q) x y)
    | yield l=>exact ofCell_rel ρ (.func (.yield l) x y)
  | bool b=>exact ofCell_rel ρ (.bool b)
  | int k n=>exact ofCell_rel ρ (.int k n)
  | float k n=>exact ofCell_rel ρ (.float k n)
  | complex k n m=>exact ofCell_rel ρ (.complex k n m)
  | string s=>exact ofCell_rel ρ (.string s)
  | pointer s=>exact ofCell_rel ρ (.pointer s)
  | slice s n m=>exact ofCell_rel ρ (.slice s n m)
  | map s=>exact ofCell_rel ρ (.map s)
  | chan s=>exact ofCell_rel ρ (.chan s)
  | nilFunc=>exact ofCell_rel ρ .nilFunc
  | iface t v=>exact ofCell_rel ρ (.iface t v)
  | nilIface=>exact ofCell_rel ρ .nilIface
  | tuple v=>exact ofCell_rel ρ (.tuple v)
def NoFz (fz:Nat × Nat) (m:Nat):Prop:=∀ i,i < m->¬ (fz.1 <= i/\i < fz.2)
def blkOf (ρ:Gh) (id:Nat):AObj->Option Nat
  | .front n _ _=>(ρ.lin id n).map fun x=>x.1.block
  | _=>(ρ.loc id).map fun x=>x.1
def ObjRel (B:Nat) (ρ:Gh) (w:World) (id:Nat):AObj->Prop
  | .cells cs var=>∃ b o m cur e fz,ρ.loc id=some (b,o,m)/\B <= b/\w.heap[b]?=some (.cells cur e fz)/\NoFz fz cur.size/\cur.size=m/\o + cs.length <= m /\
      cs.all AV.cellOk=true/\RelL ρ cs ((cur.toList.drop o).take cs.length)/\(∀ o' v,ρ.imm b o'=some v->False)/\∀ t,var=some t->e=t/\o=0/\cur.size=cs.length
  | .front n size mk=>∃ b o cap cur e fz,ρ.lin id n=some (⟨b,o,none⟩,cap)/\B <= b/\w.heap[b]?=some (.cells cur e fz)/\NoFz fz cur.size/\n <= cap/\cap <= maxLen /\
      o + cap * size <= cur.size/\(n < cap->∀ o' v,ρ.imm b o'=some v->o' < o + n * size)/\(∀ k,n < k->ρ.lin id k=none)/\∀ e',mk=some e'->e=e'/\o=0
  | .strIter s pos=>∃ b m,ρ.loc id=some (b,0,m)/\B <= b/\w.heap[b]?=some (.stringIter ⟨s.toArray⟩ pos)/\∀ o' v,ρ.imm b o'=some v->False
  | .builder _=>False
  | .mapO n es c=>∃ (b m:Nat) (us:List MapEntry),ρ.loc id=some (b,0,m)/\B <= b/\w.heap[b]?=some (.map us.toArray c)/\(∀ o' v,ρ.imm b o'=some v->False) /\
      (∀ e ∈ es,e.1.length=n)/\us.length=es.length/\∀ (i:Nat) (e:ME) (u:MapEntry),es[i]?=some e->us[i]?=some u->RelV ρ (keyAV e.1) u.key/\RelV ρ e.2.1 u.val/\u.born=e.2.2
  | .mapIt mi since seen=>∃ b m bm mm,ρ.loc id=some (b,0,m)/\B <= b/\w.heap[b]?=some (.mapIter (some bm) since seen.toArray since)/\ρ.loc mi=some (bm,0,mm)/\∀ o' v,ρ.imm b o'=some v->False
structure RelH (w0:World) (ρ:Gh) (σ:AS) (w:World):Prop where
  below:RowKit.Below w0.heap.size w0 w
  imm:∀ b o v,ρ.imm b o=some v->w.cell? ⟨b,o,none⟩=some v
  base:∀ b o v,w0.cell? ⟨b,o,none⟩=some v->ρ.imm b o=some v
  obj:∀ id o,σ id=some o->ObjRel w0.heap.size ρ w id o
  apart:∀ id id' o o',σ id=some o->σ id'=some o'->blkOf ρ id o=blkOf ρ id' o'->id=id'
  bound:∃ N,∀ id,N <= id->ρ.loc id=none/\(∀ n,ρ.lin id n=none)/\σ id=none
theorem RelH.sub {w0:World} {ρ:Gh} {σ τ:AS} {w:World} (h:RelH w0 ρ σ w) (hs:τ.sub σ):RelH w0 ρ τ w where
  below:=h.below
  imm:=h.imm
  base:=h.base
  obj:=fun id o ho=>h.obj id o (hs id o ho)
  apart:=fun id id' o o' ho ho'=>h.apart id id' o o' (hs id o ho) (hs id' o' ho')
  bound:=by
    obtain ⟨N,hN⟩:=h.bound
    refine ⟨N,fun id hid=>⟨(hN id hid).1,(hN id hid).2.1,?_⟩⟩
    cases hτ:τ id with
    | none=>rfl
    | some o=>have:=hs id o hτ; rw [(hN id hid).2.2] at this; cases this
structure Ready (P:Program) (w0:World):Prop where
  shaped:w0.ShapedOpen P
  known:∀ g cs,known P g=some cs->∃ vs:List Value,vs.length=cs.length/\(∀ i v,vs[i]?=some v->w0.cell? ⟨g,i,none⟩=some v)/\∀ i (h:i < cs.length),RelP (fun b o=>w0.cell? ⟨b,o,none⟩) cs[i] (vs.getD i undef)
  anyG:∀ g,Go.AD.anyG P g=true->∃ v,w0.cell? ⟨g,0,none⟩=some v/\v.oneCell'=true/\v.cells=#[v]
theorem known_none {P:Program} (h:noKnown P=true) (g:Nat):Go.AD.known P g=none:=by
  unfold Go.AD.known
  split
  · rename_i x hx
    obtain ⟨hg,rfl⟩:=Array.getElem?_eq_some_iff.1 hx
    have:=(Array.all_eq_true.1 h) g hg
    rw [Bool.and_eq_true] at this
    simpa using this.1
  · rfl
theorem anyG_none {P:Program} (h:noKnown P=true) (g:Nat):Go.AD.anyG P g=false:=by
  unfold Go.AD.anyG
  split
  · rename_i x hx
    obtain ⟨hg,rfl⟩:=Array.getElem?_eq_some_iff.1 hx
    have:=(Array.all_eq_true.1 h) g hg
    rw [Bool.and_eq_true] at this
    simpa using this.2
  · rfl
theorem Ready.of {P:Program} {w0:World} (h:noKnown P=true) (hS:w0.ShapedOpen P):Ready P w0 :=
  ⟨hS,fun g cs hk=>(by rw [known_none h] at hk; cases hk),fun g hg=>(by rw [anyG_none h] at hg; cases hg)⟩
theorem RelH.drawn {w0:World} {ρ:Gh} {σ:AS} {w:World} (h:RelH w0 ρ σ w) (n:Nat):RelH w0 ρ σ { w with drawn:=n } where
  below:=⟨h.below.os,h.below.tape,h.below.output,h.below.size,h.below.block⟩
  imm:=fun b o v hv=>h.imm b o v hv
  base:=h.base
  obj:=fun id o ho=>by
    have:=h.obj id o ho
    cases o <;> exact this
  apart:=h.apart
  bound:=h.bound
structure RelF (ρ:Gh) (n:Nat) (fr:Fr) (a:Act):Prop where
  size:a.tmps.size=n
  get:∀ t,RelV ρ (fr.get t) (a.tmps.getD t undef)
theorem RelF.mono {ρ ρ':Gh} {n:Nat} {fr:Fr} {a:Act} (hm:ρ.le ρ') (h:RelF ρ n fr a):RelF ρ' n fr a:=⟨h.size,fun t=>(h.get t).mono hm⟩
theorem RelF.put {ρ:Gh} {n:Nat} {fr:Fr} {a:Act} (h:RelF ρ n fr a) {d:Option Nat} (hd:∀ t,d=some t->t < n) {v:AV} {u:Value} (hv:RelV ρ v u):RelF ρ n (fr.put d v) (a.put d u):=by
  cases d with
  | none=>exact h
  | some t =>
    have ht:=hd t rfl
    refine ⟨by simp [Act.put,h.size],fun s=>?_⟩
    rw [Fr.get_put]
    by_cases hs:t=s
    · subst hs
      rw [if_pos rfl]
      have:(a.put (some t) u).tmps.getD t undef=u:=by simp [Act.put,h.size,ht]
      rw [this]
      exact hv
    · rw [if_neg hs]
      have:(a.put (some t) u).tmps.getD s undef=a.tmps.getD s undef:=by simp [Act.put,Array.getElem?_setIfInBounds_ne hs]
      rw [this]
      exact h.get s
theorem ev_rel {ρ:Gh} {n:Nat} {fr:Fr} {a:Act} (h:RelF ρ n fr a) (x:Operand):RelV ρ (ev fr x) (a.eval x):=by
  cases x with
  | tmp t=>exact h.get t
  | const v=>exact ofConst_rel ρ v
  | global g=>exact .glob g 0
  | func f=>exact .pv (.func f)
theorem evs_rel {ρ:Gh} {n:Nat} {fr:Fr} {a:Act} (h:RelF ρ n fr a) (l:List Operand):RelL ρ (evs fr l) (l.map a.eval):=by
  induction l with
  | nil=>exact .nil ρ
  | cons x l ih=>exact .cons (ev_rel h x) ih
end Go.AD

set_option linter.unusedVariables false
set_option linter.unusedSimpArgs false
namespace Go.AD
section
variable {P:Program} {w0 w:World} {ρ:Gh} {σ:AS}
theorem inf_some {t:TypeId} (h:(inf P t).isSome=true):∃ i,P.info? t=some i/\szOf P t=i.size/\byOf P t=i.bytes:=by
  unfold inf at h
  cases hi:P.info? t with
  | none=>simp [hi] at h
  | some i=>exact ⟨i,rfl,by simp [szOf,inf,hi],by simp [byOf,inf,hi]⟩
theorem run_size {t:TypeId} (h:(inf P t).isSome=true) (w:World):(sizeOf t).run P w=.ok (szOf P t) w:=by
  obtain ⟨i,hi,hs,_⟩:=inf_some h
  simp [sizeOf,typeInfo,hi,hs]
theorem hasT_inf {t:TypeId} (h:hasT P t=true):(inf P t).isSome=true:=by simp [hasT] at h; simpa using h.2
theorem hasT_und {t:TypeId} (h:hasT P t=true):∃ d,P.underlying t=some d:=by
  simp [hasT] at h
  exact Option.isSome_iff_exists.1 h.1
theorem run_agg {t:TypeId} (h:hasT P t=true) (w:World):(isAgg t).run P w=.ok (aggB P t) w:=by
  obtain ⟨d,hd⟩:=hasT_und h
  simp only [isAgg,Sem.run_bind,run_underlying hd,Result.andThen_ok,aggB,hd]
  cases d <;> rfl
theorem cells_at (H:RelH w0 ρ σ w) {id:Nat} {cs:List AV} {var:Option TypeId} (ho:σ id=some (.cells cs var)) :
    ∃ b o m vs,ρ.loc id=some (b,o,m)/\w0.heap.size <= b/\RelL ρ cs vs/\o + cs.length <= m/\∀ i v,vs[i]?=some v->w.cell? ⟨b,o + i,none⟩=some v:=by
  obtain ⟨b,o,m,cur,e,fz,hl,hB,hb,hf,hm,hle,hok,hr,_⟩:=H.obj id _ ho
  refine ⟨b,o,m,_,hl,hB,hr,hle,fun i v hv=>?_⟩
  rw [cell_of_row w b (o + i) cur e fz hb]
  rw [List.getElem?_take] at hv
  split at hv
  · rw [List.getElem?_drop] at hv
    simpa using hv
  · cases hv
theorem ImmAt.cell (H:RelH w0 ρ σ w) {b o:Nat} {vs:List Value} (h:ImmAt ρ.imm b o vs) (i:Nat) (v:Value) (hv:vs[i]?=some v):w.cell? ⟨b,o + i,none⟩=some v:=by
  obtain ⟨hi,rfl⟩:=List.getElem?_eq_some_iff.1 hv
  have:=H.imm _ _ _ (h i hi)
  rwa [List.getD_eq_getElem?_getD,List.getElem?_eq_getElem hi] at this
theorem run_loadScalar {t:TypeId} (ht:hasT P t=true) (ha:aggB P t=false) {b o:Nat} {v:Value} (hc:w.cell? ⟨b,o,none⟩=some v) :
    (Instr.loadAt t (.pointer (some ⟨b,o,none⟩))).run P w=.ok v w:=by
  simp [Instr.loadAt,Instr.sureAddr,loadVar,run_agg ht,ha,hc]
theorem run_loadAgg {t:TypeId} (ht:hasT P t=true) (ha:aggB P t=true) {b o:Nat} (vs:List Value) (hl:vs.length=szOf P t) (hc:∀ (i:Nat) v,vs[i]?=some v->w.cell? ⟨b,o + i,none⟩=some v) :
    (Instr.loadAt t (.pointer (some ⟨b,o,none⟩))).run P w=.ok (.agg vs.toArray) w:=by
  have hr:=run_loadCells_list (P:=P) w ⟨b,o,none⟩ vs (fun j v hv=>by rw [Addr.add_lit]; exact hc j v hv)
  simp [Instr.loadAt,Instr.sureAddr,loadVar,run_agg ht,ha,run_size (hasT_inf ht),<- hl,hr]
theorem loadD_sound (hS:Ready P w0) (H:RelH w0 ρ σ w) {t:TypeId} {x:AV} {K:AV->Prop} (h:loadD P σ t x K) {u:Value} (hu:RelV ρ x u) :
    ∃ v r,(Instr.loadAt t u).run P w=.ok r w/\RelV ρ v r/\K v:=by
  obtain ⟨ht,h⟩:=h
  split at h
  · rename_i id off
    split at h
    · rename_i cs ho
      obtain ⟨b,o,m,vs,hl,_,hr,_,hc⟩:=cells_at H ho
      cases hu with
      | addr _ _ b' o' m' hl' =>
        rw [hl] at hl'
        cases hl'
        split at h
        · rename_i ha
          obtain ⟨hle,hK⟩:=h
          have hr':=(hr.drop off).take (szOf P t)
          refine ⟨_,_,run_loadAgg ht ha ((vs.drop off).take (szOf P t)) (by have:=hr.1; simp; omega) (fun i v hv=>?_),RelV.of_agg hr',hK⟩
          rw [List.getElem?_take] at hv
          split at hv
          · rw [List.getElem?_drop] at hv
            have:=hc _ _ hv
            rwa [<- Nat.add_assoc] at this
          · cases hv
        · rename_i ha
          split at h
          · rename_i v hv
            obtain ⟨r,hr1,hr2⟩:=hr.get? _ hv
            exact ⟨v,r,run_loadScalar ht (by simpa using ha) (hc _ _ hr1),hr2,h⟩
          · exact h.elim
    · exact h.elim
  · rename_i cs off
    cases hu with
    | elemP _ _ b o vs hl hi hr =>
      have hR:RelL ρ (cs.map .pv) vs:=RelPL.toL ⟨hl,hr⟩
      split at h
      · rename_i ha
        obtain ⟨hle,hK⟩:=h
        have hr':=(hR.drop off).take (szOf P t)
        refine ⟨_,_,run_loadAgg ht ha ((vs.drop off).take (szOf P t)) (by simp; omega) (fun i v hv=>?_),RelV.of_agg hr',?_⟩
        · rw [List.getElem?_take] at hv
          split at hv
          · rw [List.getElem?_drop] at hv
            have:=ImmAt.cell H hi _ _ hv
            rwa [<- Nat.add_assoc] at this
          · cases hv
        · rwa [<- List.map_drop,<- List.map_take]
      · rename_i ha
        split at h
        · rename_i v hv
          obtain ⟨r,hr1,hr2⟩:=hR.get? off (c:=.pv v) (by simp [hv])
          exact ⟨_,r,run_loadScalar ht (by simpa using ha) (ImmAt.cell H hi _ _ hr1),hr2,h⟩
        · exact h.elim
  · rename_i g off
    split at h
    · rename_i cs hk
      cases hu
      obtain ⟨vs,hl,hc,hr⟩:=hS.known g cs hk
      have hc':∀ (i:Nat) v,vs[i]?=some v->w.cell? ⟨g,i,none⟩=some v:=fun i v hv=>H.imm _ _ _ (H.base _ _ _ (hc i v hv))
      have hR:RelL ρ (cs.map .pv) vs:=RelPL.toL ⟨hl,fun i hi=>(hr i hi).mono (fun _ _ _ h=>H.base _ _ _ h)⟩
      split at h
      · rename_i ha
        obtain ⟨hle,hK⟩:=h
        have hr':=(hR.drop off).take (szOf P t)
        refine ⟨_,_,run_loadAgg ht ha ((vs.drop off).take (szOf P t)) (by simp; omega) (fun i v hv=>?_),RelV.of_agg hr',?_⟩
        · rw [List.getElem?_take] at hv
          split at hv
          · rw [List.getElem?_drop] at hv
            exact hc' _ _ hv
          · cases hv
        · rwa [<- List.map_drop,<- List.map_take]
      · rename_i ha
        split at h
        · rename_i v hv
          obtain ⟨r,hr1,hr2⟩:=hR.get? off (c:=.pv v) (by simp [hv])
          exact ⟨_,r,run_loadScalar ht (by simpa using ha) (hc' _ _ hr1),hr2,h⟩
        · exact h.elim
    · obtain ⟨hg,ha,rfl,hK⟩:=h
      cases hu
      obtain ⟨v,hv,h1,h2⟩:=hS.anyG g hg
      exact ⟨.any,v,run_loadScalar ht ha (H.imm _ _ _ (H.base _ _ _ hv)),.any v h1 h2,hK⟩
  · exact h.elim
theorem relInt {x:AV} {k:IntKind} {n:Int} {u:Value} (hx:RelV ρ (.pv (.int k n)) u):u=.int k n:=by
  cases hx with | pv h=>cases h; rfl
theorem relBool {b:Bool} {u:Value} (hx:RelV ρ (.pv (.bool b)) u):u=.bool b:=by
  cases hx with | pv h=>cases h; rfl
theorem relStr {l:List UInt8} {u:Value} (hx:RelV ρ (.pv (.str l)) u):u=.string ⟨l.toArray⟩:=by
  cases hx with | pv h=>cases h; rfl
theorem relFlt {x:AV} {k:FloatKind} {n:Nat} {u:Value} (hx:RelV ρ (.pv (.float k n)) u):u=.float k n:=by
  cases hx with | pv h=>cases h; rfl
theorem mkFlt (ρ:Gh) (k:FloatKind) (n:Nat):RelV ρ (.pv (.float k n)) (.float k n):=.pv (.float k n)
theorem mkInt (ρ:Gh) (k:IntKind) (n:Int):RelV ρ (.pv (.int k n)) (.int k n):=.pv (.int k n)
theorem mkBool (ρ:Gh) (b:Bool):RelV ρ (.pv (.bool b)) (.bool b):=.pv (.bool b)
theorem mkStr (ρ:Gh) (l:List UInt8):RelV ρ (.pv (.str l)) (.string ⟨l.toArray⟩):=.pv (.str l)
theorem intOp_sound (ρ:Gh) {op:BinOp} {k:IntKind} {x y:Int} {K:AV->Prop} (h:intOp op k x y K) (hop:op ≠ .shl/\op ≠ .shr) :
    ∃ v r,(binOp op 0 (.int k x) (.int k y)).run P w=.ok r w/\RelV ρ v r/\K v:=by
  cases op <;> simp only [intOp] at h
  case add=>exact ⟨_,_,by simp [binOp,Op.intArith],mkInt ..,h⟩
  case sub=>exact ⟨_,_,by simp [binOp,Op.intArith],mkInt ..,h⟩
  case mul=>exact ⟨_,_,by simp [binOp,Op.intArith],mkInt ..,h⟩
  case quo=>exact ⟨_,_,by simp [binOp,Op.intDiv,h.1],mkInt ..,h.2⟩
  case rem=>exact ⟨_,_,by simp [binOp,Op.intDiv,h.1],mkInt ..,h.2⟩
  case and=>exact ⟨_,_,by simp [binOp,Op.intBits],mkInt ..,h⟩
  case or=>exact ⟨_,_,by simp [binOp,Op.intBits],mkInt ..,h⟩
  case xor=>exact ⟨_,_,by simp [binOp,Op.intBits],mkInt ..,h⟩
  case andNot=>exact ⟨_,_,by simp [binOp,Op.intBits],mkInt ..,h⟩
  case eql=>exact ⟨_,_,by simp [binOp,Op.intCmp],mkBool ..,h⟩
  case neq=>exact ⟨_,_,by simp [binOp,Op.intCmp],mkBool ..,h⟩
  case lss=>exact ⟨_,_,by simp [binOp,Op.intCmp],mkBool ..,h⟩
  case leq=>exact ⟨_,_,by simp [binOp,Op.intCmp],mkBool ..,h⟩
  case gtr=>exact ⟨_,_,by simp [binOp,Op.intCmp],mkBool ..,h⟩
  case geq=>exact ⟨_,_,by simp [binOp,Op.intCmp],mkBool ..,h⟩
  all_goals exact h.elim
theorem shiftOp_sound (ρ:Gh) {op:BinOp} {k k':IntKind} {x y:Int} {K:AV->Prop} (h:shiftOp op k x y K) :
    ∃ v r,(binOp op 0 (.int k x) (.int k' y)).run P w=.ok r w/\RelV ρ v r/\K v:=by
  cases op <;> simp only [shiftOp] at h
  case shl=>exact ⟨_,_,by simp [binOp,Op.shift,Int.not_lt.2 h.1],mkInt ..,h.2⟩
  case shr=>exact ⟨_,_,by simp [binOp,Op.shift,Int.not_lt.2 h.1],mkInt ..,h.2⟩
  all_goals exact h.elim
theorem bytes_toList (l:List UInt8):(⟨l.toArray⟩:ByteArray).toList=l:=by
  rw [ByteArray.toList_eq]
theorem bytes_size (l:List UInt8):(⟨l.toArray⟩:ByteArray).size=l.length:=by simp [ByteArray.size]
theorem bytes_append (l m:List UInt8):(⟨l.toArray⟩:ByteArray) ++ ⟨m.toArray⟩=⟨(l ++ m).toArray⟩:=by
  apply ByteArray.ext
  simp
theorem strOp_sound (ρ:Gh) {op:BinOp} {x y:List UInt8} {K:AV->Prop} (h:strOp op x y K) :
    ∃ v r,(Op.stringOp op ⟨x.toArray⟩ ⟨y.toArray⟩).run P w=.ok r w/\RelV ρ v r/\K v:=by
  cases op <;> simp only [strOp] at h
  case add =>
    refine ⟨_,.string ⟨(x ++ y).toArray⟩,?_,mkStr ..,h.2⟩
    have:¬ (((x.length + y.length:Nat):Int) > IntKind.i64.max):=by
      have:=h.1
      simp [IntKind.max,IntKind.signed,IntKind.bits]
      omega
    simp only [Op.stringOp,bytes_size,bytes_append,if_neg this,Sem.run_pure]
  case eql=>exact ⟨_,_,by simp only [Op.stringOp,bytes_toList,Sem.run_pure],mkBool ..,h⟩
  case neq=>exact ⟨_,_,by simp only [Op.stringOp,bytes_toList,Sem.run_pure],mkBool ..,h⟩
  case lss=>exact ⟨_,_,by simp only [Op.stringOp,bytes_toList,Sem.run_pure],mkBool ..,h⟩
  case leq=>exact ⟨_,_,by simp only [Op.stringOp,bytes_toList,Sem.run_pure],mkBool ..,h⟩
  case gtr=>exact ⟨_,_,by simp only [Op.stringOp,bytes_toList,Sem.run_pure],mkBool ..,h⟩
  case geq=>exact ⟨_,_,by simp only [Op.stringOp,bytes_toList,Sem.run_pure],mkBool ..,h⟩
  all_goals exact h.elim
theorem sameAt_run {t:TypeId} {a b:AV} {u v:Value} (ha:RelV ρ a u) (hb:RelV ρ b v) {r:Bool} (h:sameAt P t a b=some r) :
    (∀ w,(isAgg t).run P w=.ok false w)/\∀ d w,(Op.equalIn (d + 1) t u v).run P w=.ok r w:=by
  unfold sameAt at h
  split at h
  · rename_i k' k x k2 y hu
    split at h
    · rename_i hk
      subst hk
      cases h
      refine ⟨fun w=>by simp [isAgg,run_underlying hu],fun d w=>?_⟩
      rw [relInt (x:=.undef) ha,relInt (x:=.undef) hb]
      exact run_equalIn_int w d t k k' x y hu
    · cases h
  · rename_i x y hu
    cases h
    refine ⟨fun w=>by simp [isAgg,run_underlying hu],fun d w=>?_⟩
    rw [relBool ha,relBool hb]
    exact run_equalIn_bool' w d t x y hu
  · rename_i x y hu
    cases h
    refine ⟨fun w=>by simp [isAgg,run_underlying hu],fun d w=>?_⟩
    rw [relStr ha,relStr hb,run_equalIn_string w d t _ _ hu,bytes_toList,bytes_toList]
  · rename_i k0 k x k2 y hu
    split at h
    · rename_i hk
      subst hk
      cases h
      refine ⟨fun w=>by simp [isAgg,run_underlying hu],fun d w=>?_⟩
      rw [relFlt (x:=.undef) ha,relFlt (x:=.undef) hb]
      simp [Op.equalIn,run_underlying hu]
    · cases h
  · cases h
theorem sameFields_run (d:Nat) (us vs:List Value):∀ (fs:List Field) (i:Nat) (az bs:List AV),RelL ρ az (us.drop i)->RelL ρ bs (vs.drop i) ->
    ∀ r,sameFields P fs i az bs=some r->∀ w,(Op.eqFields (d + 1) us.toArray vs.toArray fs).run P w=.ok r w:=by
  intro fs
  induction fs with
  | nil =>
    intro i az bs ha hb r h w
    cases az <;> cases bs <;> simp [sameFields] at h
    subst h
    simp [Op.eqFields]
  | cons f fs ih =>
    intro i az bs ha hb r h w
    cases az with
    | nil=>simp [sameFields] at h
    | cons a az =>
      cases bs with
      | nil=>simp [sameFields] at h
      | cons b bs =>
        obtain ⟨u,us',hu,hru,hrest⟩:=ha.uncons
        obtain ⟨v,vs',hv,hrv,hrest'⟩:=hb.uncons
        have hu0:us[i]?=some u:=by
          have:=congrArg (fun l:List Value=>l[0]?) hu
          simpa [List.getElem?_drop] using this
        have hv0:vs[i]?=some v:=by
          have:=congrArg (fun l:List Value=>l[0]?) hv
          simpa [List.getElem?_drop] using this
        have hu1:us.drop (i + 1)=us':=by
          have:=congrArg (List.drop 1) hu
          simpa [List.drop_drop] using this
        have hv1:vs.drop (i + 1)=vs':=by
          have:=congrArg (List.drop 1) hv
          simpa [List.drop_drop] using this
        simp only [sameFields] at h
        split at h
        · rename_i hcond
          obtain ⟨ho,hn⟩:=hcond
          split at h
          · rename_i x y hx hy
            cases h
            obtain ⟨h1,h2⟩:=sameAt_run (P:=P) hru hrv hx
            have ih':=ih (i + 1) az bs (by rw [hu1]; exact hrest) (by rw [hv1]; exact hrest') y hy
            have pu:∀ w,(part f.type us.toArray f.offset).run P w=.ok u w:=fun w=>by simp [part,h1,ho,hu0]
            have pv:∀ w,(part f.type vs.toArray f.offset).run P w=.ok v w:=fun w=>by simp [part,h1,ho,hv0]
            simp only [Op.eqFields,ne_eq,hn,not_false_eq_true,if_true,Sem.run_bind,pu,pv,Result.andThen_ok,h2,Sem.run_ite]
            cases x with
            | false=>simp
            | true=>simpa using ih' w
          · cases h
        · cases h
theorem relAgg2 {a b:AV} {u:Value} (h:RelV ρ (.agg [a,b]) u):∃ us:Array Value,u=.agg us/\∃ u1 u2,us=#[u1,u2]/\RelV ρ a u1/\RelV ρ b u2:=by
  cases h with
  | agg _ us hl hr =>
    refine ⟨us.toArray,rfl,?_⟩
    have hr':RelL ρ [a,b] us:=⟨hl,hr⟩
    obtain ⟨u1,us',rfl,h1,hr2⟩:=hr'.uncons
    obtain ⟨u2,us'',rfl,h2,hr3⟩:=hr2.uncons
    obtain rfl:us''=[]:=hr3.nil_inv
    exact ⟨u1,u2,rfl,h1,h2⟩
theorem run_equalIn_arr2 (w:World) (d:Nat) {t e:TypeId} (hu:P.underlying t=some (.array 2 e)) (hie:(inf P e).isSome=true) (hsz:szOf P e=1) {u1 u2 v1 v2:Value} {x y:Bool}
    (ha:∀ w,(isAgg e).run P w=.ok false w) (h1:∀ w,(Op.equalIn (d + 1) e u1 v1).run P w=.ok x w) (h2:∀ w,(Op.equalIn (d + 1) e u2 v2).run P w=.ok y w) :
    (Op.equalIn (d + 2) t (.agg #[u1,u2]) (.agg #[v1,v2])).run P w=.ok (x && y) w:=by
  have hs:∀ w,(sizeOf e).run P w=.ok 1 w:=fun w=>by rw [run_size hie,hsz]
  rw [Op.equalIn]
  simp only [Sem.run_bind,run_underlying hu,Result.andThen_ok]
  simp only [Std.Legacy.Range.forIn_eq_forIn_range',Std.Legacy.Range.size,Nat.sub_zero,Nat.add_sub_cancel,Nat.div_one,List.range'_succ,List.range'_zero,List.forIn_cons,List.forIn_nil]
  simp [hs,part,ha,h1,h2]
  cases x <;> cases y <;> simp [hs,part,ha,h1,h2]
theorem elOf_some {t e:TypeId} (h:elOf P t=some e):P.underlying t=some (.slice e):=by
  unfold elOf at h
  split at h
  · cases h; assumption
  · cases h
theorem eq_of_equalIn {t:TypeId} {u v:Value} {r:Bool} (op:BinOp) (hop:op=.eql \/ op=.neq) (ox oy:Operand) (h:∀ d w,(Op.equalIn (d + 1) t u v).run P w=.ok r w)
    (e1:binOp .eql t u v=(do pure (.bool (<- Op.equal t u v)))) (e2:binOp .neq t u v=(do pure (.bool (!(<- Op.equal t u v))))) (hg:(eqGuard op t ox oy u v).run P w=.ok () w) :
    (do eqGuard op t ox oy u v; binOp op t u v:Sem Value).run P w=.ok (.bool (if op=.eql then r else !r)) w:=by
  have hq:(Op.equal t u v).run P w=.ok r w:=h 9999 w
  rcases hop with rfl | rfl
  · simp only [Sem.run_bind,hg,Result.andThen_ok,e1,hq,Sem.run_pure,if_true]
  · simp only [Sem.run_bind,hg,Result.andThen_ok,e2,hq,Sem.run_pure]
    simp
theorem eqD_sound (H:RelH w0 ρ σ w) {t:TypeId} {x y:AV} {K:Bool->Prop} (h:eqD P t x y K) {u v:Value} (hu:RelV ρ x u) (hv:RelV ρ y v) (op:BinOp) (hop:op=.eql \/ op=.neq) (ox oy:Operand) :
    ∃ r,(do eqGuard op t ox oy u v; binOp op t u v:Sem Value).run P w=.ok (.bool (if op=.eql then r else !r)) w/\K r:=by
  unfold eqD at h
  split at h
  · rename_i a b
    rw [relBool hu,relBool hv]
    exact ⟨a == b,eq_of_equalIn op hop ox oy (fun d w=>run_equalIn_bool' w d t a b h.1) rfl rfl (by rcases hop with rfl | rfl <;> rfl),h.2⟩
  · rename_i az bs
    obtain ⟨h1,h2,h3⟩:=h
    split at h3
    · rename_i fs hfs
      split at h3
      · rename_i r hr
        cases hu with
        | agg _ us hl hr1 =>
          cases hv with
          | agg _ vs hl' hr2 =>
            have hf:P.fieldsOf t=fs:=by simp [Program.fieldsOf,hfs]
            have hrun:=sameFields_run (P:=P) 9998 us vs fs.toList 0 az bs ⟨hl,hr1⟩ ⟨hl',hr2⟩ r hr
            refine ⟨r,?_,h3⟩
            have hg:=run_eqGuard_agg (P:=P) w op t ox oy us.toArray vs.toArray h2
            rcases hop with rfl | rfl
            · simp only [Sem.run_bind,hg,Result.andThen_ok,run_eql_struct,run_equalIn_agg w 9999 t us.toArray vs.toArray (by rw [hf]; exact hfs) h1,hf,hrun,if_true]
            · simp only [Sem.run_bind,hg,Result.andThen_ok,run_neq_struct,run_equalIn_agg w 9999 t us.toArray vs.toArray (by rw [hf]; exact hfs) h1,hf,hrun]
              simp
      · exact h3.elim
    · rename_i n e hfs
      obtain ⟨rfl,hie,hsz,h3⟩:=h3
      split at h3
      · rename_i a1 a2 b1 b2
        split at h3
        · rename_i x y hx hy
          obtain ⟨_,rfl,u1,u2,rfl,hu1,hu2⟩:=relAgg2 hu
          obtain ⟨_,rfl,v1,v2,rfl,hv1,hv2⟩:=relAgg2 hv
          obtain ⟨ha,hq1⟩:=sameAt_run (P:=P) hu1 hv1 hx
          obtain ⟨_,hq2⟩:=sameAt_run (P:=P) hu2 hv2 hy
          have hrun:∀ w,(Op.equalIn 10000 t (.agg #[u1,u2]) (.agg #[v1,v2])).run P w=.ok (x && y) w:=fun w=>run_equalIn_arr2 w 9998 hfs hie hsz ha (hq1 9998) (hq2 9998)
          refine ⟨x && y,?_,h3⟩
          have hg:=run_eqGuard_agg (P:=P) w op t ox oy #[u1,u2] #[v1,v2] h2
          rcases hop with rfl | rfl
          · simp only [Sem.run_bind,hg,Result.andThen_ok,run_eql_struct,hrun,if_true]
          · simp only [Sem.run_bind,hg,Result.andThen_ok,run_neq_struct,hrun]
            simp
        · exact h3.elim
      · exact h3.elim
    · exact h3.elim
  · obtain ⟨h1,h2⟩:=h
    obtain ⟨e,he⟩:=Option.isSome_iff_exists.1 h1
    cases hu; cases hv
    exact ⟨true,eq_of_equalIn op hop ox oy (fun d w=>by simp [Op.equalIn,run_underlying (elOf_some he)]) rfl rfl (by rcases hop with rfl | rfl <;> rfl),h2⟩
  · obtain ⟨h1,h2⟩:=h
    obtain ⟨e,he⟩:=Option.isSome_iff_exists.1 h1
    cases hu; cases hv
    exact ⟨false,eq_of_equalIn op hop ox oy (fun d w=>by simp [Op.equalIn,run_underlying (elOf_some he)]) rfl rfl (by rcases hop with rfl | rfl <;> rfl),h2⟩
  · obtain ⟨h1,h2⟩:=h
    obtain ⟨e,he⟩:=Option.isSome_iff_exists.1 h1
    cases hu; cases hv
    exact ⟨false,eq_of_equalIn op hop ox oy (fun d w=>by simp [Op.equalIn,run_underlying (elOf_some he)]) rfl rfl (by rcases hop with rfl | rfl <;> rfl),h2⟩
  · obtain ⟨h1,h2⟩:=h
    split at h1
    · rename_i e he
      cases hu
      cases hv with | pv hv=>cases hv; exact ⟨false,eq_of_equalIn op hop ox oy (fun d w=>by simp [Op.equalIn,run_underlying he]) rfl rfl (by rcases hop with rfl | rfl <;> rfl),h2⟩
    · exact h1.elim
  · obtain ⟨h1,h2⟩:=h
    split at h1
    · rename_i e he
      cases hu with | pv hu=>cases hu; cases hv with | pv hv=>cases hv; exact ⟨true,eq_of_equalIn op hop ox oy (fun d w=>by simp [Op.equalIn,run_underlying he]) rfl rfl (by rcases hop with rfl | rfl <;> rfl),h2⟩
    · exact h1.elim
  · obtain ⟨h1,h2⟩:=h
    split at h1
    · rename_i ms hms
      cases hu with | pv hu=>cases hu; cases hv with | pv hv =>
        cases hv
        refine ⟨true,eq_of_equalIn op hop ox oy (fun d w=>by simp [Op.equalIn,run_underlying hms]) rfl rfl ?_,h2⟩
        have hq:(Op.eqGuardIn Op.maxDepth t .nilIface .nilIface).run P w=.ok false w:=by
          rw [show Op.maxDepth=9999 + 1 from rfl,Op.eqGuardIn]
          simp [run_underlying hms,h1]
        rcases hop with rfl | rfl <;> (unfold eqGuard; simp only [Bool.not_true,Bool.false_eq_true,if_false]; split <;> simp [hq])
    · exact h1.elim
  · obtain ⟨h1,h2⟩:=h
    split at h1
    · rename_i e he
      cases hu with | pv hu=>cases hv with | pv hv =>
        cases hu
        cases hv <;> exact ⟨false,eq_of_equalIn op hop ox oy (fun d w=>by simp [Op.equalIn,run_underlying he]) rfl rfl (by rcases hop with rfl | rfl <;> rfl),h2⟩
    · exact h1.elim
  · rename_i t1 k a t2 k' b
    obtain ⟨h1,h2⟩:=h
    split at h1
    · rename_i ms hms
      cases hu with | pv hu=>cases hv with | pv hv =>
        cases hu with | ifaceOne _ _ _ hc=>cases hc; cases hv with | ifaceOne _ _ _ hc' =>
          cases hc'
          have fin:∀ (r:Bool),(Op.equal t (.iface t1 (.int k a)) (.iface t2 (.int k' b))).run P w=.ok r w->(do eqGuard op t ox oy (.iface t1 (.int k a)) (.iface t2 (.int k' b)); binOp op t (.iface t1 (.int k a)) (.iface t2 (.int k' b)):Sem Value).run P w=.ok (.bool (if op=.eql then r else !r)) w:=by
            intro r hq
            have hg:(eqGuard op t ox oy (.iface t1 (.int k a)) (.iface t2 (.int k' b))).run P w=.ok () w:=by rcases hop with rfl | rfl <;> rfl
            rcases hop with rfl | rfl
            · have e1:binOp .eql t (.iface t1 (.int k a)) (.iface t2 (.int k' b))=(do pure (.bool (<- Op.equal t (.iface t1 (.int k a)) (.iface t2 (.int k' b))))):=rfl
              simp only [Sem.run_bind,hg,Result.andThen_ok,e1,hq,Sem.run_pure,if_true]
            · have e2:binOp .neq t (.iface t1 (.int k a)) (.iface t2 (.int k' b))=(do pure (.bool (!(<- Op.equal t (.iface t1 (.int k a)) (.iface t2 (.int k' b)))))):=rfl
              simp only [Sem.run_bind,hg,Result.andThen_ok,e2,hq,Sem.run_pure]
              simp
          split at h2
          · rename_i htt
            subst htt
            obtain ⟨rfl,h3,h4,h5⟩:=h2
            split at h3
            · rename_i kk hkk
              split at h4
              · rename_i inf hinf
                refine ⟨a == b,fin _ ?_,h5⟩
                unfold Op.equal
                rw [show Op.maxDepth=9998 + 1 + 1 from rfl,Op.equalIn]
                have hin:(Op.equalIn (9998 + 1) t1 (.int k a) (.int k b)).run P w=.ok (a == b) w:=by
                  rw [Op.equalIn]; simp [run_underlying hkk]
                have hti:(typeInfo t1).run P w=.ok inf w:=by simp [typeInfo,hinf]
                simp [run_underlying hms,hti,h4,hin]
              · exact h4.elim
            · exact h3.elim
          · rename_i htt
            refine ⟨false,fin _ ?_,h2⟩
            unfold Op.equal
            rw [show Op.maxDepth=9999 + 1 from rfl,Op.equalIn]
            simp [run_underlying hms,htt]
    · exact h1.elim
  · obtain ⟨h1,h2⟩:=h
    split at h1
    · rename_i e he
      cases hu with | pv hu=>cases hv with | pv hv =>
        cases hv
        cases hu <;> exact ⟨false,eq_of_equalIn op hop ox oy (fun d w=>by simp [Op.equalIn,run_underlying he]) rfl rfl (by rcases hop with rfl | rfl <;> rfl),h2⟩
    · exact h1.elim
  · rename_i i o j p
    obtain ⟨h1,rfl,h2⟩:=h
    split at h1
    · rename_i e he
      obtain ⟨hs,hz⟩:=h1
      cases hu with
      | addr _ _ b o1 m hl =>
        cases hv with
        | addr _ _ b' o2 m' hl' =>
          rw [hl] at hl'
          cases hl'
          have ea:((⟨b,o1 + o,none⟩:Addr) == ⟨b,o1 + p,none⟩)=(o == p):=by
            rw [Bool.eq_iff_iff]
            simp
          exact ⟨o == p,eq_of_equalIn op hop ox oy (fun d w=>by simp [Op.equalIn,run_underlying he,run_size hs,hz,sameAddr,ea]) rfl rfl (by rcases hop with rfl | rfl <;> rfl),h2⟩
    · exact h1.elim
  · exact h.elim
theorem nilE_sound {t:TypeId} {x:AV} {K:Bool->Prop} (h:nilE P t x K) {u:Value} (hu:RelV ρ x u) (op:BinOp) (hop:op=.eql \/ op=.neq) (ox:Operand) :
    ∃ r,(do eqGuard op t ox (.const .nilIface) u .nilIface; binOp op t u .nilIface:Sem Value).run P w=.ok (.bool (if op=.eql then r else !r)) w/\K r:=by
  obtain ⟨h1,h2⟩:=h
  split at h1
  · rename_i ms hms
    split at h2
    · cases hu with | pv hu =>
        cases hu
        refine ⟨true,eq_of_equalIn op hop ox _ (fun d w=>by simp [Op.equalIn,run_underlying hms]) rfl rfl ?_,h2⟩
        rcases hop with rfl | rfl <;> (unfold eqGuard; simp)
    · cases hu with | pv hu =>
        cases hu <;> exact ⟨false,eq_of_equalIn op hop ox _ (fun d w=>by simp [Op.equalIn,run_underlying hms]) rfl rfl (by rcases hop with rfl | rfl <;> rfl),h2⟩
    · exact h2.elim
  · exact h1.elim
theorem isNilC_eq {y:Operand} (h:isNilC y=true):y=.const .nilIface:=by
  unfold isNilC at h
  split at h
  · rfl
  · cases h
theorem nilB_sound {op:BinOp} {t:TypeId} {x:AV} {K:AV->Prop} (h:nilB P op t x K) {u:Value} (hu:RelV ρ x u) (ox:Operand) :
    ∃ v r,(do eqGuard op t ox (.const .nilIface) u .nilIface; binOp op t u .nilIface:Sem Value).run P w=.ok r w/\RelV ρ v r/\K v:=by
  unfold nilB at h
  split at h
  · obtain ⟨r,h1,h2⟩:=nilE_sound (w:=w) h hu .eql (.inl rfl) ox
    exact ⟨_,_,h1,mkBool ..,h2⟩
  · obtain ⟨r,h1,h2⟩:=nilE_sound (w:=w) h hu .neq (.inr rfl) ox
    exact ⟨_,_,h1,mkBool ..,h2⟩
  · exact h.elim
end
end Go.AD

set_option linter.unusedVariables false
set_option linter.unusedSimpArgs false
namespace Go.AD
section
variable {P:Program} {w0 w:World} {ρ:Gh} {σ:AS}
theorem binD_sound (H:RelH w0 ρ σ w) {op:BinOp} {t:TypeId} {x y:AV} {K:AV->Prop} (h:binD P op t x y K) {u v:Value} (hu:RelV ρ x u) (hv:RelV ρ y v) (ox oy:Operand) :
    ∃ a r,(do eqGuard op t ox oy u v; binOp op t u v:Sem Value).run P w=.ok r w/\RelV ρ a r/\K a:=by
  unfold binD at h
  split at h
  · rename_i k a k' b
    rw [relInt (x:=.undef) hu,relInt (x:=.undef) hv]
    have hg:(eqGuard op t ox oy (.int k a) (.int k' b)).run P w=.ok () w:=by cases op <;> rfl
    simp only [Sem.run_bind,hg,Result.andThen_ok]
    split at h
    · obtain ⟨c,r,h1,h2,h3⟩:=shiftOp_sound (P:=P) (w:=w) ρ (k':=k') h
      exact ⟨c,r,h1,h2,h3⟩
    · obtain ⟨c,r,h1,h2,h3⟩:=shiftOp_sound (P:=P) (w:=w) ρ (k':=k') h
      exact ⟨c,r,h1,h2,h3⟩
    · rename_i n1 n2
      obtain ⟨rfl,h⟩:=h
      obtain ⟨c,r,h1,h2,h3⟩:=intOp_sound (P:=P) (w:=w) ρ h ⟨fun e=>n1 e,fun e=>n2 e⟩
      refine ⟨c,r,?_,h2,h3⟩
      rw [<- h1]
      cases op <;> rfl
  · rename_i a b
    rw [relStr hu,relStr hv]
    have hg:(eqGuard op t ox oy (.string ⟨a.toArray⟩) (.string ⟨b.toArray⟩)).run P w=.ok () w:=by cases op <;> rfl
    obtain ⟨c,r,h1,h2,h3⟩:=strOp_sound (P:=P) (w:=w) ρ h
    refine ⟨c,r,?_,h2,h3⟩
    simp only [Sem.run_bind,hg,Result.andThen_ok]
    rw [<- h1]
    cases op <;> rfl
  · rename_i k a k' b
    obtain ⟨rfl,h⟩:=h
    rw [relFlt (x:=.undef) hu,relFlt (x:=.undef) hv]
    have hg:(eqGuard op t ox oy (.float k a) (.float k b)).run P w=.ok () w:=by cases op <;> rfl
    simp only [Sem.run_bind,hg,Result.andThen_ok]
    split at h
    · rename_i r hr
      refine ⟨_,_,?_,mkBool ρ r,h⟩
      cases op <;> simp only [fcmp] at hr <;> first | (cases hr; done) | skip
      all_goals (cases hr; simp [binOp,Op.floatCmp])
    · exact h.elim
  · split at h
    · obtain ⟨r,h1,h2⟩:=eqD_sound H h hu hv .eql (.inl rfl) ox oy
      exact ⟨_,_,h1,mkBool ρ _,h2⟩
    · obtain ⟨r,h1,h2⟩:=eqD_sound H h hu hv .neq (.inr rfl) ox oy
      exact ⟨_,_,h1,mkBool ρ _,h2⟩
    · exact h.elim
theorem unD_sound {op:UnOp} {x:AV} {K:AV->Prop} (h:unD op x K) {u:Value} (hu:RelV ρ x u):∃ a r,(Op.unary op u).run P w=.ok r w/\RelV ρ a r/\K a:=by
  unfold unD at h
  split at h
  · rename_i k n
    rw [relInt (x:=.undef) hu]
    exact ⟨_,.int k (k.wrap (0 - n)),by simp only [Op.unary,Op.intArith,Sem.run_pure],mkInt ..,h⟩
  · rw [relBool hu]
    exact ⟨_,_,by simp [Op.unary],mkBool ..,h⟩
  · rw [relFlt (x:=.undef) hu]
    exact ⟨_,_,by simp [Op.unary],mkFlt ..,h⟩
  · exact h.elim
theorem movePtr_rel {x:AV} {n:Nat} {K:AV->Prop} (h:movePtr x n K) {u:Value} (hu:RelV ρ x u) :
    ∃ b o v,u=.pointer (some ⟨b,o,none⟩)/\RelV ρ v (.pointer (some ⟨b,o + n,none⟩))/\K v:=by
  unfold movePtr at h
  split at h
  · rename_i id off
    cases hu with
    | addr _ _ b o m hl=>exact ⟨b,o + off,_,rfl,by rw [Nat.add_assoc]; exact .addr id (off + n) b o m hl,h⟩
  · rename_i cells off
    cases hu with
    | elemP _ _ b o vs hl hi hr=>exact ⟨b,o + off,_,rfl,by rw [Nat.add_assoc]; exact .elemP cells (off + n) b o vs hl hi hr,h⟩
  · rename_i g off
    cases hu
    exact ⟨g,off,_,rfl,.glob g (off + n),h⟩
  · exact h.elim
theorem fieldOff_some {s:TypeId} {f o:Nat} {t:TypeId} (h:fieldOff P s f=some (o,t)):∃ fs fd,P.underlying s=some (.struct fs)/\fs[f]?=some fd/\fd.offset=o/\fd.type=t:=by
  unfold fieldOff at h
  split at h
  · rename_i fs hfs
    cases hf:fs[f]? with
    | none=>simp [hf] at h
    | some fd =>
      simp only [hf,Option.map_some,Option.some.injEq,Prod.mk.injEq] at h
      exact ⟨fs,fd,hfs,hf,h.1,h.2⟩
  · cases h
theorem fieldAddrD_sound {s:TypeId} {x:AV} {f:Nat} {K:AV->Prop} (h:fieldAddrD P s x f K) {u:Value} (hu:RelV ρ x u):∃ a r,(Instr.fieldAt s u f).run P w=.ok r w/\RelV ρ a r/\K a:=by
  unfold fieldAddrD at h
  split at h
  · rename_i o t hfo
    obtain ⟨ht,hs,hm⟩:=h
    obtain ⟨fs,fd,h1,h2,h3,h4⟩:=fieldOff_some hfo
    obtain ⟨b,p,v,rfl,hv,hK⟩:=movePtr_rel hm hu
    refine ⟨v,_,?_,hv,hK⟩
    simp [Instr.fieldAt,run_underlying h1,h2,Instr.sureAddr,fieldPlace,h4,run_size (hasT_inf ht),hs,h3,Addr.add_lit]
  · exact h.elim
theorem partD_sound {t:TypeId} {cs:List AV} {off:Nat} {K:AV->Prop} (h:partD P t cs off K) {vs:List Value} (hr:RelL ρ cs vs):∃ a r,(part t vs.toArray off).run P w=.ok r w/\RelV ρ a r/\K a:=by
  obtain ⟨ht,h⟩:=h
  split at h
  · rename_i ha
    obtain ⟨hle,hK⟩:=h
    refine ⟨_,_,?_,RelV.of_agg ((hr.drop off).take (szOf P t)),hK⟩
    simp only [part,Sem.run_bind,run_agg ht,ha,Result.andThen_ok,if_true,run_size (hasT_inf ht),Sem.run_pure]
    congr 2
    simp
  · rename_i ha
    split at h
    · rename_i v hv
      obtain ⟨r,h1,h2⟩:=hr.get? _ hv
      refine ⟨v,r,?_,h2,h⟩
      simp [part,run_agg ht,ha,h1]
    · exact h.elim
theorem fieldD_sound {s:TypeId} {x:AV} {f:Nat} {K:AV->Prop} (h:fieldD P s x f K) {u:Value} (hu:RelV ρ x u):∃ a r,(Instr.field s u f).run P w=.ok r w/\RelV ρ a r/\K a:=by
  unfold fieldD at h
  split at h
  · rename_i o t cs hfo
    obtain ⟨fs,fd,h1,h2,h3,h4⟩:=fieldOff_some hfo
    cases hu with
    | agg _ vs hl hr =>
      obtain ⟨a,r,hr1,hr2,hr3⟩:=partD_sound (P:=P) (w:=w) h ⟨hl,hr⟩
      refine ⟨a,r,?_,hr2,hr3⟩
      simp [Instr.field,run_underlying h1,h2,asAgg,h3,h4,hr1]
  · exact h.elim
theorem lt_of_ints {i:Int} {n:Nat} (h0:0 <= i) (h1:i < (n:Int)):i.toNat < n:=by omega
theorem indexImm {e:TypeId} {t:TypeId} (ht:P.underlying t=some (.slice e)) (hs:(inf P e).isSome=true) {A:Option Addr} {b o n cap:Nat} {cs:List PV} {vs:List Value} (hl:vs.length=cs.length)
    (hi:ImmAt ρ.imm b o vs) (hr:∀ i (h:i < cs.length),RelP ρ.imm cs[i] (vs.getD i undef)) (hA:cs=[] \/ A=some ⟨b,o,none⟩) (hn:n * szOf P e <= cs.length) (hsz:0 < szOf P e)
    {k:IntKind} {i:Int} (h0:0 <= i) (h1:i < (n:Int)) :
    ∃ r,(Instr.indexAt t (.slice A n cap) (.int k i)).run P w=.ok r w/\RelV ρ (.elemP cs (i.toNat * szOf P e)) r:=by
  have hc:A=some ⟨b,o,none⟩:=by
    rcases hA with rfl | h
    · have:=lt_of_ints h0 h1
      have:0 < n * szOf P e:=Nat.mul_pos (by omega) hsz
      simp at hn
      omega
    · exact h
  subst hc
  refine ⟨.pointer (some ⟨b,o + i.toNat * szOf P e,none⟩),?_,.elemP cs _ b o vs hl hi hr⟩
  simp [Instr.indexAt,asIntOf,run_underlying ht,h0,h1,run_size hs,Addr.add_lit]
theorem indexAddrD_sound {t:TypeId} {x i:AV} {K:AV->Prop} (h:indexAddrD P t x i K) {u v:Value} (hu:RelV ρ x u) (hv:RelV ρ i v):∃ a r,(Instr.indexAt t u v).run P w=.ok r w/\RelV ρ a r/\K a:=by
  unfold indexAddrD at h
  split at h
  · rename_i k i
    rw [relInt (x:=.undef) hv]
    split at h
    · rename_i e id off n sz ht
      obtain ⟨hs,h0,h1,hK⟩:=h
      cases hu with
      | msl _ _ _ _ b o m cap hl hn hc hm =>
        refine ⟨_,.pointer (some ⟨b,o + off + i.toNat * szOf P e,none⟩),?_,by rw [Nat.add_assoc]; exact .addr id _ b o m hl,hK⟩
        simp [Instr.indexAt,asIntOf,run_underlying ht,h0,h1,run_size hs,Addr.add_lit]
    · rename_i e n cs ht
      obtain ⟨hs,hn,hsz,h0,h1,hK⟩:=h
      cases hu with
      | pv hu=>cases hu with
        | lst _ _ A cap b o vs hnc hA hl hi hr =>
          obtain ⟨r,h2,h3⟩:=indexImm (P:=P) (w:=w) (cap:=cap) (k:=k) ht hs hl hi hr hA hn hsz h0 h1
          exact ⟨_,r,h2,h3,hK⟩
    · rename_i e id n cs ht
      obtain ⟨hs,hn,hsz,h0,h1,hK⟩:=h
      cases hu with
      | grow _ _ _ b o cap vs hlin hnc hl hi hr =>
        obtain ⟨r,h2,h3⟩:=indexImm (P:=P) (w:=w) (cap:=cap) (k:=k) ht hs hl hi hr (.inr rfl) hn hsz h0 h1
        exact ⟨_,r,h2,h3,hK⟩
    · rename_i e n cs ht
      obtain ⟨hs,hn,hsz,h0,h1,hK⟩:=h
      cases hu with
      | full _ _ b o vs hl hi hr =>
        obtain ⟨r,h2,h3⟩:=indexImm (P:=P) (w:=w) (cap:=n) (k:=k) ht hs hl hi hr (.inr rfl) hn hsz h0 h1
        exact ⟨_,r,h2,h3,hK⟩
    · rename_i n e id off ht
      obtain ⟨hs,h0,h1,hK⟩:=h
      cases hu with
      | addr _ _ b o m hl =>
        refine ⟨_,.pointer (some ⟨b,o + off + i.toNat * szOf P e,none⟩),?_,by rw [Nat.add_assoc]; exact .addr id _ b o m hl,hK⟩
        simp [Instr.indexAt,asIntOf,run_underlying ht,h0,h1,run_size hs,Addr.add_lit,Instr.sureAddr]
    · rename_i n e cs off ht
      obtain ⟨hs,h0,h1,hK⟩:=h
      cases hu with
      | elemP _ _ b o vs hl hi hr =>
        refine ⟨_,.pointer (some ⟨b,o + off + i.toNat * szOf P e,none⟩),?_,by rw [Nat.add_assoc]; exact .elemP cs _ b o vs hl hi hr,hK⟩
        simp [Instr.indexAt,asIntOf,run_underlying ht,h0,h1,run_size hs,Addr.add_lit,Instr.sureAddr]
    · rename_i n e g off ht
      obtain ⟨hs,h0,h1,hK⟩:=h
      cases hu
      refine ⟨_,.pointer (some ⟨g,off + i.toNat * szOf P e,none⟩),?_,.glob g _,hK⟩
      simp [Instr.indexAt,asIntOf,run_underlying ht,h0,h1,run_size hs,Addr.add_lit,Instr.sureAddr]
    · exact h.elim
  · exact h.elim
theorem indexD_sound {t:TypeId} {x i:AV} {K:AV->Prop} (h:indexD P t x i K) {u v:Value} (hu:RelV ρ x u) (hv:RelV ρ i v):∃ a r,(Instr.index t u v).run P w=.ok r w/\RelV ρ a r/\K a:=by
  unfold indexD at h
  split at h
  · rename_i s k i
    obtain ⟨ht,h0,h⟩:=h
    rw [relStr hu,relInt (x:=.undef) hv]
    split at h
    · rename_i b hb
      refine ⟨_,_,?_,mkInt ..,h⟩
      have hb':(⟨s.toArray⟩:ByteArray)[i.toNat]?=some b:=by
        have e:∀ (a:ByteArray) (j:Nat),a[j]?=a.data[j]?:=fun a j=>rfl
        rw [e]
        simpa using hb
      simp [Instr.index,asIntOf,run_underlying ht,h0,hb']
    · exact h.elim
  · rename_i cs k i
    rw [relInt (x:=.undef) hv]
    split at h
    · rename_i n e ht
      obtain ⟨hs,h0,h1,h⟩:=h
      cases hu with
      | agg _ vs hl hr =>
        obtain ⟨a,r,hr1,hr2,hr3⟩:=partD_sound (P:=P) (w:=w) h ⟨hl,hr⟩
        refine ⟨a,r,?_,hr2,hr3⟩
        simp [Instr.index,asIntOf,run_underlying ht,h0,h1,run_size hs,hr1]
    · exact h.elim
  · exact h.elim
end
end Go.AD
