import Derived.Test.YteabilbccbhecaaGreatDoorM2
import Derived.Laws.BytesString
import Derived.Laws.Tables
import Derived.Laws.NewFold
set_option linter.unusedVariables false
set_option linter.unusedSimpArgs false
namespace Go.AD
section
variable {P:Program} {w0 w:World} {ρ:Gh} {σ:AS}
def RelO (ρ:Gh):Option AV->Option Value->Prop
  | none,none=>True
  | some a,some v=>RelV ρ a v
  | _,_=>False
theorem bound_run {k:IntKind} {i:Int} {y:Nat} (code:BoundsCode) (h0:0 <= i) (h1:i <= (y:Int)) (w:World):(Instr.sliceBound (.int k i) y code).run P w=.ok i.toNat w:=by
  simp [Instr.sliceBound,asIntOf,h0,h1]
theorem cutAt_sound {n cap:Nat} (hn:n <= cap) {lo hi:Option AV} {K:Nat->Nat->Prop} (h:cutAt n lo hi K) {lo' hi':Option Value} (hlo:RelO ρ lo lo') (hhi:RelO ρ hi hi') (b:Bool) :
    ∃ l r,(Instr.sliceBounds b n cap lo' hi' none).run P w=.ok (l,r,cap) w/\l <= r/\r <= n/\K l r:=by
  unfold cutAt at h
  split at h
  · cases hi' with
    | some v=>exact hhi.elim
    | none =>
      split at h
      · cases lo' with
        | some v=>exact hlo.elim
        | none=>exact ⟨0,n,by simp [Instr.sliceBounds],by omega,Nat.le_refl _,h⟩
      · rename_i k l
        cases lo' with
        | none=>exact hlo.elim
        | some v =>
          obtain ⟨h0,h1,hK⟩:=h
          rw [relInt (x:=.undef) hlo]
          exact ⟨l.toNat,n,by simp [Instr.sliceBounds,bound_run _ h0 h1],by omega,Nat.le_refl _,hK⟩
      · exact h.elim
  · rename_i k r
    cases hi' with
    | none=>exact hhi.elim
    | some v =>
      rw [relInt (x:=.undef) hhi]
      split at h
      · cases lo' with
        | some v=>exact hlo.elim
        | none =>
          obtain ⟨h0,h1,hK⟩:=h
          have h2:r <= (cap:Int):=by omega
          exact ⟨0,r.toNat,by simp [Instr.sliceBounds,bound_run _ h0 h2],by omega,by omega,hK⟩
      · rename_i k2 l
        cases lo' with
        | none=>exact hlo.elim
        | some v =>
          obtain ⟨h0,h1,h2,h3,hK⟩:=h
          rw [relInt (x:=.undef) hlo]
          have h4:r <= (cap:Int):=by omega
          have h5:l <= ((r.toNat:Nat):Int):=by omega
          have b1:=bound_run (P:=P) (k:=k) (if b=true then .sliceAcap else .sliceAlen) h0 h4 w
          have b2:=bound_run (P:=P) (k:=k2) .sliceB h2 h5 w
          exact ⟨l.toNat,r.toNat,by simp only [Instr.sliceBounds,Sem.run_bind,Sem.run_pure,Result.andThen_ok,b1,Option.isSome,Bool.false_eq_true,if_false,b2],by omega,by omega,hK⟩
      · exact h.elim
  · exact h.elim
theorem ImmAt.cut {imm:Nat->Nat->Option Value} {b o:Nat} {vs:List Value} (h:ImmAt imm b o vs) (l r:Nat):ImmAt imm b (o + l) ((vs.take r).drop l):=by
  intro i hi
  simp only [List.length_drop,List.length_take] at hi
  have:=h (l + i) (by omega)
  rw [Nat.add_assoc,this]
  congr 1
  simp only [List.getD_eq_getElem?_getD,List.getElem?_drop]
  rw [List.getElem?_take,if_pos (by omega)]
theorem RelPL.cut {ρ:Gh} {cs:List PV} {vs:List Value} (h:RelPL ρ.imm cs vs) (l r:Nat):RelPL ρ.imm ((cs.take r).drop l) ((vs.take r).drop l):=by
  have:=(h.toL.take r).drop l
  rw [<- List.map_take,<- List.map_drop] at this
  exact RelPL.of_L this
theorem run_slice_slice {t e:TypeId} (ht:P.underlying t=some (.slice e)) (hs:(inf P e).isSome=true) {A:Option Addr} {n cap l r:Nat} {lo hi:Option Value}
    (hb:(Instr.sliceBounds true n cap lo hi none).run P w=.ok (l,r,cap) w) :
    (Instr.sliceAt t (.slice A n cap) lo hi none).run P w=.ok (.slice (if cap=l then A else A.map (·.add (l * szOf P e))) (r - l) (cap - l)) w:=by
  simp [Instr.sliceAt,Instr.slice,run_underlying ht,hb,run_size hs]
theorem cut_lst {ρ:Gh} {e:TypeId} {cs:List PV} {vs:List Value} {A:Option Addr} {b o n cap l r:Nat} (hn:n <= cap) (hA:cs=[] \/ A=some ⟨b,o,none⟩) (hp:RelPL ρ.imm cs vs) (hi:ImmAt ρ.imm b o vs) (h1:l <= r) (h2:r <= n) :
    RelV ρ (.pv (.lst (r - l) ((cs.take (r * szOf P e)).drop (l * szOf P e)))) (.slice (if cap=l then A else A.map (·.add (l * szOf P e))) (r - l) (cap - l)):=by
  have hp':=hp.cut (l * szOf P e) (r * szOf P e)
  refine .pv (.lst _ _ _ _ b (o + l * szOf P e) _ (by omega) ?_ hp'.1 (hi.cut _ _) hp'.2)
  by_cases hc:cap=l
  · left
    have:r=l:=by omega
    subst this
    exact List.drop_eq_nil_of_le (by simp; omega)
  · rcases hA with rfl | rfl
    · left; simp
    · right; simp [hc,Addr.add_lit]
theorem str_extract (s:List UInt8) (l h:Nat):(⟨s.toArray⟩:ByteArray).extract l h=⟨((s.take h).drop l).toArray⟩:=by
  apply ByteArray.ext
  simp [ByteArray.data_extract]
  rw [List.drop_take]
theorem sliceD_sound (H:RelH w0 ρ σ w) {t:TypeId} {x:AV} {lo hi:Option AV} {K:AV->Prop} (h:sliceD P t x lo hi K) {u:Value} {lo' hi':Option Value} (hu:RelV ρ x u) (hlo:RelO ρ lo lo') (hhi:RelO ρ hi hi') :
    ∃ a r,(Instr.sliceAt t u lo' hi' none).run P w=.ok r w/\RelV ρ a r/\K a:=by
  unfold sliceD at h
  split at h
  · rename_i s
    obtain ⟨ht,h⟩:=h
    rw [relStr hu]
    obtain ⟨l,r,h1,h2,h3,hK⟩:=cutAt_sound (P:=P) (w:=w) (Nat.le_refl s.length) h hlo hhi false
    refine ⟨_,.string ⟨((s.take r).drop l).toArray⟩,?_,mkStr ..,hK⟩
    have hs:(⟨s.toArray⟩:ByteArray).size=s.length:=bytes_size s
    simp only [Instr.sliceAt,Instr.slice,Sem.run_bind,run_underlying ht,Result.andThen_ok,Option.isSome,Bool.false_eq_true,if_false,hs,h1,Sem.run_pure,str_extract]
  · rename_i n cs
    split at h
    · rename_i e he
      obtain ⟨hs,h⟩:=h
      cases hu with | pv hu=>cases hu with
      | lst _ _ A cap b o vs hnc hA hl hi hr =>
        obtain ⟨l,r,h1,h2,h3,hK⟩:=cutAt_sound (P:=P) (w:=w) hnc h hlo hhi true
        exact ⟨_,_,run_slice_slice (elOf_some he) hs h1,cut_lst hnc hA ⟨hl,hr⟩ hi h2 h3,hK⟩
    · exact h.elim
  · rename_i id n cs
    split at h
    · rename_i e he
      obtain ⟨hs,h⟩:=h
      cases hu with
      | grow _ _ _ b o cap vs hlin hnc hl hi hr =>
        obtain ⟨l,r,h1,h2,h3,hK⟩:=cutAt_sound (P:=P) (w:=w) hnc h hlo hhi true
        exact ⟨_,_,run_slice_slice (elOf_some he) hs h1,cut_lst hnc (.inr rfl) ⟨hl,hr⟩ hi h2 h3,hK⟩
    · exact h.elim
  · rename_i n cs
    split at h
    · rename_i e he
      obtain ⟨hs,h⟩:=h
      cases hu with
      | full _ _ b o vs hl hi hr =>
        obtain ⟨l,r,h1,h2,h3,hK⟩:=cutAt_sound (P:=P) (w:=w) (Nat.le_refl n) h hlo hhi true
        exact ⟨_,_,run_slice_slice (elOf_some he) hs h1,cut_lst (Nat.le_refl n) (.inr rfl) ⟨hl,hr⟩ hi h2 h3,hK⟩
    · exact h.elim
  · split at h
    · rename_i e he
      obtain ⟨hs,h⟩:=h
      cases hu
      obtain ⟨l,r,h1,h2,h3,hK⟩:=cutAt_sound (P:=P) (w:=w) (Nat.le_refl 0) h hlo hhi true
      have e1:r=0:=by omega
      have e2:l=0:=by omega
      subst e1; subst e2
      exact ⟨_,_,run_slice_slice (elOf_some he) hs h1,by simpa using RelV.nilS,hK⟩
    · exact h.elim
  · rename_i id off n sz
    split at h
    · rename_i e he
      obtain ⟨hs,hsz,h⟩:=h
      cases hu with
      | msl _ _ _ _ b o m cap hl hnc hc hm =>
        obtain ⟨l,r,h1,h2,h3,hK⟩:=cutAt_sound (P:=P) (w:=w) hnc h hlo hhi true
        split at hK
        · rename_i hlr
          subst hlr
          refine ⟨_,_,run_slice_slice (elOf_some he) hs h1,?_,hK⟩
          rw [Nat.sub_self]
          exact .pv (.lst 0 [] _ _ 0 0 [] (Nat.zero_le _) (.inl rfl) rfl (fun i hi=>absurd hi (by simp)) (fun i hi=>absurd hi (by simp)))
        · rename_i hlr
          have hcl:cap ≠ l:=by omega
          refine ⟨_,_,run_slice_slice (elOf_some he) hs h1,?_,hK⟩
          rw [if_neg hcl]
          simp only [Option.map_some,Addr.add_lit]
          rw [Nat.add_assoc,<- hsz]
          refine .msl id (off + l * sz) (r - l) sz b o m (cap - l) hl (by omega) (by omega) ?_
          have:l * sz + (cap - l) * sz=cap * sz:=by rw [<- Nat.add_mul]; congr 1; omega
          omega
    · exact h.elim
  · exact h.elim
theorem cutD_sound {t:TypeId} {x h m:AV} {K:AV->Prop} (hK:cutD P t x h m K) {u h' m':Value} (hu:RelV ρ x u) (hh:RelV ρ h h') (hm:RelV ρ m m') :
    ∃ a r,(Instr.sliceAt t u none (some h') (some m')).run P w=.ok r w/\RelV ρ a r/\K a:=by
  unfold cutD at hK
  split at hK
  case h_2=>exact hK.elim
  rename_i k1 i k2 j
  obtain ⟨rfl,hK⟩:=hK
  rw [relInt (x:=.undef) hh,relInt (x:=.undef) hm]
  split at hK
  case h_2=>exact hK.elim
  rename_i e he
  obtain ⟨hs,hK⟩:=hK
  have key:∀ (A:Option Addr) (n cap:Nat),n <= cap->i=(n:Int)->(Instr.sliceAt t (.slice A n cap) none (some (.int k1 i)) (some (.int k2 i))).run P w=.ok (.slice A n n) w:=by
    intro A n cap hn hi
    subst hi
    have b1:(Instr.sliceBound (.int k2 (n:Int)) cap .slice3Acap).run P w=.ok n w:=by
      simpa using bound_run (P:=P) (k:=k2) (y:=cap) .slice3Acap (Int.natCast_nonneg n) (by omega) w
    have b2:(Instr.sliceBound (.int k1 (n:Int)) n .slice3B).run P w=.ok n w:=by
      simpa using bound_run (P:=P) (k:=k1) (y:=n) .slice3B (Int.natCast_nonneg n) (by omega) w
    have ha:(if n=0 then A else Option.map (fun a=>a.add (0 * szOf P e)) A)=A:=by
      cases A with
      | none=>simp
      | some a=>obtain ⟨b,o,sp⟩:=a; cases sp <;> simp [Addr.add]
    simp only [Instr.sliceAt,Instr.slice,Sem.run_bind,run_underlying (elOf_some he),Result.andThen_ok,Option.isSome,Instr.sliceBounds,b1,b2,Sem.run_pure,if_true,run_size hs,Int.toNat_natCast,Nat.sub_zero,ha]
  split at hK
  · rename_i n cs
    cases hu with | pv hu=>cases hu with
    | lst _ _ A cap b o vs hnc hA hl hi hr=>exact ⟨_,_,key A n cap hnc hK.1,.cut n cs A b o vs hA hl hi hr,hK.2⟩
  · rename_i id n cs
    cases hu with
    | grow _ _ _ b o cap vs hlin hnc hl hi hr=>exact ⟨_,_,key _ n cap hnc hK.1,.cut n cs _ b o vs (.inr rfl) hl hi hr,hK.2⟩
  · rename_i n cs
    cases hu with
    | full _ _ b o vs hl hi hr=>exact ⟨_,_,key _ n n (Nat.le_refl n) hK.1,.cut n cs _ b o vs (.inr rfl) hl hi hr,hK.2⟩
  · cases hu
    exact ⟨_,_,key none 0 0 (Nat.le_refl 0) (by simpa using hK.1),.nilS,hK.2⟩
  · exact hK.elim
theorem lenD_sound {t:TypeId} {x:AV} {K:AV->Prop} (h:lenD P t x K) {u:Value} (hu:RelV ρ x u) (ts:Array TypeId) (us:Array Value) (ht:ts[0]?=some t) (hus:us[0]?=some u) (ty:TypeId) :
    ∃ a r,(Builtin.len_ ts ty us).run P w=.ok r w/\RelV ρ a r/\K a:=by
  unfold lenD at h
  split at h
  · rename_i s hd
    rw [relStr hu] at hus
    exact ⟨_,.int .i64 s.length,by simp [Builtin.len_,ht,hus,run_underlying hd,goInt,bytes_size],mkInt ..,h⟩
  · rename_i e n cs hd
    cases hu with | pv hu=>cases hu with
    | lst _ _ A cap b o vs hnc hA hl hi hr=>exact ⟨_,.int .i64 n,by simp [Builtin.len_,ht,hus,run_underlying hd,goInt],mkInt ..,h⟩
  · rename_i e id n cs hd
    cases hu with
    | grow _ _ _ b o cap vs hlin hnc hl hi hr=>exact ⟨_,.int .i64 n,by simp [Builtin.len_,ht,hus,run_underlying hd,goInt],mkInt ..,h⟩
  · rename_i e n cs hd
    cases hu with
    | full _ _ b o vs hl hi hr=>exact ⟨_,.int .i64 n,by simp [Builtin.len_,ht,hus,run_underlying hd,goInt],mkInt ..,h⟩
  · rename_i e hd
    cases hu
    exact ⟨_,.int .i64 0,by simp [Builtin.len_,ht,hus,run_underlying hd,goInt],mkInt ..,h⟩
  · rename_i e id off n sz hd
    cases hu with
    | msl _ _ _ _ b o m cap hl hnc hc hm=>exact ⟨_,.int .i64 n,by simp [Builtin.len_,ht,hus,run_underlying hd,goInt],mkInt ..,h⟩
  · rename_i n e hd
    exact ⟨_,.int .i64 n,by simp [Builtin.len_,ht,hus,run_underlying hd,goInt],mkInt ..,h⟩
  · exact h.elim
theorem foldD_sound (f:AV->AV->(AV->Prop)->Prop) (g:Value->Value->Sem Value)
    (hf:∀ x y K u v,f x y K->RelV ρ x u->RelV ρ y v->∃ a r,(g u v).run P w=.ok r w/\RelV ρ a r/\K a) :
    ∀ (ys:List AV) (x:AV) (K:AV->Prop) (u:Value) (vs:List Value),foldD f x ys K->RelV ρ x u->RelL ρ ys vs->∃ a r,(vs.foldlM g u).run P w=.ok r w/\RelV ρ a r/\K a
  | [],x,K,u,vs,h,hu,hvs=>by
    rw [hvs.nil_inv]
    exact ⟨x,u,rfl,hu,h⟩
  | y :: ys,x,K,u,vs,h,hu,hvs=>by
    obtain ⟨v,vs',rfl,hv,hr⟩:=hvs.uncons
    obtain ⟨a,r,h1,h2,h3⟩:=hf x y _ u v h hu hv
    obtain ⟨a',r',h4,h5,h6⟩:=foldD_sound f g hf ys a K r vs' h3 h2 hr
    exact ⟨a',r',by simp only [List.foldlM_cons,Sem.run_bind,h1,Result.andThen_ok,h4],h5,h6⟩
theorem max2_sound:∀ x y (K:AV->Prop) u v,max2D x y K->RelV ρ x u->RelV ρ y v->∃ a r,(Builtin.max2 u v).run P w=.ok r w/\RelV ρ a r/\K a:=by
  intro x y K u v h hu hv
  unfold max2D at h
  split at h
  · rw [relInt (x:=.undef) hu,relInt (x:=.undef) hv]
    exact ⟨_,_,by simp only [Builtin.max2,Sem.run_pure],mkInt ..,h⟩
  · exact h.elim
theorem min2_sound:∀ x y (K:AV->Prop) u v,min2D x y K->RelV ρ x u->RelV ρ y v->∃ a r,(Builtin.min2 u v).run P w=.ok r w/\RelV ρ a r/\K a:=by
  intro x y K u v h hu hv
  unfold min2D at h
  split at h
  · rw [relInt (x:=.undef) hu,relInt (x:=.undef) hv]
    exact ⟨_,_,by simp only [Builtin.min2,Sem.run_pure],mkInt ..,h⟩
  · exact h.elim
end
end Go.AD

set_option linter.unusedVariables false
set_option linter.unusedSimpArgs false
namespace Go.AD
section
variable {P:Program} {w0 w:World} {ρ:Gh} {σ:AS}
theorem cellOk_one {v:AV} {u:Value} (h:RelV ρ v u) (hv:v.cellOk=true):u.oneCell'=true:=by
  cases h with
  | pv h=>cases h <;> rfl
  | undef=>simp [AV.cellOk] at hv
  | agg=>simp [AV.cellOk] at hv
  | tuple=>simp [AV.cellOk] at hv
  | any _ h1 h2=>exact h1
  | _=>rfl
theorem cells_rel {v:AV} {u:Value} (h:RelV ρ v u) (hv:v.cells.all AV.cellOk=true):RelL ρ v.cells u.cells.toList:=by
  cases h with
  | undef=>simp [AV.cells,AV.cellOk] at hv
  | agg cs vs hl hr=>exact ⟨hl,hr⟩
  | tuple=>simp [AV.cells,AV.cellOk] at hv
  | pv h =>
    have hp:=RelV.pv (ρ:=ρ) h
    cases h <;> exact .cons hp (.nil ρ)
  | addr id off b o m h=>exact .cons (.addr id off b o m h) (.nil ρ)
  | elemP cells off b o vs hl hi hr=>exact .cons (.elemP cells off b o vs hl hi hr) (.nil ρ)
  | nilS=>exact .cons .nilS (.nil ρ)
  | grow id n cells b o cap vs h hn hl hi hr=>exact .cons (.grow id n cells b o cap vs h hn hl hi hr) (.nil ρ)
  | full n cells b o vs hl hi hr=>exact .cons (.full n cells b o vs hl hi hr) (.nil ρ)
  | glob g off=>exact .cons (.glob g off) (.nil ρ)
  | cut n cells A b o vs hA hl hi hr=>exact .cons (.cut n cells A b o vs hA hl hi hr) (.nil ρ)
  | msl id off n size b o m cap h hn hc hm=>exact .cons (.msl id off n size b o m cap h hn hc hm) (.nil ρ)
  | clo f first cap vs us hl hr hl' hr'=>exact .cons (.clo f first cap vs us hl hr hl' hr') (.nil ρ)
  | iter id b m h=>exact .cons (.iter id b m h) (.nil ρ)
  | amap id b m h=>exact .cons (.amap id b m h) (.nil ρ)
  | any _ h1 h2 =>
    rw [h2]
    exact .cons (.any _ h1 h2) (.nil ρ)
theorem all_one {cs:List AV} {us:List Value} (h:RelL ρ cs us) (hc:cs.all AV.cellOk=true):∀ u ∈ us,u.oneCell'=true:=by
  induction cs generalizing us with
  | nil=>rw [h.nil_inv]; intro u hu; cases hu
  | cons c cs ih =>
    obtain ⟨v,vs,rfl,hv,hr⟩:=h.uncons
    simp only [List.all_cons,Bool.and_eq_true] at hc
    intro u hu
    rcases List.mem_cons.1 hu with rfl | hu
    · exact cellOk_one hv hc.1
    · exact ih hr hc.2 u hu
def setV:List Value->Nat->List Value->List Value
  | vs,_,[]=>vs
  | vs,o,u :: us=>setV (vs.set o u) (o + 1) us
theorem setAll_rel:∀ {ds:List AV} {us:List Value} {cs:List AV} {vs:List Value} (o:Nat),RelL ρ ds us->RelL ρ cs vs->RelL ρ (setAll cs o ds) (setV vs o us)
  | [],us,cs,vs,o,h,k=>by rw [h.nil_inv]; exact k
  | d :: ds,us,cs,vs,o,h,k=>by
    obtain ⟨u,us',rfl,hu,hr⟩:=h.uncons
    exact setAll_rel (o + 1) hr (k.set o hu)
theorem setV_eq:∀ (us vs:List Value) (o:Nat),o + us.length <= vs.length->setV vs o us=vs.take o ++ us ++ vs.drop (o + us.length)
  | [],vs,o,h=>by simp [setV]
  | u :: us,vs,o,h=>by
    simp only [List.length_cons] at h
    rw [setV,setV_eq us _ (o + 1) (by simp; omega)]
    have ho:o < vs.length:=by omega
    rw [List.set_eq_take_append_cons_drop,if_pos ho]
    have ht:(vs.take o).length=o:=by simp; omega
    rw [List.take_append,List.drop_append,ht]
    simp only [Nat.add_sub_cancel_left,List.take_succ_cons,List.take_zero,List.length_cons]
    rw [show o + 1 + us.length - o=us.length + 1 by omega,List.drop_succ_cons,List.drop_drop]
    have e1:List.take (o + 1) (vs.take o)=vs.take o:=List.take_of_length_le (by omega)
    have e2:List.drop (o + 1 + us.length) (vs.take o)=[]:=List.drop_eq_nil_of_le (by omega)
    rw [e1,e2,show o + 1 + us.length=o + (us.length + 1) by omega]
    simp
theorem setV_length:∀ (us vs:List Value) (o:Nat),(setV vs o us).length=vs.length
  | [],vs,o=>rfl
  | u :: us,vs,o=>by rw [setV,setV_length us]; simp
theorem setAll_length:∀ (us vs:List AV) (o:Nat),(setAll vs o us).length=vs.length
  | [],vs,o=>rfl
  | u :: us,vs,o=>by rw [setAll,setAll_length us]; simp
theorem foldSet (off:Nat):∀ (l:List Value) (k:Nat) (arr:Array Value),(l.zipIdx k).foldl (fun cs (x:Value × Nat)=>cs.setIfInBounds (off + x.2) x.1) arr=(setV arr.toList (off + k) l).toArray
  | [],k,arr=>by simp [setV]
  | u :: us,k,arr=>by
    rw [List.zipIdx_cons,List.foldl_cons,foldSet off us (k + 1),setV]
    simp [Nat.add_assoc]
theorem fill_cons (place:Nat->Option (Nat × Nat)) (cells:Array Value) (i:Nat) (v:Value) (rest:List (Nat × Value)) {o sz:Nat} (hp:place i=some (o,sz)) (h1:v.cells.size=sz) (h2:o + sz <= cells.size) :
    Instr.fill place cells ((i,v) :: rest)=Instr.fill place (setV cells.toList o v.cells.toList).toArray rest:=by
  rw [Instr.fill,hp]
  simp only [h1,ne_eq,not_true_eq_false,false_or]
  rw [if_neg (by simp; omega)]
  congr 1
  have:=foldSet o v.cells.toList 0 cells
  rw [Nat.add_zero] at this
  rw [<- this,<- Array.toList_zipIdx,Array.foldl_toList]
def RelParts (ρ:Gh):List (Nat × AV)->List (Nat × Value)->Prop
  | [],[]=>True
  | (i,a) :: l,(j,v) :: m=>i=j/\RelV ρ a v/\RelParts ρ l m
  | _,_=>False
theorem buildFill_sound {fs:Nat->Option (Nat × TypeId)} {place:Nat->Option (Nat × Nat)} (hp:∀ i o t,fs i=some (o,t)->place i=some (o,szOf P t)) :
    ∀ (parts:List (Nat × AV)) (parts':List (Nat × Value)) (cs:List AV) (vs:Array Value) (out:List AV),RelParts ρ parts parts'->RelL ρ cs vs.toList->buildFill fs P cs parts=some out ->
      ∃ us,Instr.fill place vs parts'=some us/\RelL ρ out us.toList
  | [],parts',cs,vs,out,h,k,hb=>by
    cases parts' with
    | cons _ _=>exact h.elim
    | nil =>
      simp [buildFill] at hb
      subst hb
      exact ⟨vs,rfl,k⟩
  | (i,a) :: parts,parts',cs,vs,out,h,k,hb=>by
    cases parts' with
    | nil=>exact h.elim
    | cons p' parts' =>
      obtain ⟨j,v⟩:=p'
      obtain ⟨rfl,hv,hr⟩:=h
      simp only [buildFill] at hb
      split at hb
      · rename_i o t hf
        split at hb
        · rename_i hc
          obtain ⟨h1,h2,h3,h4⟩:=hc
          have hcr:=cells_rel hv h4
          have hsz:v.cells.size=szOf P t:=by have:=hcr.1; simp at this; omega
          obtain ⟨us,hu,hur⟩:=buildFill_sound hp parts parts' _ (setV vs.toList o v.cells.toList).toArray out hr (by simpa using setAll_rel o hcr k) hb
          refine ⟨us,?_,hur⟩
          rw [fill_cons place vs i v parts' (hp _ _ _ hf) hsz (by have:=k.1; simp at this; omega),hu]
        · cases hb
      · cases hb
theorem fieldOff_info {t:TypeId} {fs:Array Field} (hu:P.underlying t=some (.struct fs)) (hall:(fs.all fun f=>hasT P f.type)=true) :
    ∃ places:List (Nat × Nat),fs.toList.mapM (fun f=>(P.info? f.type).map fun i=>(f.offset,i.size))=some places/\∀ i o ty,fieldOff P t i=some (o,ty)->places.toArray[i]?=some (o,szOf P ty):=by
  have hall':∀ f ∈ fs.toList,hasT P f.type=true:=by
    intro f hf
    have:=Array.all_eq_true'.1 hall f (by simpa using hf)
    simpa using this
  have key:∀ l:List Field,(∀ f ∈ l,hasT P f.type=true)->l.mapM (fun f=>(P.info? f.type).map fun i=>(f.offset,i.size))=some (l.map fun f=>(f.offset,szOf P f.type)):=by
    intro l
    induction l with
    | nil=>intro _; rfl
    | cons f l ih =>
      intro h
      obtain ⟨i,hi,hs,_⟩:=inf_some (hasT_inf (h f (by simp)))
      simp [List.mapM_cons,hi,ih (fun g hg=>h g (by simp [hg])),hs]
  refine ⟨_,key _ hall',fun i o ty h=>?_⟩
  obtain ⟨fs',fd,h1,h2,h3,h4⟩:=fieldOff_some h
  rw [hu] at h1
  cases h1
  simp [h2,h3,h4]
theorem zeroOf_some {t:TypeId} {z:List AV} (h:zeroOf P t=some z):∃ i zv,P.info? t=some i/\i.zero=some zv/\z=zv.cells.toList.map ofCell:=by
  unfold zeroOf inf at h
  cases hi:P.info? t with
  | none=>simp [hi] at h
  | some i =>
    cases hz:i.zero with
    | none=>simp [hi,hz] at h
    | some zv =>
      simp [hi,hz] at h
      exact ⟨i,zv,rfl,hz,h.symm⟩
theorem buildD_sound {t:TypeId} {parts:List (Nat × AV)} {K:AV->Prop} (h:buildD P t parts K) (parts':Array (Nat × Value)) (hp:RelParts ρ parts parts'.toList) (w:World) :
    ∃ a r,(Instr.build t parts').run P w=.ok r w/\RelV ρ a r/\K a:=by
  unfold buildD at h
  split at h
  · rename_i z fs hz hu
    obtain ⟨hall,h⟩:=h
    split at h
    · rename_i cs hcs
      obtain ⟨i,zv,hi,hzv,rfl⟩:=zeroOf_some hz
      obtain ⟨places,hm,hpl⟩:=fieldOff_info hu hall
      obtain ⟨us,hus,hr⟩:=buildFill_sound (P:=P) (ρ:=ρ) hpl parts parts'.toList _ zv.cells cs hp (ofCells_rel ρ _) hcs
      refine ⟨.agg cs,.agg us,run_build w t parts' us ?_,by simpa using RelV.of_agg hr,h⟩
      simp only [Program.built,hi,hu,hzv,hm]
      exact hus
    · exact h.elim
  · rename_i z n e hz hu
    obtain ⟨hie,h⟩:=h
    split at h
    · rename_i cs hcs
      obtain ⟨i,zv,hi,hzv,rfl⟩:=zeroOf_some hz
      obtain ⟨ie,hie,hsz,_⟩:=inf_some hie
      obtain ⟨us,hus,hr⟩:=buildFill_sound (P:=P) (ρ:=ρ) (place:=fun i=>some (i * ie.size,ie.size)) (by
        intro i o t h
        simp only [Option.some.injEq,Prod.mk.injEq] at h
        rw [<- h.1,<- h.2,hsz]) parts parts'.toList _ zv.cells cs hp (ofCells_rel ρ _) hcs
      refine ⟨.agg cs,.agg us,run_build w t parts' us ?_,by simpa using RelV.of_agg hr,h⟩
      simp only [Program.built,hi,hu,hzv,hie]
      exact hus
    · exact h.elim
  · exact h.elim
theorem shown_sound (H:RelH w0 ρ σ w) {e:TypeId} {x:AV} {n:Nat} {cs:List PV} (h:shown P σ e x=some (n,cs)) {u:Value} (hu:RelV ρ x u) :
    ∃ A cap b o vs,u=.slice A n cap/\n <= cap/\RelPL ρ.imm cs vs/\(cs=[] \/ A=some ⟨b,o,none⟩)/\∀ (i:Nat) v,vs[i]?=some v->w.cell? ⟨b,o + i,none⟩=some v:=by
  unfold shown at h
  split at h
  · cases h
    cases hu with | pv hu=>cases hu with
    | lst _ _ A cap b o vs hnc hA hl hi hr=>exact ⟨A,cap,b,o,vs,rfl,hnc,⟨hl,hr⟩,hA,fun i v hv=>ImmAt.cell H hi i v hv⟩
  · cases h
    cases hu
    exact ⟨none,0,0,0,[],rfl,Nat.le_refl _,⟨rfl,fun i hi=>absurd hi (by simp)⟩,.inl rfl,fun i v hv=>by simp at hv⟩
  · cases h
    cases hu with
    | grow _ _ _ b o cap vs hlin hnc hl hi hr=>exact ⟨_,cap,b,o,vs,rfl,hnc,⟨hl,hr⟩,.inr rfl,fun i v hv=>ImmAt.cell H hi i v hv⟩
  · cases h
    cases hu with
    | full _ _ b o vs hl hi hr=>exact ⟨_,n,b,o,vs,rfl,Nat.le_refl _,⟨hl,hr⟩,.inr rfl,fun i v hv=>ImmAt.cell H hi i v hv⟩
  · rename_i id off n' sz
    split at h
    · rename_i objs var ho
      split at h
      · rename_i hle
        cases hp:toPVs ((objs.drop off).take (n' * szOf P e)) with
        | none=>simp [hp] at h
        | some ps =>
          simp [hp] at h
          obtain ⟨rfl,rfl⟩:=h
          obtain ⟨b,o,m,vs,hl,_,hr,_,hc⟩:=cells_at H ho
          cases hu with
          | msl _ _ _ _ b' o' m' cap hl' hnc hcm hm =>
            rw [hl] at hl'
            cases hl'
            refine ⟨_,cap,b,o + off,(vs.drop off).take (n' * szOf P e),rfl,hnc,toPVs_rel ((hr.drop off).take _) hp,.inr rfl,fun i v hv=>?_⟩
            rw [List.getElem?_take] at hv
            split at hv
            · rw [List.getElem?_drop] at hv
              have:=hc _ _ hv
              rwa [<- Nat.add_assoc] at this
            · cases hv
      · cases h
    · cases h
  · cases h
theorem bytesOfPV_some:∀ {cs:List PV} {l:List UInt8} {imm:Nat->Nat->Option Value} {vs:List Value},bytesOfPV cs=some l->RelPL imm cs vs ->
    ∃ ns:List Int,vs=ns.map (Value.int .u8)/\l=ns.map fun n=>UInt8.ofNat n.toNat
  | [],l,imm,vs,h,hr=>by
    simp [bytesOfPV] at h
    subst h
    have:vs=[]:=List.eq_nil_of_length_eq_zero (by simpa using hr.1)
    subst this
    exact ⟨[],rfl,rfl⟩
  | p :: cs,l,imm,vs,h,hr=>by
    cases vs with
    | nil=>have:=hr.1; simp at this
    | cons v vs =>
      unfold bytesOfPV at h
      split at h
      · rename_i h1; cases h1
      · rename_i n ps heq
        cases heq
        cases hb:bytesOfPV cs with
        | none=>simp [hb] at h
        | some l' =>
          simp [hb] at h
          subst h
          have h0:=hr.2 0 (by simp)
          simp at h0
          cases h0
          obtain ⟨ns,e1,e2⟩:=bytesOfPV_some (imm:=imm) (vs:=vs) hb ⟨by simpa using hr.1,fun i hi=>by have:=hr.2 (i + 1) (by simpa using hi); simpa using this⟩
          exact ⟨n :: ns,by rw [e1]; rfl,by rw [e2]; rfl⟩
      · cases h
theorem push_fold:∀ (ns:List Int) (l:List UInt8),ns.foldl (fun (r:ByteArray) (n:Int)=>r.push (UInt8.ofNat n.toNat)) ⟨l.toArray⟩=⟨(l ++ ns.map fun n=>UInt8.ofNat n.toNat).toArray⟩
  | [],l=>by simp
  | n :: ns,l=>by
    rw [List.foldl_cons]
    have:(⟨l.toArray⟩:ByteArray).push (UInt8.ofNat n.toNat)=⟨(l ++ [UInt8.ofNat n.toNat]).toArray⟩:=by
      apply ByteArray.ext
      simp
    rw [this,push_fold ns]
    simp
theorem convD_sound (H:RelH w0 ρ σ w) {s d:TypeId} {x:AV} {K:AV->Prop} (h:convD P σ s d x K) {u:Value} (hu:RelV ρ x u):∃ a r,(convert s d u).run P w=.ok r w/\RelV ρ a r/\K a:=by
  unfold convD at h
  split at h
  · rename_i k k' n hs hd
    rw [relInt (x:=.undef) hu]
    exact ⟨_,_,by simp only [convert,Sem.run_bind,run_underlying hs,run_underlying hd,Result.andThen_ok,Conv.intToInt,Sem.run_pure],mkInt ..,h⟩
  · rename_i k k' n hs hd
    rw [relInt (x:=.undef) hu]
    exact ⟨_,_,by simp only [convert,Sem.run_bind,run_underlying hs,run_underlying hd,Result.andThen_ok,Conv.intToFloat,Sem.run_pure]; rfl,mkFlt ..,h⟩
  · rename_i k s b hs hd
    rw [relFlt (x:=.undef) hu]
    split at h
    · rename_i n hn
      exact ⟨_,_,run_convert_float_int w _ _ s k b n (by rw [hs]; rfl) hd hn,mkInt ..,h⟩
    · exact h.elim
  · rename_i k s b hs hd
    rw [relFlt (x:=.undef) hu]
    obtain ⟨rfl,h⟩:=h
    exact ⟨_,_,run_convert_float_float w _ _ s s b b (by rw [hs]; rfl) hd (by simp [floatToFloatBits]),mkFlt ..,h⟩
  · rename_i k n hs hd
    rw [relInt (x:=.undef) hu]
    refine ⟨_,.string (Utf8.encode n),by simp only [convert,Sem.run_bind,run_underlying hs,run_underlying hd,Result.andThen_ok,Conv.intToString,Sem.run_pure],?_,h⟩
    have:=mkStr ρ (Utf8.encode n).data.toList
    simpa using this
  · rename_i t hs hd
    rw [relStr hu]
    exact ⟨_,_,by simp only [convert,Sem.run_bind,run_underlying hs,run_underlying hd,Result.andThen_ok,Sem.run_pure],mkStr ..,h⟩
  · rename_i e hs hd hn1 hn2
    obtain ⟨he,hsz,h⟩:=h
    split at h
    · rename_i n cs hsh
      obtain ⟨hn,h⟩:=h
      split at h
      · rename_i l hb
        obtain ⟨A,cap,b,o,vs,rfl,hnc,hr,hA,hc⟩:=shown_sound (P:=P) H hsh hu
        obtain ⟨ns,e1,e2⟩:=bytesOfPV_some hb hr
        refine ⟨_,.string ⟨l.toArray⟩,?_,mkStr ..,h⟩
        rw [run_convert_bytes_string w s d e A n cap hs he hd]
        have hlen:vs.length=n:=by have:=hr.1; omega
        rcases hA with rfl | rfl
        · have hv:vs=[]:=List.eq_nil_of_length_eq_zero (by simpa using hr.1)
          subst hv
          have hn0:n=0:=by simpa using hn
          subst hn0
          have hns:ns=[]:=by simpa using e1
          subst hns
          subst e2
          cases A with
          | none=>rfl
          | some a =>
            have:=run_bytesToString (P:=P) w a 0 cap [] rfl
            exact this
        · have hl:=run_loadCells_list (P:=P) w ⟨b,o,none⟩ vs (fun j v hv=>by rw [Addr.add_lit]; exact hc j v hv)
          rw [hlen,e1] at hl
          have:=run_bytesToString (P:=P) w ⟨b,o,none⟩ n cap ns hl
          rw [this,e2]
          have hp:=push_fold ns []
          simp only [List.nil_append] at hp
          rw [<- hp]
          rfl
      · exact h.elim
    · exact h.elim
  · exact h.elim
end
end Go.AD

set_option linter.unusedVariables false
set_option linter.unusedSimpArgs false
set_option maxRecDepth 20000
namespace Go.AD
open RowKit
section
variable {P:Program} {w0 w w':World} {ρ ρ':Gh} {σ:AS}
theorem inv_amap {id:Nat} {u:Value} (h:RelV ρ (.amap id) u):∃ b m,u=.map (some b)/\ρ.loc id=some (b,0,m):=by
  cases h with | amap _ b m hl=>exact ⟨b,m,rfl,hl⟩
theorem inv_iterP {id:Nat} {u:Value} (h:RelV ρ (.iter id) u):∃ b m,u=.pointer (some ⟨b,0,none⟩)/\ρ.loc id=some (b,0,m):=by
  cases h with | iter _ b m hl=>exact ⟨b,m,rfl,hl⟩
def RelM (ρ:Gh) (es:List ME) (us:List MapEntry):Prop:=us.length=es.length/\∀ (i:Nat) (e:ME) (u:MapEntry),es[i]?=some e->us[i]?=some u->RelV ρ (keyAV e.1) u.key/\RelV ρ e.2.1 u.val/\u.born=e.2.2
theorem RelM.nil (ρ:Gh):RelM ρ [] []:=⟨rfl,fun i e u h=>by cases h⟩
theorem RelM.cons {ρ:Gh} {e:ME} {u:MapEntry} {es:List ME} {us:List MapEntry} (h1:RelV ρ (keyAV e.1) u.key) (h2:RelV ρ e.2.1 u.val) (h3:u.born=e.2.2) (h:RelM ρ es us):RelM ρ (e :: es) (u :: us):=by
  refine ⟨by simp [h.1],fun i e' u' he hu=>?_⟩
  cases i with
  | zero=>cases he; cases hu; exact ⟨h1,h2,h3⟩
  | succ i=>exact h.2 i e' u' (by simpa using he) (by simpa using hu)
theorem RelM.uncons {ρ:Gh} {e:ME} {es:List ME} {us:List MapEntry} (h:RelM ρ (e :: es) us):∃ u us',us=u :: us'/\RelV ρ (keyAV e.1) u.key/\RelV ρ e.2.1 u.val/\u.born=e.2.2/\RelM ρ es us':=by
  cases us with
  | nil=>simp [RelM] at h
  | cons u us' =>
    obtain ⟨h1,h2,h3⟩:=h.2 0 e u rfl rfl
    exact ⟨u,us',rfl,h1,h2,h3,by simpa using h.1,fun i e' u' he hu=>h.2 (i + 1) e' u' (by simpa using he) (by simpa using hu)⟩
theorem RelM.nil_inv {ρ:Gh} {us:List MapEntry} (h:RelM ρ [] us):us=[]:=List.eq_nil_of_length_eq_zero (by simpa using h.1)
theorem RelM.mono {ρ ρ':Gh} (hm:ρ.le ρ') {es:List ME} {us:List MapEntry} (h:RelM ρ es us):RelM ρ' es us :=
  ⟨h.1,fun i e u he hu=>⟨(h.2 i e u he hu).1.mono hm,(h.2 i e u he hu).2.1.mono hm,(h.2 i e u he hu).2.2⟩⟩
theorem RelM.snoc {ρ:Gh} {es:List ME} {us:List MapEntry} (h:RelM ρ es us) {e:ME} {u:MapEntry} (h1:RelV ρ (keyAV e.1) u.key) (h2:RelV ρ e.2.1 u.val) (h3:u.born=e.2.2):RelM ρ (es ++ [e]) (us ++ [u]):=by
  induction es generalizing us with
  | nil=>rw [h.nil_inv]; exact .cons h1 h2 h3 (.nil ρ)
  | cons e' es ih =>
    obtain ⟨u',us',rfl,g1,g2,g3,g4⟩:=h.uncons
    exact .cons g1 g2 g3 (ih g4)
theorem RelM.filter {ρ:Gh} (p:Nat->Bool) {es:List ME} {us:List MapEntry} (h:RelM ρ es us):RelM ρ (es.filter fun e=>p e.2.2) (us.filter fun u=>p u.born):=by
  induction es generalizing us with
  | nil=>rw [h.nil_inv]; exact .nil ρ
  | cons e es ih =>
    obtain ⟨u,us',rfl,g1,g2,g3,g4⟩:=h.uncons
    rw [List.filter_cons,List.filter_cons,g3]
    split
    · exact .cons g1 g2 g3 (ih g4)
    · exact ih g4
theorem strT_ty {t:TypeId} (h:strT P t=true):P.underlying t=some .string:=by
  unfold strT at h
  split at h
  · rename_i h1; exact h1
  · cases h
theorem keyTy_one {t:TypeId} {n:Nat} (h:keyTy P t=some n):n=1/\P.underlying t=some .string:=by
  unfold keyTy at h
  split at h
  · rename_i hs; cases h; exact ⟨rfl,strT_ty hs⟩
  · cases h
theorem mapTy_some {t k e:TypeId} (h:mapTy P t=some (k,e)):P.underlying t=some (.map k e):=by
  unfold mapTy at h
  split at h
  · rename_i h1; cases h; exact h1
  · cases h
theorem keyOf_one {v:AV} {k:MK} (h:keyOf v=some k) (hl:k.length=1):∃ a,k=[a]/\v=.pv (.str a):=by
  unfold keyOf at h
  split at h
  · cases h; exact ⟨_,rfl,rfl⟩
  · cases h; simp at hl
  · cases h
theorem len_one {k:MK} (h:k.length=1):∃ a,k=[a]:=by
  match k,h with
  | [a],_=>exact ⟨a,rfl⟩
theorem ba_eq {a b:List UInt8}:((⟨a.toArray⟩:ByteArray) == ⟨b.toArray⟩)=decide (a=b):=by
  show (a.toArray == b.toArray)=decide (a=b)
  rw [Bool.eq_iff_iff,beq_iff_eq,decide_eq_true_eq]
  constructor
  · intro h
    have:=congrArg Array.toList h
    simpa using this
  · rintro rfl; rfl
theorem findNow_rel {a:List UInt8}:∀ {es:List ME} {us:List MapEntry} (i:Nat),RelM ρ es us->(∀ e ∈ es,e.1.length=1) ->
    ∃ r,Instr.findNow .string (.string ⟨a.toArray⟩) us i=some r/\(match mapGet es [a],r with
      | some v,some (j,u)=>i <= j/\RelV ρ v u/\(∃ x y,us[j - i]?=some x/\x.key=.string ⟨a.toArray⟩/\x.val=u/\mapSet es [a] y=some (es.modify (j - i) fun e=>(e.1,y,e.2.2))/\(∀ y,mapSet es [a] y=some (es.modify (j - i) fun e=>(e.1,y,e.2.2))))
      | none,none=>∀ y,mapSet es [a] y=none
      | _,_=>False)
  | [],us,i,h,_=>by
    rw [h.nil_inv]
    exact ⟨none,rfl,fun y=>rfl⟩
  | e :: es,us,i,h,hk=>by
    obtain ⟨u,us',rfl,g1,g2,g3,g4⟩:=h.uncons
    obtain ⟨c,hc⟩:=len_one (hk e (List.mem_cons_self ..))
    have hkey:u.key=.string ⟨c.toArray⟩:=by
      rw [hc] at g1
      exact relStr g1
    have hs:Instr.sameNow .string (.string ⟨a.toArray⟩) u.key=some (decide (a=c)):=by
      rw [hkey]
      simp only [Instr.sameNow,ba_eq]
    rw [Instr.findNow,hs]
    by_cases hac:a=c
    · rw [decide_eq_true hac]
      refine ⟨some (i,u.val),rfl,?_⟩
      have he:e.1=[a]:=by rw [hc,hac]
      rw [mapGet,if_pos he]
      refine ⟨Nat.le_refl _,g2,u,.undef,by simp,by rw [hkey,hac],rfl,?_,fun y=>?_⟩
      · rw [mapSet,if_pos he,Nat.sub_self,List.modify_zero_cons,he]
      · rw [mapSet,if_pos he,Nat.sub_self,List.modify_zero_cons,he]
    · rw [decide_eq_false hac]
      obtain ⟨r,h1,h2⟩:=findNow_rel (a:=a) (i + 1) g4 (fun x hx=>hk x (List.mem_cons_of_mem _ hx))
      refine ⟨r,h1,?_⟩
      have he:¬ e.1=[a]:=by
        rw [hc]
        intro hh
        cases hh
        exact hac rfl
      rw [mapGet,if_neg he]
      revert h2
      cases hm:mapGet es [a] with
      | none =>
        cases r with
        | none=>exact fun h2 y=>by rw [mapSet,if_neg he,h2 y]; rfl
        | some r=>exact fun h2=>h2.elim
      | some v =>
        cases r with
        | none=>exact fun h2=>h2.elim
        | some r =>
          obtain ⟨j,x⟩:=r
          rintro ⟨k1,k2,x',y',k3,k4,k5,k6,k7⟩
          have hj:j - i=(j - (i + 1)) + 1:=by omega
          refine ⟨by omega,k2,x',y',by rw [hj]; simpa using k3,k4,k5,?_,fun y=>?_⟩
          · rw [mapSet,if_neg he,k6,hj,List.modify_succ_cons]; rfl
          · rw [mapSet,if_neg he,k7,hj,List.modify_succ_cons]; rfl
theorem run_checkKey_str {t:TypeId} (h:P.underlying t=some .string) (b:Bool) (n:Nat) (v:Value) (w:World):(Instr.checkKey b (n + 1) t v).run P w=.ok () w:=by
  rw [Instr.checkKey]
  simp only [Sem.run_bind,run_underlying h,Result.andThen_ok,Sem.run_pure]
theorem run_checkKey_s {t:TypeId} (h:P.underlying t=some .string) (b:Bool) (v:Value) (w:World):(Instr.checkKey b 10000 t v).run P w=.ok () w:=run_checkKey_str h b 9999 v w
theorem run_findKey {t:TypeId} (h:P.underlying t=some .string) {k:Value} {es:List MapEntry} {r:Option (Nat × Value)} (hf:Instr.findNow .string k es 0=some r) (w:World):(Instr.findKey t k es).run P w=.ok r w:=by
  unfold Instr.findKey
  simp only [Sem.run_bind,run_underlying h,Result.andThen_ok,hf,Sem.run_pure]
theorem zeroV_run {t:TypeId} {z:AV} (h:zeroV P t=some z) (w:World):∃ v,(zeroValue t).run P w=.ok v w/\RelV ρ z v:=by
  unfold zeroV at h
  split at h
  · rename_i s b zv hi
    cases h
    unfold inf at hi
    cases hinfo:P.info? t with
    | none=>rw [hinfo] at hi; cases hi
    | some i =>
      rw [hinfo] at hi
      simp only [Option.map_some,Option.some.injEq,Prod.mk.injEq] at hi
      refine ⟨zv,?_,ofConst_rel ρ zv⟩
      simp [zeroValue,typeInfo,hinfo,hi.2.2]
  · cases h
theorem run_getObj {b:Nat} {o:Obj} (h:w.heap[b]?=some o) (hc:∀ c e f,o ≠ .cells c e f):(getObj b).run P w=.ok o w:=by
  unfold getObj
  cases o with
  | cells c e f=>exact absurd rfl (hc c e f)
  | _=>simp [Sem.run,h]
theorem run_setObj {b:Nat} {o o':Obj} (h:w.heap[b]?=some o) (hc:∀ c e f,o ≠ .cells c e f):(setObj b o').run P w=.ok () { w with heap:=w.heap.setIfInBounds b o' }:=by
  unfold setObj
  cases o with
  | cells c e f=>exact absurd rfl (hc c e f)
  | _=>simp [Sem.run,h]
theorem lookup_sound (H:RelH w0 ρ σ w) {t:TypeId} {x k:AV} {ok:Bool} {xv kv:Value} (hx:RelV ρ x xv) (hk:RelV ρ k kv) {K:AV->Prop} (h:lookupD P σ t x k ok K) :
    ∃ v u,(Instr.lookup t xv kv ok).run P w=.ok u w/\RelV ρ v u/\K v:=by
  unfold lookupD at h
  split at h
  · rename_i kt et id k' hm hko
    obtain ⟨hkt,h⟩:=h
    obtain ⟨hk1,hkty⟩:=keyTy_one hkt
    obtain ⟨a,rfl,rfl⟩:=keyOf_one hko hk1
    obtain ⟨b,m,rfl,hloc⟩:=inv_amap hx
    have hkv:=relStr hk
    split at h
    · rename_i n es c ho
      obtain ⟨hn,h⟩:=h
      obtain ⟨b',m',us,hl,hB,hb,hi,hks,hlen,hr⟩:=H.obj id _ ho
      rw [hloc] at hl
      cases hl
      have hM:RelM ρ es us:=⟨hlen,hr⟩
      obtain ⟨r,hf,hres⟩:=findNow_rel (a:=a) 0 hM (fun e he=>by rw [hks e he]; exact hn)
      have hget:=run_getObj (P:=P) hb (by intro c e f h; cases h)
      have hty:=mapTy_some hm
      have hfk:=run_findKey (P:=P) hkty (k:=.string ⟨a.toArray⟩) (es:=us) hf w
      split at h
      · rename_i v hv
        rw [hv] at hres
        cases r with
        | none=>exact hres.elim
        | some r =>
          obtain ⟨j,u⟩:=r
          refine ⟨okV ok v true,if ok then .tuple #[u,.bool true] else u,?_,?_,h⟩
          · rw [hkv]
            unfold Instr.lookup
            rw [Sem.run_bind,run_underlying hty,Result.andThen_ok]
            dsimp only
            rw [Sem.run_bind,hget,Result.andThen_ok]
            dsimp only
            rw [Sem.run_bind,Sem.run_pure,Result.andThen_ok,Sem.run_bind,run_checkKey_s hkty,Result.andThen_ok,Sem.run_bind,hfk,Result.andThen_ok]
            rfl
          · unfold okV
            cases ok with
            | true=>exact RelV.of_tuple (RelL.cons hres.2.1 (RelL.cons (.pv (.bool true)) (RelL.nil ρ)))
            | false=>exact hres.2.1
      · rename_i hv
        rw [hv] at hres
        cases r with
        | some r=>exact hres.elim
        | none =>
          split at h
          · rename_i z hz
            obtain ⟨zv,hzr,hzrel⟩:=zeroV_run (ρ:=ρ) hz w
            refine ⟨okV ok z false,if ok then .tuple #[zv,.bool false] else zv,?_,?_,h⟩
            · rw [hkv]
              unfold Instr.lookup
              rw [Sem.run_bind,run_underlying hty,Result.andThen_ok]
              dsimp only
              rw [Sem.run_bind,hget,Result.andThen_ok]
              dsimp only
              rw [Sem.run_bind,Sem.run_pure,Result.andThen_ok,Sem.run_bind,run_checkKey_s hkty,Result.andThen_ok,Sem.run_bind,hfk,Result.andThen_ok]
              dsimp only
              rw [Sem.run_bind,hzr,Result.andThen_ok]
              rfl
            · unfold okV
              cases ok with
              | true=>exact RelV.of_tuple (RelL.cons hzrel (RelL.cons (.pv (.bool false)) (RelL.nil ρ)))
              | false=>exact hzrel
          · exact h.elim
    · exact h.elim
  · exact h.elim
theorem RelM.find {ρ:Gh} (st:Nat) {es:List ME} {us:List MapEntry} (h:RelM ρ es us) {e:ME} (he:es.find? (fun e=>e.2.2 == st)=some e):∃ u,us.find? (fun u=>u.born == st)=some u/\RelV ρ (keyAV e.1) u.key/\RelV ρ e.2.1 u.val:=by
  induction es generalizing us with
  | nil=>cases he
  | cons x es ih =>
    obtain ⟨u,us',rfl,g1,g2,g3,g4⟩:=h.uncons
    rw [List.find?_cons] at he
    rw [List.find?_cons,g3]
    split at he
    · rename_i hx
      cases he
      exact ⟨u,rfl,g1,g2⟩
    · exact ih g4 he
theorem entry_sound (H:RelH w0 ρ σ w) {x:AV} {xv:Value} (hx:RelV ρ x xv) {K:AV->Prop} (h:entryD σ x K) :
    ∃ v u,(Instr.entry xv).run P w=.ok u w/\RelV ρ v u/\K v:=by
  unfold entryD at h
  split at h
  · rename_i id
    obtain ⟨b,m,rfl,hloc⟩:=inv_iterP hx
    split at h
    · rename_i mi since seen ho
      obtain ⟨b',m',bm,mm,hl,hB,hb,hlm,hi⟩:=H.obj id _ ho
      rw [hloc] at hl
      cases hl
      have hget:=run_getObj (P:=P) hb (by intro c e f h; cases h)
      split at h
      · rename_i n es c st hom hlast
        obtain ⟨hc,h⟩:=h
        subst hc
        obtain ⟨b2,m2,us,hl2,hB2,hb2,hi2,hks,hlen,hr⟩:=H.obj mi _ hom
        rw [hlm] at hl2
        cases hl2
        have hM:RelM ρ es us:=⟨hlen,hr⟩
        have hget2:=run_getObj (P:=P) hb2 (by intro c e f h; cases h)
        split at h
        · rename_i e he
          obtain ⟨u,hu,r1,r2⟩:=hM.find st he
          refine ⟨_,.tuple #[u.key,u.val],?_,RelV.of_tuple (RelL.cons r1 (RelL.cons r2 (RelL.nil ρ))),h⟩
          have hback:seen.toArray.back?=some st:=by simp [hlast]
          have hfind:us.toArray.find? (fun u=>u.born == st)=some u:=by simp [hu]
          simp only [Instr.entry,Sem.run_bind,hget,hget2,Result.andThen_ok,hback,bne_self_eq_false,Bool.false_eq_true,if_false,hfind,Sem.run_pure]
        · exact h.elim
      · exact h.elim
    · exact h.elim
  · exact h.elim
end
end Go.AD

set_option linter.unusedVariables false
set_option linter.unusedSimpArgs false
namespace Go.AD
section
variable {P:Program} {w0 w:World} {ρ:Gh} {σ:AS}
theorem evo_rel {n:Nat} {fr:Fr} {a:Act} (F:RelF ρ n fr a) (x:Option Operand):RelO ρ (evo fr x) (x.map a.eval):=by
  cases x with
  | none=>trivial
  | some x=>exact ev_rel F x
theorem parts_rel {n:Nat} {fr:Fr} {a:Act} (F:RelF ρ n fr a):∀ l:List (Nat × Operand),RelParts ρ (l.map fun (i,x)=>(i,ev fr x)) (l.map fun (i,x)=>(i,a.eval x))
  | []=>trivial
  | (i,x) :: l=>⟨rfl,ev_rel F x,parts_rel F l⟩
theorem wrapV {s:Sem Value} {r:Value} (h:s.run P w=.ok r w):(do pure (Next.value (<- s)):Sem Next).run P w=.ok (.value r) w:=by
  simp only [Sem.run_bind,h,Result.andThen_ok,Sem.run_pure]
theorem inv_addr {id off:Nat} {u:Value} (h:RelV ρ (.addr id off) u):∃ b o m,u=.pointer (some ⟨b,o + off,none⟩)/\ρ.loc id=some (b,o,m):=by
  cases h with | addr _ _ b o m hl=>exact ⟨b,o,m,rfl,hl⟩
theorem inv_elemP {cs:List PV} {off:Nat} {u:Value} (h:RelV ρ (.elemP cs off) u):∃ b o,u=.pointer (some ⟨b,o + off,none⟩):=by
  cases h with | elemP _ _ b o vs hl hi hr=>exact ⟨b,o,rfl⟩
theorem inv_glob {g off:Nat} {u:Value} (h:RelV ρ (.glob g off) u):u=.pointer (some ⟨g,off,none⟩):=by
  cases h; rfl
theorem inv_tuple {cs:List AV} {u:Value} (h:RelV ρ (.tuple cs) u):∃ us:List Value,u=.tuple us.toArray/\RelL ρ cs us:=by
  cases h with | tuple _ us hl hr=>exact ⟨us,rfl,hl,hr⟩
theorem inv_agg {cs:List AV} {u:Value} (h:RelV ρ (.agg cs) u):∃ us:List Value,u=.agg us.toArray/\RelL ρ cs us:=by
  cases h with | agg _ us hl hr=>exact ⟨us,rfl,hl,hr⟩
theorem inv_ifaceQ {t:TypeId} {b:Bool} {cs:List PV} {u:Value} (h:RelV ρ (.pv (.iface t b cs)) u):∃ v,u=.iface t v/\RelP ρ.imm (.iface t b cs) u:=by
  cases h with
  | pv h =>
    have h':=h
    cases h with
    | ifaceOne _ c v hc=>exact ⟨v,rfl,h'⟩
    | ifaceAgg _ cells vs hl hr=>exact ⟨_,rfl,h'⟩
theorem arrS_sound (H:RelH w0 ρ σ w) {t:TypeId} {x:AV} {lo hi:Option AV} {K:AV->Prop} (h:arrS P σ t x lo hi K) {u:Value} {lo' hi':Option Value} (hxv:RelV ρ x u) (hlo:RelO ρ lo lo') (hhi:RelO ρ hi hi') :
    ∃ a r,(Instr.sliceAt t u lo' hi' none).run P w=.ok r w/\RelV ρ a r/\K a:=by
  unfold arrS at h
  split at h
  · rename_i n e id off hpt
    obtain ⟨hie,hn,h⟩:=h
    split at h
    · rename_i cs var ho
      obtain ⟨hle,h⟩:=h
      have hu:(∃ arr,P.underlying t=some (.pointer arr)/\P.underlying arr=some (.array n e)) \/ P.underlying t=some (.array n e):=by
        unfold ptrArr at hpt
        split at hpt
        · rename_i arr ha
          split at hpt
          · rename_i n' e' ha'
            cases hpt
            exact .inl ⟨arr,ha,ha'⟩
          · cases hpt
        · rename_i n' e' ha'
          cases hpt
          exact .inr ha'
        · cases hpt
      obtain ⟨b,o,m,hax,hl⟩:=inv_addr hxv
      obtain ⟨b',o',m',cur,e',fz,hl',_,_,_,hcm,hfit,_⟩:=H.obj id _ ho
      rw [hl] at hl'
      cases hl'
      obtain ⟨l,r,h1,h2,h3,hK⟩:=cutAt_sound (P:=P) (w:=w) (Nat.le_refl n) h hlo hhi false
      have hrun:(Instr.sliceAt t u lo' hi' none).run P w=.ok (.slice (some (if n=l then ⟨b,o + off,none⟩ else ⟨b,o + off + l * szOf P e,none⟩)) (r - l) (n - l)) w:=by
        rw [hax]
        rcases hu with ⟨arr,hu1,hu2⟩ | hu1
        · simp only [Instr.sliceAt,Instr.slice,Sem.run_bind,run_underlying hu1,run_underlying hu2,Result.andThen_ok,asAddr,Sem.run_pure,h1,run_size hie,Addr.add_lit]
        · simp only [Instr.sliceAt,Instr.slice,Sem.run_bind,run_underlying hu1,Result.andThen_ok,Instr.sureAddr,Sem.run_pure,h1,run_size hie,Addr.add_lit]
      by_cases hlr:l=r
      · rw [if_pos hlr] at hK
        subst hlr
        refine ⟨_,_,hrun,?_,hK⟩
        rw [Nat.sub_self]
        exact .pv (.lst 0 [] _ _ 0 0 [] (Nat.zero_le _) (.inl rfl) rfl (fun i hi=>absurd hi (by simp)) (fun i hi=>absurd hi (by simp)))
      · rw [if_neg hlr] at hK
        refine ⟨_,_,hrun,?_,hK⟩
        rw [if_neg (by omega),Nat.add_assoc]
        refine .msl id (off + l * szOf P e) (r - l) (szOf P e) b o m (n - l) hl (by omega) (by simp only [maxLen]; omega) ?_
        have:l * szOf P e + (n - l) * szOf P e=n * szOf P e:=by rw [<- Nat.add_mul]; congr 1; omega
        omega
    · exact h.elim
  · exact h.elim
theorem still_sound (hS:Ready P w0) (H:RelH w0 ρ σ w) {n:Nat} {fr:Fr} {a:Act} (F:RelF ρ n fr a) (mu:Option Nat->Bool) (o:Oper) {K:AV->Prop} (hs:isStill mu P o.dst o.op=true) (h:stillD P fr σ o.op K) :
    ∃ v u,(execOp a.eval o).run P w=.ok (.value u) w/\RelV ρ v u/\K v:=by
  rw [stillD_eq] at h
  obtain ⟨dst,op,type,pos,after,guard⟩:=o
  simp only at h hs
  cases op with
  | move x=>exact ⟨_,_,rfl,ev_rel F x,h⟩
  | assign x=>exact ⟨_,_,rfl,ev_rel F x,h⟩
  | pick c x y =>
    simp only [stillU,pickD] at h
    split at h
    · rename_i t ht
      have hc:=ev_rel F c
      rw [ht] at hc
      have hb:=relBool hc
      refine ⟨_,if t=true then a.eval x else a.eval y,?_,?_,h⟩
      · simp only [execOp,hb,asBool,Sem.run_bind,Sem.run_pure,Result.andThen_ok]
      · cases t
        · exact ev_rel F y
        · exact ev_rel F x
    · exact h.elim
  | build t ps =>
    simp only [stillU] at h
    obtain ⟨v,r,h1,h2,h3⟩:=buildD_sound h (ps.map fun (i,x)=>(i,a.eval x)) (by rw [Array.toList_map]; exact parts_rel F ps.toList) w
    exact ⟨v,r,wrapV h1,h2,h3⟩
  | load t x =>
    obtain ⟨v,r,h1,h2,h3⟩:=loadD_sound hS H h (ev_rel F x)
    exact ⟨v,r,wrapV h1,h2,h3⟩
  | nilCheck x =>
    simp only [stillU,nilD] at h
    have hx:=ev_rel F x
    split at h
    · rename_i id off he
      rw [he] at hx
      obtain ⟨b,p,m,hax,hl⟩:=inv_addr hx
      exact ⟨_,a.eval x,by simp only [execOp,hax,Sem.run_pure],hx,h⟩
    · rename_i cs off he
      rw [he] at hx
      obtain ⟨b,p,hax⟩:=inv_elemP hx
      exact ⟨_,a.eval x,by simp only [execOp,hax,Sem.run_pure],hx,h⟩
    · rename_i g off he
      rw [he] at hx
      have hax:=inv_glob hx
      exact ⟨_,a.eval x,by simp only [execOp,hax,Sem.run_pure],hx,h⟩
    · exact h.elim
  | binOp op t x y ty =>
    by_cases hy:isNilC y=true
    · rw [stillU_bin,hy,cond_true] at h
      obtain rfl:=isNilC_eq hy
      obtain ⟨v,r,h1,h2,h3⟩:=nilB_sound (w:=w) h (ev_rel F x) x
      exact ⟨v,r,wrapV h1,h2,h3⟩
    · rw [stillU_bin,Bool.eq_false_iff.2 hy,cond_false] at h
      obtain ⟨v,r,h1,h2,h3⟩:=binD_sound H h (ev_rel F x) (ev_rel F y) x y
      exact ⟨v,r,wrapV h1,h2,h3⟩
  | unOp op t x =>
    obtain ⟨v,r,h1,h2,h3⟩:=unD_sound (P:=P) (w:=w) h (ev_rel F x)
    exact ⟨v,r,wrapV h1,h2,h3⟩
  | convert s d x =>
    obtain ⟨v,r,h1,h2,h3⟩:=convD_sound H h (ev_rel F x)
    exact ⟨v,r,wrapV h1,h2,h3⟩
  | slice t x lo hi mx =>
    cases mx with
    | some m =>
      cases lo with
      | some l=>simp [isStill] at hs
      | none=>cases hi with
        | none=>simp [isStill] at hs
        | some hh =>
          simp only [stillU] at h
          obtain ⟨v,r,h1,h2,h3⟩:=cutD_sound (P:=P) (w:=w) h (ev_rel F x) (ev_rel F hh) (ev_rel F m)
          exact ⟨v,r,wrapV h1,h2,h3⟩
    | none =>
      simp only [stillU] at h
      split at h
      · obtain ⟨v,r,h1,h2,h3⟩:=arrS_sound H h (ev_rel F x) (evo_rel F lo) (evo_rel F hi)
        exact ⟨v,r,wrapV h1,h2,h3⟩
      · obtain ⟨v,r,h1,h2,h3⟩:=sliceD_sound H h (ev_rel F x) (evo_rel F lo) (evo_rel F hi)
        exact ⟨v,r,wrapV h1,h2,h3⟩
  | fieldAddr s x f =>
    obtain ⟨v,r,h1,h2,h3⟩:=fieldAddrD_sound (P:=P) (w:=w) h (ev_rel F x)
    exact ⟨v,r,wrapV h1,h2,h3⟩
  | field s x f =>
    obtain ⟨v,r,h1,h2,h3⟩:=fieldD_sound (P:=P) (w:=w) h (ev_rel F x)
    exact ⟨v,r,wrapV h1,h2,h3⟩
  | indexAddr t x i =>
    obtain ⟨v,r,h1,h2,h3⟩:=indexAddrD_sound (P:=P) (w:=w) h (ev_rel F x) (ev_rel F i)
    exact ⟨v,r,wrapV h1,h2,h3⟩
  | index t x i =>
    obtain ⟨v,r,h1,h2,h3⟩:=indexD_sound (P:=P) (w:=w) h (ev_rel F x) (ev_rel F i)
    exact ⟨v,r,wrapV h1,h2,h3⟩
  | extract x i =>
    simp only [stillU,extractD] at h
    have hx:=ev_rel F x
    split at h
    · rename_i vs he
      rw [he] at hx
      split at h
      · rename_i v hv
        obtain ⟨us,hax,hr⟩:=inv_tuple hx
        obtain ⟨r,h1,h2⟩:=hr.get? i hv
        exact ⟨v,r,by simp [execOp,hax,Instr.extract,h1],h2,h⟩
      · exact h.elim
    · exact h.elim
  | makeFunc fn first captured =>
    cases fn with
    | func f =>
      refine ⟨_,.func (.func f) (first.map a.eval) (captured.map a.eval),by simp only [execOp,Instr.makeFunc,Sem.run_bind,Sem.run_pure,Result.andThen_ok],?_,h⟩
      have h1:=evs_rel F first.toList
      have h2:=evs_rel F captured.toList
      have:=RelV.clo (ρ:=ρ) f _ _ _ _ h1.1 h1.2 h2.1 h2.2
      have e1:(first.toList.map a.eval).toArray=first.map a.eval:=by rw [<- Array.toList_map]
      have e2:(captured.toList.map a.eval).toArray=captured.map a.eval:=by rw [<- Array.toList_map]
      rwa [e1,e2] at this
    | _=>simp [isStill] at hs
  | lookup t x k ok =>
    obtain ⟨v,u,h1,h2,h3⟩:=lookup_sound H (ev_rel F x) (ev_rel F k) h
    exact ⟨v,u,by simp only [execOp,Sem.run_bind,h1,Result.andThen_ok,Sem.run_pure],h2,h3⟩
  | entry it =>
    obtain ⟨v,u,h1,h2,h3⟩:=entry_sound (P:=P) H (ev_rel F it) h
    exact ⟨v,u,by simp only [execOp,Sem.run_bind,h1,Result.andThen_ok,Sem.run_pure],h2,h3⟩
  | typeAssert x tx t' ok =>
    cases ok with
    | false=>simp [isStill] at hs
    | true =>
      simp only [stillU,assertD] at h
      obtain ⟨ht,h⟩:=h
      have hx:=ev_rel F x
      have hrun:∀ u,(Instr.typeAssert (.iface t' u) tx t' true).run P w=.ok (.tuple #[u,.bool true]) w:=by
        intro u
        cases hu:P.underlying t' with
        | none=>simp [hu] at ht
        | some d =>
          simp only [Instr.typeAssert,Sem.run_bind,run_underlying hu,Result.andThen_ok]
          cases d <;> first | (simp [hu] at ht; done) | simp
      have hno:∀ (u:Value),(∀ t v,u=.iface t v->t ≠ t')->(u=.nilIface \/ ∃ t v,u=.iface t v)->∀ {z:AV},zeroV P t'=some z->∃ zv,(Instr.typeAssert u tx t' true).run P w=.ok (.tuple #[zv,.bool false]) w/\RelV ρ z zv:=by
        intro u hne hu z hz
        obtain ⟨zv,hz1,hz2⟩:∃ zv,(zeroValue t').run P w=.ok zv w/\RelV ρ z zv:=by
          unfold zeroV at hz
          split at hz
          · rename_i s b zc hi
            cases hz
            unfold inf at hi
            cases hii:P.info? t' with
            | none=>rw [hii] at hi; cases hi
            | some i =>
              rw [hii] at hi
              simp only [Option.map_some,Option.some.injEq,Prod.mk.injEq] at hi
              refine ⟨zc,?_,ofConst_rel ρ zc⟩
              simp [zeroValue,typeInfo,hii,hi.2.2]
          · cases hz
        refine ⟨zv,?_,hz2⟩
        cases hut:P.underlying t' with
        | none=>simp [hut] at ht
        | some d =>
          rcases hu with rfl | ⟨t,v,rfl⟩
          · simp only [Instr.typeAssert,Sem.run_bind,run_underlying hut,Result.andThen_ok]
            cases d <;> first | (simp [hut] at ht; done) | simp [hz1]
          · have:=hne t v rfl
            simp only [Instr.typeAssert,Sem.run_bind,run_underlying hut,Result.andThen_ok]
            cases d <;> first | (simp [hut] at ht; done) | simp [hz1,this]
      split at h
      · rename_i t b cs he
        rw [he] at hx
        by_cases htt:t=t'
        rotate_left
        · rw [if_neg htt] at h
          split at h
          · rename_i z hz
            obtain ⟨zv,h1,h2⟩:=hno (a.eval x) (fun t2 v2 e=>by
              rw [e] at hx
              cases hx with | pv hx=>cases hx <;> exact htt) (.inr (by
              obtain ⟨v,hv,_⟩:=inv_ifaceQ hx
              exact ⟨t,v,hv⟩)) hz
            exact ⟨_,_,wrapV h1,RelV.of_tuple (vs:=[zv,.bool false]) (.cons h2 (.cons (mkBool ρ false) (.nil ρ))),h⟩
          · exact h.elim
        rw [if_pos htt] at h
        subst htt
        have key:(∃ p u,b=false/\cs=[p]/\a.eval x=.iface t u/\RelV ρ (.pv p) u) \/ ∃ us:List Value,b=true/\a.eval x=.iface t (.agg us.toArray)/\RelL ρ (cs.map .pv) us:=by
          generalize a.eval x=ux at hx
          cases hx with
          | pv hx=>cases hx with
            | ifaceOne _ c v hc=>exact .inl ⟨c,v,rfl,rfl,rfl,.pv hc⟩
            | ifaceAgg _ cells vs hl hr=>exact .inr ⟨vs,rfl,rfl,RelPL.toL ⟨hl,hr⟩⟩
        rcases key with ⟨p,u,rfl,rfl,hu,hp⟩ | ⟨us,rfl,hu,hp⟩
        · simp only at h
          exact ⟨_,.tuple #[u,.bool true],wrapV (by rw [hu]; exact hrun u),RelV.of_tuple (vs:=[u,.bool true]) (.cons hp (.cons (mkBool ρ true) (.nil ρ))),h⟩
        · simp only at h
          exact ⟨_,.tuple #[.agg us.toArray,.bool true],wrapV (by rw [hu]; exact hrun _),RelV.of_tuple (vs:=[.agg us.toArray,.bool true]) (.cons (RelV.of_agg hp) (.cons (mkBool ρ true) (.nil ρ))),h⟩
      · rename_i he
        rw [he] at hx
        split at h
        · rename_i z hz
          have hnil:a.eval x=.nilIface:=by
            generalize a.eval x=u at hx
            cases hx with | pv hx=>cases hx; rfl
          obtain ⟨zv,h1,h2⟩:=hno (a.eval x) (fun t2 v2 e=>by rw [hnil] at e; cases e) (.inl hnil) hz
          exact ⟨_,_,wrapV h1,RelV.of_tuple (vs:=[zv,.bool false]) (.cons h2 (.cons (mkBool ρ false) (.nil ρ))),h⟩
        · exact h.elim
      · exact h.elim
  | makeInterface t x =>
    simp only [stillU,ifaceD] at h
    obtain ⟨ht,h⟩:=h
    have hx:=ev_rel F x
    have hrun:∀ u,(Instr.makeInterface t u).run P w=.ok (.iface t u) w:=by
      intro u
      cases hu:P.underlying t with
      | none=>simp [hu] at ht
      | some d =>
        simp only [Instr.makeInterface,Sem.run_bind,run_underlying hu,Result.andThen_ok]
        cases d <;> first | (simp [hu] at ht; done) | rfl
    split at h
    · rename_i cs he
      rw [he] at hx
      split at h
      · rename_i ps hp
        obtain ⟨us,hax,hr⟩:=inv_agg hx
        refine ⟨_,.iface t (a.eval x),wrapV (hrun _),?_,h⟩
        rw [hax]
        have:=toPVs_rel hr hp
        exact .pv (.ifaceAgg t ps us this.1 this.2)
      · exact h.elim
    · exact ⟨.any,.iface t (a.eval x),wrapV (hrun _),.any _ rfl rfl,h⟩
    · split at h
      · rename_i p hp
        exact ⟨_,.iface t (a.eval x),wrapV (hrun _),.pv (.ifaceOne t p _ (toPV_rel hx hp)),h⟩
      · exact h.elim
  | call c =>
    obtain ⟨callee,args,argTypes⟩:=c
    cases callee with
    | value f=>simp [isStill] at hs
    | invoke r m=>simp [isStill] at hs
    | builtin b =>
      have hargs:=evs_rel F args.toList
      cases b <;> first | (simp [isStill] at hs; done) | skip
      case len =>
        simp only [stillU] at h
        split at h
        · rename_i x xs t ts hx ht
          have hx0:args[0]?=some x:=by rw [<- Array.getElem?_toList,hx]; rfl
          have ht0:argTypes[0]?=some t:=by rw [<- Array.getElem?_toList,ht]; rfl
          obtain ⟨v,r,h1,h2,h3⟩:=lenD_sound (P:=P) (w:=w) h (ev_rel F x) argTypes (args.map a.eval) ht0 (by simp [hx0]) type
          exact ⟨v,r,by simp only [execOp,resolve,invoke,builtin,Sem.run_bind,Sem.run_pure,Result.andThen_ok,h1],h2,h3⟩
        · exact h.elim
      case max =>
        simp only [stillU] at h
        split at h
        · rename_i x xs hx
          obtain ⟨v,r,h1,h2,h3⟩:=foldD_sound (P:=P) (w:=w) (ρ:=ρ) max2D Builtin.max2 max2_sound _ _ K _ _ h (ev_rel F x) (evs_rel F xs)
          refine ⟨v,r,?_,h2,h3⟩
          have hm:(args.map a.eval).toList=a.eval x :: xs.map a.eval:=by rw [Array.toList_map,hx]; rfl
          simp only [execOp,resolve,invoke,builtin,Sem.run_bind,Sem.run_pure,Result.andThen_ok,Builtin.max_,hm,h1]
        · exact h.elim
      case min =>
        simp only [stillU] at h
        split at h
        · rename_i x xs hx
          obtain ⟨v,r,h1,h2,h3⟩:=foldD_sound (P:=P) (w:=w) (ρ:=ρ) min2D Builtin.min2 min2_sound _ _ K _ _ h (ev_rel F x) (evs_rel F xs)
          refine ⟨v,r,?_,h2,h3⟩
          have hm:(args.map a.eval).toList=a.eval x :: xs.map a.eval:=by rw [Array.toList_map,hx]; rfl
          simp only [execOp,resolve,invoke,builtin,Sem.run_bind,Sem.run_pure,Result.andThen_ok,Builtin.min_,hm,h1]
        · exact h.elim
  | _=>simp [isStill] at hs
end
end Go.AD
