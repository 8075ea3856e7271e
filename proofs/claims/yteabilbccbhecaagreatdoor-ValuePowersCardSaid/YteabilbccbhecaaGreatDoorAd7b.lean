import Derived.Test.YteabilbccbhecaaGreatDoorM3
set_option linter.unusedVariables false
set_option linter.unusedSimpArgs false
namespace Go.AD
namespace Calm
section
variable {P:Program} {ρ:Gh} {σ:AS}
theorem intOp_sound (ρ:Gh) {op:BinOp} {k:IntKind} {x y:Int} {K:AV->Prop} (h:intOp op k x y K) (hop:op ≠ .shl/\op ≠ .shr) :
    ∃ v r,(∀ w,(binOp op 0 (.int k x) (.int k y)).run P w=.ok r w)/\RelV ρ v r/\K v:=by
  cases op <;> simp only [intOp] at h
  case add=>exact ⟨_,_,(fun w=>by simp [binOp,Op.intArith]),mkInt ..,h⟩
  case sub=>exact ⟨_,_,(fun w=>by simp [binOp,Op.intArith]),mkInt ..,h⟩
  case mul=>exact ⟨_,_,(fun w=>by simp [binOp,Op.intArith]),mkInt ..,h⟩
  case quo=>exact ⟨_,_,(fun w=>by simp [binOp,Op.intDiv,h.1]),mkInt ..,h.2⟩
  case rem=>exact ⟨_,_,(fun w=>by simp [binOp,Op.intDiv,h.1]),mkInt ..,h.2⟩
  case and=>exact ⟨_,_,(fun w=>by simp [binOp,Op.intBits]),mkInt ..,h⟩
  case or=>exact ⟨_,_,(fun w=>by simp [binOp,Op.intBits]),mkInt ..,h⟩
  case xor=>exact ⟨_,_,(fun w=>by simp [binOp,Op.intBits]),mkInt ..,h⟩
  case andNot=>exact ⟨_,_,(fun w=>by simp [binOp,Op.intBits]),mkInt ..,h⟩
  case eql=>exact ⟨_,_,(fun w=>by simp [binOp,Op.intCmp]),mkBool ..,h⟩
  case neq=>exact ⟨_,_,(fun w=>by simp [binOp,Op.intCmp]),mkBool ..,h⟩
  case lss=>exact ⟨_,_,(fun w=>by simp [binOp,Op.intCmp]),mkBool ..,h⟩
  case leq=>exact ⟨_,_,(fun w=>by simp [binOp,Op.intCmp]),mkBool ..,h⟩
  case gtr=>exact ⟨_,_,(fun w=>by simp [binOp,Op.intCmp]),mkBool ..,h⟩
  case geq=>exact ⟨_,_,(fun w=>by simp [binOp,Op.intCmp]),mkBool ..,h⟩
  all_goals exact h.elim
theorem shiftOp_sound (ρ:Gh) {op:BinOp} {k k':IntKind} {x y:Int} {K:AV->Prop} (h:shiftOp op k x y K) :
    ∃ v r,(∀ w,(binOp op 0 (.int k x) (.int k' y)).run P w=.ok r w)/\RelV ρ v r/\K v:=by
  cases op <;> simp only [shiftOp] at h
  case shl=>exact ⟨_,_,(fun w=>by simp [binOp,Op.shift,Int.not_lt.2 h.1]),mkInt ..,h.2⟩
  case shr=>exact ⟨_,_,(fun w=>by simp [binOp,Op.shift,Int.not_lt.2 h.1]),mkInt ..,h.2⟩
  all_goals exact h.elim
theorem strOp_sound (ρ:Gh) {op:BinOp} {x y:List UInt8} {K:AV->Prop} (h:strOp op x y K) :
    ∃ v r,(∀ w,(Op.stringOp op ⟨x.toArray⟩ ⟨y.toArray⟩).run P w=.ok r w)/\RelV ρ v r/\K v:=by
  cases op <;> simp only [strOp] at h
  case add =>
    refine ⟨_,.string ⟨(x ++ y).toArray⟩,?_,mkStr ..,h.2⟩
    have:¬ (((x.length + y.length:Nat):Int) > IntKind.i64.max):=by
      have:=h.1
      simp [IntKind.max,IntKind.signed,IntKind.bits]
      omega
    intro w
    simp only [Op.stringOp,bytes_size,bytes_append,if_neg this,Sem.run_pure]
  case eql=>exact ⟨_,_,(fun w=>by simp only [Op.stringOp,bytes_toList,Sem.run_pure]),mkBool ..,h⟩
  case neq=>exact ⟨_,_,(fun w=>by simp only [Op.stringOp,bytes_toList,Sem.run_pure]),mkBool ..,h⟩
  case lss=>exact ⟨_,_,(fun w=>by simp only [Op.stringOp,bytes_toList,Sem.run_pure]),mkBool ..,h⟩
  case leq=>exact ⟨_,_,(fun w=>by simp only [Op.stringOp,bytes_toList,Sem.run_pure]),mkBool ..,h⟩
  case gtr=>exact ⟨_,_,(fun w=>by simp only [Op.stringOp,bytes_toList,Sem.run_pure]),mkBool ..,h⟩
  case geq=>exact ⟨_,_,(fun w=>by simp only [Op.stringOp,bytes_toList,Sem.run_pure]),mkBool ..,h⟩
  all_goals exact h.elim
theorem unD_sound {op:UnOp} {x:AV} {K:AV->Prop} (h:unD op x K) {u:Value} (hu:RelV ρ x u):∃ a r,(∀ w,(Op.unary op u).run P w=.ok r w)/\RelV ρ a r/\K a:=by
  unfold unD at h
  split at h
  · rename_i k n
    rw [relInt (x:=.undef) hu]
    exact ⟨_,.int k (k.wrap (0 - n)),(fun w=>by simp only [Op.unary,Op.intArith,Sem.run_pure]),mkInt ..,h⟩
  · rw [relBool hu]
    exact ⟨_,_,(fun w=>by simp [Op.unary]),mkBool ..,h⟩
  · rw [relFlt (x:=.undef) hu]
    exact ⟨_,_,(fun w=>by simp [Op.unary]),mkFlt ..,h⟩
  · exact h.elim
theorem fieldAddrD_sound {s:TypeId} {x:AV} {f:Nat} {K:AV->Prop} (h:fieldAddrD P s x f K) {u:Value} (hu:RelV ρ x u):∃ a r,(∀ w,(Instr.fieldAt s u f).run P w=.ok r w)/\RelV ρ a r/\K a:=by
  unfold fieldAddrD at h
  split at h
  · rename_i o t hfo
    obtain ⟨ht,hs,hm⟩:=h
    obtain ⟨fs,fd,h1,h2,h3,h4⟩:=fieldOff_some hfo
    obtain ⟨b,p,v,rfl,hv,hK⟩:=movePtr_rel hm hu
    refine ⟨v,_,?_,hv,hK⟩
    intro w
    simp [Instr.fieldAt,run_underlying h1,h2,Instr.sureAddr,fieldPlace,h4,run_size (hasT_inf ht),hs,h3,Addr.add_lit]
  · exact h.elim
theorem partD_sound {t:TypeId} {cs:List AV} {off:Nat} {K:AV->Prop} (h:partD P t cs off K) {vs:List Value} (hr:RelL ρ cs vs):∃ a r,(∀ w,(part t vs.toArray off).run P w=.ok r w)/\RelV ρ a r/\K a:=by
  obtain ⟨ht,h⟩:=h
  split at h
  · rename_i ha
    obtain ⟨hle,hK⟩:=h
    refine ⟨_,_,?_,RelV.of_agg ((hr.drop off).take (szOf P t)),hK⟩
    intro w
    simp only [part,Sem.run_bind,run_agg ht,ha,Result.andThen_ok,if_true,run_size (hasT_inf ht),Sem.run_pure]
    congr 2
    simp
  · rename_i ha
    split at h
    · rename_i v hv
      obtain ⟨r,h1,h2⟩:=hr.get? _ hv
      refine ⟨v,r,?_,h2,h⟩
      intro w
      simp [part,run_agg ht,ha,h1]
    · exact h.elim
theorem fieldD_sound {s:TypeId} {x:AV} {f:Nat} {K:AV->Prop} (h:fieldD P s x f K) {u:Value} (hu:RelV ρ x u):∃ a r,(∀ w,(Instr.field s u f).run P w=.ok r w)/\RelV ρ a r/\K a:=by
  unfold fieldD at h
  split at h
  · rename_i o t cs hfo
    obtain ⟨fs,fd,h1,h2,h3,h4⟩:=fieldOff_some hfo
    cases hu with
    | agg _ vs hl hr =>
      obtain ⟨a,r,hr1,hr2,hr3⟩:=partD_sound (P:=P)  h ⟨hl,hr⟩
      refine ⟨a,r,?_,hr2,hr3⟩
      intro w
      simp [Instr.field,run_underlying h1,h2,asAgg,h3,h4,hr1]
  · exact h.elim
theorem indexImm {e:TypeId} {t:TypeId} (ht:P.underlying t=some (.slice e)) (hs:(inf P e).isSome=true) {A:Option Addr} {b o n cap:Nat} {cs:List PV} {vs:List Value} (hl:vs.length=cs.length)
    (hi:ImmAt ρ.imm b o vs) (hr:∀ i (h:i < cs.length),RelP ρ.imm cs[i] (vs.getD i undef)) (hA:cs=[] \/ A=some ⟨b,o,none⟩) (hn:n * szOf P e <= cs.length) (hsz:0 < szOf P e)
    {k:IntKind} {i:Int} (h0:0 <= i) (h1:i < (n:Int)) :
    ∃ r,(∀ w,(Instr.indexAt t (.slice A n cap) (.int k i)).run P w=.ok r w)/\RelV ρ (.elemP cs (i.toNat * szOf P e)) r:=by
  have hc:A=some ⟨b,o,none⟩:=by
    rcases hA with rfl | h
    · have:=lt_of_ints h0 h1
      have:0 < n * szOf P e:=Nat.mul_pos (by omega) hsz
      simp at hn
      omega
    · exact h
  subst hc
  refine ⟨.pointer (some ⟨b,o + i.toNat * szOf P e,none⟩),?_,.elemP cs _ b o vs hl hi hr⟩
  intro w
  simp [Instr.indexAt,asIntOf,run_underlying ht,h0,h1,run_size hs,Addr.add_lit]
theorem indexAddrD_sound {t:TypeId} {x i:AV} {K:AV->Prop} (h:indexAddrD P t x i K) {u v:Value} (hu:RelV ρ x u) (hv:RelV ρ i v):∃ a r,(∀ w,(Instr.indexAt t u v).run P w=.ok r w)/\RelV ρ a r/\K a:=by
  unfold indexAddrD at h
  split at h
  · rename_i k i
    rw [relInt (x:=.undef) hv]
    split at h
    · rename_i e id off n sz ht
      obtain ⟨hs,h0,h1,hK⟩:=h
      cases hu with
      | msl _ _ _ _ b o m cap hl hn hc hm =>
        refine ⟨_,.pointer (some ⟨b,o + off + i.toNat * szOf P e,none⟩),?_,by rw [Nat.add_assoc]; exact .addr id _ b o m hl,hK⟩
        intro w
        simp [Instr.indexAt,asIntOf,run_underlying ht,h0,h1,run_size hs,Addr.add_lit]
    · rename_i e n cs ht
      obtain ⟨hs,hn,hsz,h0,h1,hK⟩:=h
      cases hu with
      | pv hu=>cases hu with
        | lst _ _ A cap b o vs hnc hA hl hi hr =>
          obtain ⟨r,h2,h3⟩:=indexImm (P:=P)  (cap:=cap) (k:=k) ht hs hl hi hr hA hn hsz h0 h1
          exact ⟨_,r,h2,h3,hK⟩
    · rename_i e id n cs ht
      obtain ⟨hs,hn,hsz,h0,h1,hK⟩:=h
      cases hu with
      | grow _ _ _ b o cap vs hlin hnc hl hi hr =>
        obtain ⟨r,h2,h3⟩:=indexImm (P:=P)  (cap:=cap) (k:=k) ht hs hl hi hr (.inr rfl) hn hsz h0 h1
        exact ⟨_,r,h2,h3,hK⟩
    · rename_i e n cs ht
      obtain ⟨hs,hn,hsz,h0,h1,hK⟩:=h
      cases hu with
      | full _ _ b o vs hl hi hr =>
        obtain ⟨r,h2,h3⟩:=indexImm (P:=P)  (cap:=n) (k:=k) ht hs hl hi hr (.inr rfl) hn hsz h0 h1
        exact ⟨_,r,h2,h3,hK⟩
    · rename_i n e id off ht
      obtain ⟨hs,h0,h1,hK⟩:=h
      cases hu with
      | addr _ _ b o m hl =>
        refine ⟨_,.pointer (some ⟨b,o + off + i.toNat * szOf P e,none⟩),?_,by rw [Nat.add_assoc]; exact .addr id _ b o m hl,hK⟩
        intro w
        simp [Instr.indexAt,asIntOf,run_underlying ht,h0,h1,run_size hs,Addr.add_lit,Instr.sureAddr]
    · rename_i n e cs off ht
      obtain ⟨hs,h0,h1,hK⟩:=h
      cases hu with
      | elemP _ _ b o vs hl hi hr =>
        refine ⟨_,.pointer (some ⟨b,o + off + i.toNat * szOf P e,none⟩),?_,by rw [Nat.add_assoc]; exact .elemP cs _ b o vs hl hi hr,hK⟩
        intro w
        simp [Instr.indexAt,asIntOf,run_underlying ht,h0,h1,run_size hs,Addr.add_lit,Instr.sureAddr]
    · rename_i n e g off ht
      obtain ⟨hs,h0,h1,hK⟩:=h
      cases hu
      refine ⟨_,.pointer (some ⟨g,off + i.toNat * szOf P e,none⟩),?_,.glob g _,hK⟩
      intro w
      simp [Instr.indexAt,asIntOf,run_underlying ht,h0,h1,run_size hs,Addr.add_lit,Instr.sureAddr]
    · exact h.elim
  · exact h.elim
theorem indexD_sound {t:TypeId} {x i:AV} {K:AV->Prop} (h:indexD P t x i K) {u v:Value} (hu:RelV ρ x u) (hv:RelV ρ i v):∃ a r,(∀ w,(Instr.index t u v).run P w=.ok r w)/\RelV ρ a r/\K a:=by
  unfold indexD at h
  split at h
  · rename_i s k i
    obtain ⟨ht,h0,h⟩:=h
    rw [relStr hu,relInt (x:=.undef) hv]
    split at h
    · rename_i b hb
      refine ⟨_,_,?_,mkInt ..,h⟩
      have hb':(⟨s.toArray⟩:ByteArray)[i.toNat]?=some b:=by
        have e:∀ (a:ByteArray) (j:Nat),a[j]?=a.data[j]?:=fun a j=>rfl
        rw [e]
        simpa using hb
      intro w
      simp [Instr.index,asIntOf,run_underlying ht,h0,hb']
    · exact h.elim
  · rename_i cs k i
    rw [relInt (x:=.undef) hv]
    split at h
    · rename_i n e ht
      obtain ⟨hs,h0,h1,h⟩:=h
      cases hu with
      | agg _ vs hl hr =>
        obtain ⟨a,r,hr1,hr2,hr3⟩:=partD_sound (P:=P)  h ⟨hl,hr⟩
        refine ⟨a,r,?_,hr2,hr3⟩
        intro w
        simp [Instr.index,asIntOf,run_underlying ht,h0,h1,run_size hs,hr1]
    · exact h.elim
  · exact h.elim
theorem lenD_sound {t:TypeId} {x:AV} {K:AV->Prop} (h:lenD P t x K) {u:Value} (hu:RelV ρ x u) (ts:Array TypeId) (us:Array Value) (ht:ts[0]?=some t) (hus:us[0]?=some u) (ty:TypeId) :
    ∃ a r,(∀ w,(Builtin.len_ ts ty us).run P w=.ok r w)/\RelV ρ a r/\K a:=by
  unfold lenD at h
  split at h
  · rename_i s hd
    rw [relStr hu] at hus
    exact ⟨_,.int .i64 s.length,(fun w=>by simp [Builtin.len_,ht,hus,run_underlying hd,goInt,bytes_size]),mkInt ..,h⟩
  · rename_i e n cs hd
    cases hu with | pv hu=>cases hu with
    | lst _ _ A cap b o vs hnc hA hl hi hr=>exact ⟨_,.int .i64 n,(fun w=>by simp [Builtin.len_,ht,hus,run_underlying hd,goInt]),mkInt ..,h⟩
  · rename_i e id n cs hd
    cases hu with
    | grow _ _ _ b o cap vs hlin hnc hl hi hr=>exact ⟨_,.int .i64 n,(fun w=>by simp [Builtin.len_,ht,hus,run_underlying hd,goInt]),mkInt ..,h⟩
  · rename_i e n cs hd
    cases hu with
    | full _ _ b o vs hl hi hr=>exact ⟨_,.int .i64 n,(fun w=>by simp [Builtin.len_,ht,hus,run_underlying hd,goInt]),mkInt ..,h⟩
  · rename_i e hd
    cases hu
    exact ⟨_,.int .i64 0,(fun w=>by simp [Builtin.len_,ht,hus,run_underlying hd,goInt]),mkInt ..,h⟩
  · rename_i e id off n sz hd
    cases hu with
    | msl _ _ _ _ b o m cap hl hnc hc hm=>exact ⟨_,.int .i64 n,(fun w=>by simp [Builtin.len_,ht,hus,run_underlying hd,goInt]),mkInt ..,h⟩
  · rename_i n e hd
    exact ⟨_,.int .i64 n,(fun w=>by simp [Builtin.len_,ht,hus,run_underlying hd,goInt]),mkInt ..,h⟩
  · exact h.elim
theorem max2_sound:∀ x y (K:AV->Prop) u v,max2D x y K->RelV ρ x u->RelV ρ y v->∃ a r,(∀ w,(Builtin.max2 u v).run P w=.ok r w)/\RelV ρ a r/\K a:=by
  intro x y K u v h hu hv
  unfold max2D at h
  split at h
  · rw [relInt (x:=.undef) hu,relInt (x:=.undef) hv]
    exact ⟨_,_,(fun w=>by simp only [Builtin.max2,Sem.run_pure]),mkInt ..,h⟩
  · exact h.elim
theorem min2_sound:∀ x y (K:AV->Prop) u v,min2D x y K->RelV ρ x u->RelV ρ y v->∃ a r,(∀ w,(Builtin.min2 u v).run P w=.ok r w)/\RelV ρ a r/\K a:=by
  intro x y K u v h hu hv
  unfold min2D at h
  split at h
  · rw [relInt (x:=.undef) hu,relInt (x:=.undef) hv]
    exact ⟨_,_,(fun w=>by simp only [Builtin.min2,Sem.run_pure]),mkInt ..,h⟩
  · exact h.elim
theorem cutAt_sound {n:Nat} {lo hi:Option AV} {K:Nat->Nat->Prop} (h:cutAt n lo hi K) {lo' hi':Option Value} (hlo:RelO ρ lo lo') (hhi:RelO ρ hi hi') (b:Bool) :
    ∃ l r,(∀ w,(Instr.sliceBounds b n n lo' hi' none).run P w=.ok (l,r,n) w)/\K l r:=by
  unfold cutAt at h
  split at h
  · cases hi' with
    | some v=>exact hhi.elim
    | none =>
      split at h
      · cases lo' with
        | some v=>exact hlo.elim
        | none=>exact ⟨0,n,fun w=>by simp [Instr.sliceBounds],h⟩
      · rename_i k l
        cases lo' with
        | none=>exact hlo.elim
        | some v =>
          obtain ⟨h0,h1,hK⟩:=h
          rw [relInt (x:=.undef) hlo]
          exact ⟨l.toNat,n,fun w=>by simp [Instr.sliceBounds,bound_run _ h0 h1],hK⟩
      · exact h.elim
  · rename_i k r
    cases hi' with
    | none=>exact hhi.elim
    | some v =>
      rw [relInt (x:=.undef) hhi]
      split at h
      · cases lo' with
        | some v=>exact hlo.elim
        | none =>
          obtain ⟨h0,h1,hK⟩:=h
          exact ⟨0,r.toNat,fun w=>by simp [Instr.sliceBounds,bound_run _ h0 h1],hK⟩
      · rename_i k2 l
        cases lo' with
        | none=>exact hlo.elim
        | some v =>
          obtain ⟨h0,h1,h2,h3,hK⟩:=h
          rw [relInt (x:=.undef) hlo]
          have h5:l <= ((r.toNat:Nat):Int):=by omega
          refine ⟨l.toNat,r.toNat,fun w=>?_,hK⟩
          have b1:=bound_run (P:=P) (k:=k) (if b=true then .sliceAcap else .sliceAlen) h0 h1 w
          have b2:=bound_run (P:=P) (k:=k2) .sliceB h2 h5 w
          simp only [Instr.sliceBounds,Sem.run_bind,Sem.run_pure,Result.andThen_ok,b1,Option.isSome,Bool.false_eq_true,if_false,b2]
      · exact h.elim
  · exact h.elim
theorem binD_sound {op:BinOp} {t:TypeId} (ht:(match P.underlying t with | some (.int _) | some .string=>true | _=>false)=true) {x y:AV} {K:AV->Prop} (h:binD P op t x y K) {u v:Value} (hu:RelV ρ x u) (hv:RelV ρ y v) (ox oy:Operand) :
    ∃ a r,(∀ w,(do eqGuard op t ox oy u v; binOp op t u v:Sem Value).run P w=.ok r w)/\RelV ρ a r/\K a:=by
  unfold binD at h
  split at h
  · rename_i k a k' b
    rw [relInt (x:=.undef) hu,relInt (x:=.undef) hv]
    have hg:∀ w,(eqGuard op t ox oy (.int k a) (.int k' b)).run P w=.ok () w:=fun w=>by cases op <;> rfl
    simp only [Sem.run_bind,hg,Result.andThen_ok]
    split at h
    · obtain ⟨c,r,h1,h2,h3⟩:=shiftOp_sound (P:=P) ρ (k':=k') h
      exact ⟨c,r,h1,h2,h3⟩
    · obtain ⟨c,r,h1,h2,h3⟩:=shiftOp_sound (P:=P) ρ (k':=k') h
      exact ⟨c,r,h1,h2,h3⟩
    · rename_i n1 n2
      obtain ⟨rfl,h⟩:=h
      obtain ⟨c,r,h1,h2,h3⟩:=intOp_sound (P:=P) ρ h ⟨fun e=>n1 e,fun e=>n2 e⟩
      refine ⟨c,r,fun w=>?_,h2,h3⟩
      rw [<- h1 w]
      cases op <;> rfl
  · rename_i a b
    rw [relStr hu,relStr hv]
    have hg:∀ w,(eqGuard op t ox oy (.string ⟨a.toArray⟩) (.string ⟨b.toArray⟩)).run P w=.ok () w:=fun w=>by cases op <;> rfl
    obtain ⟨c,r,h1,h2,h3⟩:=strOp_sound (P:=P) ρ h
    refine ⟨c,r,fun w=>?_,h2,h3⟩
    simp only [Sem.run_bind,hg,Result.andThen_ok]
    rw [<- h1 w]
    cases op <;> rfl
  · rename_i k a k' b
    obtain ⟨rfl,h⟩:=h
    rw [relFlt (x:=.undef) hu,relFlt (x:=.undef) hv]
    have hg:∀ w,(eqGuard op t ox oy (.float k a) (.float k b)).run P w=.ok () w:=fun w=>by cases op <;> rfl
    split at h
    · rename_i r hr
      refine ⟨_,_,fun w=>?_,mkBool ρ r,h⟩
      simp only [Sem.run_bind,hg,Result.andThen_ok]
      cases op <;> simp only [fcmp] at hr <;> first | (cases hr; done) | skip
      all_goals (cases hr; simp [binOp,Op.floatCmp])
    · exact h.elim
  · exfalso
    have no:∀ K:Bool->Prop,¬ eqD P t x y K:=by
      intro K he
      unfold eqD at he
      have sl:∀ {e:Bool},(elOf P t).isSome=true->False:=by
        intro _ h2
        unfold elOf at h2
        split at ht
        · rename_i hu; rw [hu] at h2; cases h2
        · rename_i hu; rw [hu] at h2; cases h2
        · cases ht
      split at he
      · obtain ⟨h1,_⟩:=he; rw [h1] at ht; cases ht
      · obtain ⟨_,_,h3⟩:=he
        split at h3
        · rename_i hs; rw [hs] at ht; cases ht
        · rename_i hs; rw [hs] at ht; cases ht
        · exact h3
      · exact sl (e:=true) he.1
      · exact sl (e:=true) he.1
      · exact sl (e:=true) he.1
      · obtain ⟨h1,_⟩:=he
        split at h1
        · rename_i hs; rw [hs] at ht; cases ht
        · exact h1
      · obtain ⟨h1,_⟩:=he
        split at h1
        · rename_i hs; rw [hs] at ht; cases ht
        · exact h1
      · obtain ⟨h1,_⟩:=he
        split at h1
        · rename_i hs; rw [hs] at ht; cases ht
        · exact h1
      · obtain ⟨h1,_⟩:=he
        split at h1
        · rename_i hs; rw [hs] at ht; cases ht
        · exact h1
      · obtain ⟨h1,_⟩:=he
        split at h1
        · rename_i hs; rw [hs] at ht; cases ht
        · exact h1
      · obtain ⟨h1,_⟩:=he
        split at h1
        · rename_i hs; rw [hs] at ht; cases ht
        · exact h1
      · obtain ⟨h1,_⟩:=he
        split at h1
        · rename_i hs; rw [hs] at ht; cases ht
        · exact h1
      · exact he
    split at h
    · exact no _ h
    · exact no _ h
    · exact h
end
end Calm
section
variable {P:Program} {ρ:Gh} {σ:AS}
theorem wrapA {s:Sem Value} {r:Value} (h:∀ w,s.run P w=.ok r w) (w:World):(do pure (.value (<- s)):Sem Next).run P w=.ok (.value r) w:=by
  simp only [Sem.run_bind,h w,Result.andThen_ok,Sem.run_pure]
theorem calm_sound {n:Nat} {fr:Fr} {a:Act} (F:RelF ρ n fr a) (mu:Option Nat->Bool) (o:Oper) {K:AV->Prop} (hs:isCalm P o.op=true) (h:stillD P fr σ o.op K) :
    ∃ v u,(∀ w,(execOp a.eval o).run P w=.ok (.value u) w)/\RelV ρ v u/\K v:=by
  rw [stillD_eq] at h
  obtain ⟨dst,op,type,pos,after,guard⟩:=o
  simp only at h hs
  cases op with
  | move x=>exact ⟨_,_,fun w=>rfl,ev_rel F x,h⟩
  | assign x=>exact ⟨_,_,fun w=>rfl,ev_rel F x,h⟩
  | pick c x y =>
    simp only [stillU,pickD] at h
    split at h
    · rename_i t ht
      have hc:=ev_rel F c
      rw [ht] at hc
      have hb:=relBool hc
      refine ⟨_,if t=true then a.eval x else a.eval y,?_,?_,h⟩
      · intro w; simp only [execOp,hb,asBool,Sem.run_bind,Sem.run_pure,Result.andThen_ok]
      · cases t
        · exact ev_rel F y
        · exact ev_rel F x
    · exact h.elim
  | nilCheck x =>
    simp only [stillU,nilD] at h
    have hx:=ev_rel F x
    split at h
    · rename_i id off he
      rw [he] at hx
      obtain ⟨b,p,m,hax,hl⟩:=inv_addr hx
      exact ⟨_,a.eval x,fun w=>by simp only [execOp,hax,Sem.run_pure],hx,h⟩
    · rename_i cs off he
      rw [he] at hx
      obtain ⟨b,p,hax⟩:=inv_elemP hx
      exact ⟨_,a.eval x,fun w=>by simp only [execOp,hax,Sem.run_pure],hx,h⟩
    · rename_i g off he
      rw [he] at hx
      have hax:=inv_glob hx
      exact ⟨_,a.eval x,fun w=>by simp only [execOp,hax,Sem.run_pure],hx,h⟩
    · exact h.elim
  | binOp op t x y ty =>
    by_cases hy:isNilC y=true
    · rw [stillU_bin,hy,cond_true] at h
      simp only [isCalm] at hs
      unfold nilB nilE at h
      exfalso
      split at h
      · obtain ⟨h1,_⟩:=h
        split at h1
        · rename_i hms; rw [hms] at hs; cases hs
        · exact h1
      · obtain ⟨h1,_⟩:=h
        split at h1
        · rename_i hms; rw [hms] at hs; cases hs
        · exact h1
      · exact h
    · rw [stillU_bin,Bool.eq_false_iff.2 hy,cond_false] at h
      obtain ⟨v,r,h1,h2,h3⟩:=Calm.binD_sound hs h (ev_rel F x) (ev_rel F y) x y
      exact ⟨v,r,wrapA h1,h2,h3⟩
  | unOp op t x =>
    obtain ⟨v,r,h1,h2,h3⟩:=Calm.unD_sound (P:=P) h (ev_rel F x)
    exact ⟨v,r,wrapA h1,h2,h3⟩
  | slice t x lo hi mx =>
    cases mx with
    | some m=>simp [isCalm] at hs
    | none =>
      have ht:P.underlying t=some .string:=by
        simp only [isCalm] at hs
        split at hs
        · assumption
        · cases hs
      simp only [stillU,show (ptrArr P t).isSome=false from by simp [ptrArr,ht],Bool.false_eq_true,if_false,sliceD] at h
      have hx:=ev_rel F x
      have el:elOf P t=none:=by unfold elOf; rw [ht]
      split at h
      · rename_i s he
        rw [he] at hx
        obtain ⟨_,h⟩:=h
        obtain ⟨l,r,h1,hK⟩:=Calm.cutAt_sound (P:=P) h (evo_rel F lo) (evo_rel F hi) false
        refine ⟨_,.string ⟨((s.take r).drop l).toArray⟩,wrapA fun w=>?_,mkStr ..,hK⟩
        have hsz:(⟨s.toArray⟩:ByteArray).size=s.length:=bytes_size s
        rw [relStr hx]
        simp only [Instr.sliceAt,Instr.slice,Sem.run_bind,run_underlying ht,Result.andThen_ok,Option.isSome,Option.map_none,Bool.false_eq_true,if_false,hsz,h1 w,Sem.run_pure,str_extract]
      all_goals (first | exact h.elim | (rw [el] at h; exact h.elim))
  | fieldAddr s x f =>
    obtain ⟨v,r,h1,h2,h3⟩:=Calm.fieldAddrD_sound (P:=P) h (ev_rel F x)
    exact ⟨v,r,wrapA h1,h2,h3⟩
  | field s x f =>
    obtain ⟨v,r,h1,h2,h3⟩:=Calm.fieldD_sound (P:=P) h (ev_rel F x)
    exact ⟨v,r,wrapA h1,h2,h3⟩
  | indexAddr t x i =>
    obtain ⟨v,r,h1,h2,h3⟩:=Calm.indexAddrD_sound (P:=P) h (ev_rel F x) (ev_rel F i)
    exact ⟨v,r,wrapA h1,h2,h3⟩
  | index t x i =>
    obtain ⟨v,r,h1,h2,h3⟩:=Calm.indexD_sound (P:=P) h (ev_rel F x) (ev_rel F i)
    exact ⟨v,r,wrapA h1,h2,h3⟩
  | extract x i =>
    simp only [stillU,extractD] at h
    have hx:=ev_rel F x
    split at h
    · rename_i vs he
      rw [he] at hx
      split at h
      · rename_i v hv
        obtain ⟨us,hax,hr⟩:=inv_tuple hx
        obtain ⟨r,h1,h2⟩:=hr.get? i hv
        exact ⟨v,r,fun w=>by simp [execOp,hax,Instr.extract,h1],h2,h⟩
      · exact h.elim
    · exact h.elim
  | call c =>
    obtain ⟨callee,args,argTypes⟩:=c
    cases callee with
    | value f=>simp [isCalm] at hs
    | invoke r m=>simp [isCalm] at hs
    | builtin b =>
      cases b <;> first | (simp [isCalm] at hs; done) | skip
      case len =>
        simp only [stillU] at h
        split at h
        · rename_i x xs t ts hx ht
          have hx0:args[0]?=some x:=by rw [<- Array.getElem?_toList,hx]; rfl
          have ht0:argTypes[0]?=some t:=by rw [<- Array.getElem?_toList,ht]; rfl
          obtain ⟨v,r,h1,h2,h3⟩:=Calm.lenD_sound (P:=P) h (ev_rel F x) argTypes (args.map a.eval) ht0 (by simp [hx0]) type
          exact ⟨v,r,fun w=>by simp only [execOp,resolve,invoke,builtin,Sem.run_bind,Sem.run_pure,Result.andThen_ok,h1 w],h2,h3⟩
        · exact h.elim
  | _=>simp [isCalm] at hs
end
end Go.AD
