import Derived.Test.YtjgjmpophpifgaaGreatDoorM10
import Derived.Test.YtjgjmpophpifgaaGreatDoorM6
import Derived.Test.YtjgjmpophpifgaaGreatDoorM9
import Derived.Defers
import Derived.Recover
set_option linter.unusedVariables false
set_option linter.unusedSimpArgs false
set_option maxRecDepth 100000
namespace Go.AD.Lx
open Go.Proofs
@[go_sem] theorem nMinL (a k:Nat) [NeZero k]:min (a:Int) (no_index (OfNat.ofNat k):Int)=((min a (OfNat.ofNat k):Nat):Int):=nMin a k
theorem wrapB (v:Nat):IntKind.wrap .u8 (v:Int)=(((UInt8.ofNat v).toNat:Nat):Int):=by
  have e:IntKind.wrap .u8 (v:Int)=(v:Int) % 256:=by simp [IntKind.wrap,IntKind.bits,IntKind.signed]
  rw [e,UInt8.toNat_ofNat']
  omega
theorem indexByte_lt (l:Bytes) (c:UInt8):Lib.indexByte l c < l.length:=by
  induction l with
  | nil=>unfold Lib.indexByte; simp
  | cons b l ih =>
    unfold Lib.indexByte
    split
    · simp only [List.length_cons]; omega
    · split
      · simp only [List.length_cons]; omega
      · simp only [List.length_cons]; omega
theorem span_get {p:UInt8->Bool}:∀ {s:Bytes} {i:Nat},i < spanL p s->p (s.getD i 0)=true
  | [],i,h=>by simp [spanL] at h
  | c :: s,i,h=>by
    unfold spanL at h
    split at h
    · cases i with
      | zero=>simpa
      | succ i=>simpa using span_get (s:=s) (by omega)
    · omega
theorem cvIB {σ:AS} {z:Int} {K:AV->Prop}:convD PS σ 3 5 (.pv (.int .i64 z)) K=K (.pv (.int .u8 (IntKind.wrap .u8 z))):=cvI (by rw [Tryz.underlying3]; rfl) Tryz.underlying5
theorem cvBI {σ:AS} {z:Int} {K:AV->Prop}:convD PS σ 5 3 (.pv (.int .u8 z)) K=K (.pv (.int .i64 (IntKind.wrap .i64 z))):=cvI (by rw [Tryz.underlying5]; rfl) Tryz.underlying3
section
variable {env:Env} {args:List AV} {σ0 σ:AS} {K:AV->AS->Prop} {X:PV->AS->Prop} {l b:Nat} {s acc:Bytes} {ts:List Tok} {Y B:Objs}
theorem LexAt.sep (h:LexAt σ0 σ l s ts Y):∃ L,Sep σ0 σ (L ++ Y):=by
  obtain ⟨ov,ol,hR,hS⟩:=h
  exact ⟨(l,.cells [.pv (.str s),ov] none) :: ol,hS⟩
theorem LexAt.extra (h:LexAt σ0 σ l s ts Y) {i:Nat} (hi:σ i=none) (o:AObj):LexAt σ0 (σ.set i o) l s ts Y:=by
  obtain ⟨ov,ol,hR,hS⟩:=h
  exact ⟨ov,ol,hR,(hS.alloc hi o).drop⟩
def okK (σ0:AS) (l:Nat) (Y:Objs) (K:AV->AS->Prop):Option (Bytes × List Tok)->Prop
  | none=>∀ σ',(∃ L,Sep σ0 σ' (L ++ Y))->K (.pv (.bool false)) σ'
  | some (r,ts')=>∀ σ',LexAt σ0 σ' l r ts' Y->K (.pv (.bool true)) σ'
theorem listed_call (h:env 124=T_listed) {a w:Bytes} (h1:a.length <= 1000) (h2:w.length <= 1000000) (hK:K (.pv (.bool (listedS a w))) σ):env 124 [.pv (.str a),.pv (.str w)] σ K X:=by
  rw [h]; exact ⟨a,w,rfl,h1,h2,hK⟩
theorem prefix_call (h:env 114=strT2 fun s t=>.pv (.bool (Lib.hasPrefix s t))) {a w:Bytes} (h1:a.length <= 100000) (hK:K (.pv (.bool (Lib.hasPrefix a w))) σ):env 114 [.pv (.str a),.pv (.str w)] σ K X:=by
  rw [h]; exact ⟨a,w,rfl,h1,hK⟩
theorem span_call (h:env 115=T_span) {a:Bytes} {f:Nat} {p:UInt8->Bool} (hp:predOf f=some p) (h1:a.length <= 1000000) (hK:K (.pv (.int .i64 (spanL p a))) σ):env 115 [.pv (.str a),.pv (.func f)] σ K X:=by
  rw [h]; exact ⟨a,f,p,rfl,hp,h1,hK⟩
def T_name:Tr:=fun args σ K _=>∃ (σ0:AS) (l:Nat) (s:Bytes) (ts:List Tok) (Y:Objs),args=[.addr l 0]/\LexAt σ0 σ l s ts Y/\s.length <= 90000/\ts.length <= 100000/\okK σ0 l Y K (nameS s ts)
theorem T_name_ok (h1:env 115=T_span) (h2:env 113=T_take) (h3:env 124=T_listed) (h4:env 117=T_put) (h5:env 114=strT2 fun s t=>.pv (.bool (Lib.hasPrefix s t))) (h:T_name args σ K X):bodyD PS env an123 Tryz.f123 args σ K X:=by
  obtain ⟨σ0,l,s,ts,Y,rfl,hL,hs,ht,hK⟩:=h
  obtain ⟨ov,hl⟩:=hL.str
  rw [<- S123_eq env,S123]
  simp (disch:=omega) only [go_sem,hl,ldM_cells,List.getElem?_cons_zero]
  refine span_call h1 (p:=innerB) rfl (by omega) ?_
  refine take_call h2 hL (span_le _ _) ?_
  intro σ1 hL1
  have hw:(s.take (spanL innerB s)).length <= 1000000:=by rw [List.length_take]; omega
  unfold nameS at hK
  refine listed_call h3 (a:=lBarred) (by decide) hw ?_
  simp only [go_sem]
  refine iteI (fun g1=>?_) (fun g1=>?_)
  · rw [if_pos g1] at hK
    exact retV_self (hK _ hL1.sep)
  rw [if_neg g1] at hK
  refine listed_call h3 (a:=lWords) (by decide) hw ?_
  simp only [go_sem]
  refine iteI (fun g2=>?_) (fun g2=>?_)
  · rw [if_pos g2] at hK
    refine put_call h4 hL1 (by omega) fun σ2 hL2=>retV_self (hK _ hL2)
  rw [if_neg g2] at hK
  refine listed_call h3 (a:=lBuilts) (by decide) hw ?_
  simp only [go_sem]
  refine iteI (fun g3=>?_) (fun g3=>?_)
  · rw [if_pos g3] at hK
    refine put_call h4 hL1 (by omega) fun σ2 hL2=>retV_self (hK _ hL2)
  rw [if_neg g3] at hK
  obtain ⟨ov1,hl1⟩:=hL1.str
  simp (disch:=omega) only [go_sem,hl1,ldM_cells,List.getElem?_cons_zero]
  refine prefix_call h5 (by rw [List.length_drop]; omega) ?_
  simp only [go_sem]
  refine iteI (fun g4=>?_) (fun g4=>?_)
  · rw [if_pos g4] at hK
    refine put_call h4 hL1 (by omega) fun σ2 hL2=>retV_self (hK _ hL2)
  · rw [if_neg g4] at hK
    refine put_call h4 hL1 (by omega) fun σ2 hL2=>retV_self (hK _ hL2)
theorem wb_call (hb:env 155=T_WriteByte) (hL:LexAt σ0 σ l s ts (B ++ Y)) (hB:BAt b acc B) (ha:acc.length <= 1000000) {c:UInt8} {z:Int} (hz:z=c.toNat) (hK:∀ σ' B',BAt b (acc ++ [c]) B'->LexAt σ0 σ' l s ts (B' ++ Y)->K (.pv .nilIface) σ') :
    env 155 [.addr b 0,.pv (.int .u8 z)] σ K X:=by
  subst hz
  rw [hb]
  obtain ⟨ov,ol,hR,hS⟩:=hL
  have p1:∀ C:Objs,((l,AObj.cells [.pv (.str s),ov] none) :: (ol ++ (C ++ Y))).Perm (C ++ ((l,AObj.cells [.pv (.str s),ov] none) :: (ol ++ Y))):=by
    intro C
    have:(((l,AObj.cells [.pv (.str s),ov] none) :: ol) ++ (C ++ Y)).Perm (C ++ (((l,AObj.cells [.pv (.str s),ov] none) :: ol) ++ Y)):=by
      rw [<- List.append_assoc,<- List.append_assoc]
      exact List.Perm.append_right Y List.perm_append_comm
    simpa using this
  refine ⟨b,c,σ0,acc,B,_,rfl,hB,hS.perm (p1 B),ha,?_⟩
  intro σ' B' hB' hS'
  exact hK σ' B' hB' ⟨ov,ol,hR,hS'.perm (p1 B').symm⟩
def T_esc (e:Bytes->Bytes × Bytes):Tr:=fun args σ K _=>∃ (σ0:AS) (l b:Nat) (s acc:Bytes) (ts:List Tok) (B Y:Objs),args=[.addr l 0,.addr b 0]/\LexAt σ0 σ l s ts (B ++ Y)/\BAt b acc B/\s ≠ []/\s.length <= 90000/\acc.length <= 900000 /\
  ∀ σ' B',BAt b (acc ++ (e s).1) B'->LexAt σ0 σ' l (e s).2 ts (B' ++ Y)->K (.tuple []) σ'
theorem T_inEre_ok (h2:env 113=T_take) (hb:env 155=T_WriteByte) (h:T_esc inEreS args σ K X):bodyD PS env an121 Tryz.f121 args σ K X:=by
  obtain ⟨σ0,l,b,s,acc,ts,B,Y,rfl,hL,hB,hne,hs,ha,hK⟩:=h
  have hp:0 < s.length:=List.length_pos_iff.2 hne
  obtain ⟨ov,hl⟩:=hL.str
  rw [<- S121_eq env,S121]
  have i0:∀ (x:Bytes) (K:AV->Prop),0 < x.length->indexD PS 9 (.pv (.str x)) (.pv (.int .i64 0)) K=K (.pv (.int .u8 (x.getD 0 0).toNat)):=fun x K hx=>T.is9 (i:=0) hx
  simp (disch:=omega) only [go_sem,hl,ldM_cells,List.getElem?_cons_zero,i0 s _ hp,beq_iff_eq]
  unfold inEreS at hK
  refine iteI (fun g1=>?_) (fun g1=>?_)
  · rw [if_pos g1] at hK
    exact retV_self (hK σ B (by simpa using hB) hL)
  rw [if_neg g1] at hK
  refine take_call h2 hL (n:=1) hp ?_
  intro σ1 hL1
  have ht:(s.take 1).getD 0 0=s.getD 0 0:=by cases s <;> simp
  have htl:0 < (s.take 1).length:=by rw [List.length_take]; omega
  simp (disch:=omega) only [go_sem,i0 _ _ htl,ht,bne,Bool.not_eq_true']
  refine iteI (fun g2=>?_) (fun g2=>?_)
  · have g2:¬ (s.getD 0 0).toNat=47:=by simpa using g2
    rw [if_neg g2] at hK
    refine wb_call hb hL1 hB (by omega) (c:=92) rfl ?_
    intro σ2 B2 hB2 hL2
    refine wb_call hb hL2 hB2 (by simp; omega) (c:=s.getD 0 0) rfl ?_
    intro σ3 B3 hB3 hL3
    exact retV_self (hK σ3 B3 (by simpa [List.append_assoc,-List.getD_eq_getElem?_getD] using hB3) hL3)
  · have g2:(s.getD 0 0).toNat=47:=by simpa using g2
    rw [if_pos g2] at hK
    refine wb_call hb hL1 hB (by omega) (c:=s.getD 0 0) rfl ?_
    intro σ2 B2 hB2 hL2
    exact retV_self (hK σ2 B2 hB2 hL2)
theorem T_inText_ok (h1:env 115=T_span) (h2:env 113=T_take) (hb:env 155=T_WriteByte) (hi:env 125=T_IndexByte) (h:T_esc inTextS args σ K X):bodyD PS env an119 Tryz.f119 args σ K X:=by
  obtain ⟨σ0,l,b,s,acc,ts,B,Y,rfl,hL,hB,hne,hs,ha,hK⟩:=h
  have hp:0 < s.length:=List.length_pos_iff.2 hne
  obtain ⟨ov,hl⟩:=hL.str
  rw [<- S119_eq env,S119]
  simp (disch:=omega) only [go_sem,hl,ldM_cells,List.getElem?_cons_zero]
  refine span_call h1 (p:=octalB) rfl (by omega) ?_
  simp (disch:=omega) only [go_sem]
  have hsp:=span_le octalB s
  unfold inTextS at hK
  generalize hn:min (spanL octalB s) 3=n at hK
  refine iteI (fun g1=>?_) (fun g1=>?_)
  · rw [if_pos g1] at hK
    have hnl:n <= s.length:=by omega
    refine take_call h2 hL hnl ?_
    intro σ1 hL1
    have hx:(s.take n).length=n:=by rw [List.length_take]; omega
    simp only [bytesD,T.el92]
    refine ⟨Tryz.underlying9,Tryz.underlying5,T.sz5,by rw [hx]; omega,?_⟩
    simp only [newRowD,Bool.false_eq_true,if_false,toPVs_pv]
    intro id hid
    have hL2:=hL1.extra hid (.front (s.take n).length 1 (some 5))
    generalize (σ1.set id (.front (s.take n).length 1 (some 5)))=σ2 at hL2
    have hg:toPV (.grow id (s.take n).length (pvBytes (s.take n)))=some (.lst (s.take n).length (pvBytes (s.take n))):=rfl
    rw [T.lnv92 hg]
    refine lp119_4 (fun (a:Nat × Nat) _=>n - a.1) (fun a τ=>τ=σ2/\a.1 <= n/\a.2 < 8 ^ a.1/\octVal (s.take n) 0=octVal ((s.take n).drop a.1) a.2) (fun a=>.pv (.int .i64 a.2)) (fun a=>.pv (.int .i64 a.1)) (0,0) ⟨rfl,Nat.zero_le _,by decide,by simp⟩ ?_
    rintro ⟨i,v⟩ τ ⟨rfl,hin,hv,he⟩
    simp only at hin hv he
    have h8:8 ^ i <= 512:=by
      have:i <= 3:=by omega
      have:=Nat.pow_le_pow_right (n:=8) (by decide) this
      simpa using this
    unfold L119_4
    simp (disch:=omega) only [go_sem,hx]
    refine iteI (fun g2=>?_) (fun g2=>?_)
    · have hc:octalB (s.getD i 0)=true:=span_get (by omega)
      unfold octalB at hc
      rw [Bool.and_eq_true,decide_eq_true_eq,decide_eq_true_eq] at hc
      have hxi:(s.take n).getD i 0=s.getD i 0:=by simp [List.getD_eq_getElem?_getD,List.getElem?_take,g2]
      rw [drop_consD (d:=0) (show i < (s.take n).length by omega),octVal,hxi] at he
      refine T.ixv92 (i:=i) (n:=n) (cs:=pvBytes (s.take n)) (by rw [<- hx]; rfl) g2 (by rw [pvBytes_len]; omega) ?_
      have hgt:=pvBytes_get (s.take n) i (by omega)
      rw [hxi] at hgt
      simp (disch:=omega) only [go_sem,hgt,Nat.mul_one,cvBI]
      refine back (i + 1,v * 8 + ((s.getD i 0).toNat - 48)) ?_ (by simp only; omega) ⟨rfl,by simp only; omega,?_,he⟩
      · simp only
      · simp only
        rw [Nat.pow_succ]; omega
    · have:i=n:=by omega
      subst this
      rw [List.drop_eq_nil_of_le (by omega),octVal] at he
      rw [he] at hK
      simp only [cvIB]
      refine wb_call hb hL2 hB (by omega) (c:=UInt8.ofNat v) (wrapB v) ?_
      intro σ3 B3 hB3 hL3
      exact retV_self (hK σ3 B3 hB3 hL3)
  · rw [if_neg g1] at hK
    refine take_call h2 hL (n:=1) hp ?_
    intro σ1 hL1
    have ht:(s.take 1).getD 0 0=s.getD 0 0:=by cases s <;> simp
    have htl:0 < (s.take 1).length:=by rw [List.length_take]; omega
    have i0:∀ (x:Bytes) (K:AV->Prop),0 < x.length->indexD PS 9 (.pv (.str x)) (.pv (.int .i64 0)) K=K (.pv (.int .u8 (x.getD 0 0).toNat)):=fun x K hx=>T.is9 (i:=0) hx
    simp (disch:=omega) only [i0 _ _ htl,ht]
    generalize s.getD 0 0=c at hK
    rw [hi]
    refine ⟨lPlain,c,rfl,?_⟩
    have jN:∀ bb:Bool,(bb=true ↔ (c.toNat=34 \/ c.toNat=92 \/ c.toNat=47))->¬ c.toNat=10->J119_15 env (.addr b 0) (.pv (.int .u8 c.toNat)) (.pv (.int .i64 (Lib.indexByte lPlain c))) (.pv (.bool bb)) σ1 K X:=by
      intro bb hbb g0
      rw [if_neg g0] at hK
      unfold J119_15
      simp only [go_sem]
      refine iteI (fun g2=>?_) (fun g2=>?_)
      · rw [if_pos (hbb.1 g2)] at hK
        refine wb_call hb hL1 hB (by omega) (c:=c) rfl ?_
        intro σ2 B2 hB2 hL2
        exact retV_self (hK σ2 B2 hB2 hL2)
      · rw [if_neg (fun h=>g2 (hbb.2 h))] at hK
        have hib:=indexByte_lt lPlain c
        have hig:=Lib.indexByte_ge lPlain c
        refine iteI (fun g3=>?_) (fun g3=>?_)
        · rw [if_pos g3] at hK
          obtain ⟨k,hk⟩:∃ k:Nat,Lib.indexByte lPlain c=k:=⟨(Lib.indexByte lPlain c).toNat,by omega⟩
          rw [hk] at hK hib ⊢
          have hk7:k < 7:=by
            have:(lPlain.length:Int)=7:=rfl
            omega
          simp (disch:=omega) only [go_sem,cvIB]
          refine wb_call hb hL1 hB (by omega) (c:=UInt8.ofNat (7 + k)) ?_ ?_
          · rw [UInt8.toNat_ofNat']; omega
          · intro σ2 B2 hB2 hL2
            exact retV_self (hK σ2 B2 hB2 hL2)
        · rw [if_neg g3] at hK
          refine wb_call hb hL1 hB (by omega) (c:=92) rfl ?_
          intro σ2 B2 hB2 hL2
          refine wb_call hb hL2 hB2 (by simp; omega) (c:=c) rfl ?_
          intro σ3 B3 hB3 hL3
          exact retV_self (hK σ3 B3 (by simpa [List.append_assoc] using hB3) hL3)
    simp (disch:=omega) only [go_sem,beq_iff_eq]
    refine iteI (fun g2=>?_) (fun g2=>?_)
    · rw [if_pos g2] at hK
      exact retV_self (hK σ1 B (by simpa using hB) hL1)
    refine iteI (fun g3=>jN _ (by simp [g3]) g2) (fun g3=>?_)
    refine iteI (fun g4=>jN _ (by simp [g4]) g2) (fun g4=>jN _ (by simp [g3,g4]) g2)
end
end Go.AD.Lx

set_option linter.unusedVariables false
set_option linter.unusedSimpArgs false
set_option maxRecDepth 100000
namespace Go.AD.Lx
open Go.Proofs
def escOf (f:Nat):Option (Bytes->Bytes × Bytes):=if f=119 then some inTextS else if f=121 then some inEreS else none
theorem esc_at {env:Env} (h1:env 119=T_esc inTextS) (h2:env 121=T_esc inEreS) {f:Nat} {e:Bytes->Bytes × Bytes} (h:escOf f=some e):env f=T_esc e:=by
  unfold escOf at h
  split at h
  · rename_i g; cases h; rw [g]; exact h1
  split at h
  · rename_i g; cases h; rw [g]; exact h2
  cases h
theorem inText_sum (r:Bytes) (h:r ≠ []):(inTextS r).1.length + (inTextS r).2.length <= r.length + 1:=by
  have:0 < r.length:=List.length_pos_iff.2 h
  unfold inTextS
  split
  · simp only [List.length_drop,List.length_singleton]; omega
  · simp only [List.length_drop]
    split
    · simp only [List.length_nil]; omega
    split
    · simp only [List.length_singleton]; omega
    split
    · simp only [List.length_singleton]; omega
    · simp only [List.length_cons,List.length_nil]; omega
theorem inEre_sum (r:Bytes) (h:r ≠ []):(inEreS r).1.length + (inEreS r).2.length <= r.length + 1:=by
  have:0 < r.length:=List.length_pos_iff.2 h
  unfold inEreS
  split
  · simp
  · simp only [List.length_drop]
    split
    · simp only [List.length_singleton]; omega
    · simp only [List.length_cons,List.length_nil]; omega
theorem esc_facts {f:Nat} {e:Bytes->Bytes × Bytes} (h:escOf f=some e):∀ r:Bytes,r ≠ []->(e r).2.length <= r.length/\(e r).1.length + (e r).2.length <= r.length + 1:=by
  intro r hr
  unfold escOf at h
  split at h
  · cases h; exact ⟨Nat.le_of_lt (inText_le r hr),inText_sum r hr⟩
  split at h
  · cases h; exact ⟨inEre_le r,inEre_sum r hr⟩
  cases h
section
variable {env:Env} {args:List AV} {σ0 σ:AS} {K:AV->AS->Prop} {X:PV->AS->Prop} {l b:Nat} {s acc:Bytes} {ts:List Tok} {Y B:Objs}
def quK (σ0:AS) (l:Nat) (ts:List Tok) (Y:Objs) (K:AV->AS->Prop):Option (Bytes × Bytes)->Prop
  | none=>∀ σ' s',LexAt σ0 σ' l s' ts Y->K (.tuple [.pv (.str []),.pv (.bool false)]) σ'
  | some (t,r)=>∀ σ',LexAt σ0 σ' l r ts Y->K (.tuple [.pv (.str t),.pv (.bool true)]) σ'
def T_quoted:Tr:=fun args σ K _=>∃ (σ0:AS) (l f:Nat) (q:UInt8) (e:Bytes->Bytes × Bytes) (s:Bytes) (ts:List Tok) (Y:Objs),args=[.addr l 0,.pv (.int .u8 q.toNat),.clo f [.addr l 0] []]/\escOf f=some e/\LexAt σ0 σ l s ts Y/\s.length <= 90000/\∀ n,s.length < n->quK σ0 l ts Y K (quotedS q e n s [])
theorem T_quoted_ok (h2:env 113=T_take) (hb:env 155=T_WriteByte) (hs':env 154=T_Str) (he1:env 119=T_esc inTextS) (he2:env 121=T_esc inEreS) (h:T_quoted args σ K X):bodyD PS env an118 Tryz.f118 args σ K X:=by
  obtain ⟨σ0,l,f,q,e,s0,ts,Y,rfl,hf,hL,hlen,hK⟩:=h
  rw [<- S118_eq env,S118]
  simp only [lock_eq]
  refine alloc_of T.zo173 rfl ?_
  intro b hb0
  have hI:LexAt σ0 (σ.set b (.cells [.pv .nilPtr,.nilS] (some 173))) l s0 ts ([(b,.cells [.pv .nilPtr,.nilS] (some 173))] ++ Y):=by
    obtain ⟨ov,ol,hR,hS⟩:=hL
    refine ⟨ov,ol,hR,(hS.alloc hb0 _).perm ?_⟩
    have:((b,AObj.cells [AV.pv .nilPtr,.nilS] (some 173)) :: (((l,AObj.cells [.pv (.str s0),ov] none) :: ol) ++ Y)).Perm (((l,AObj.cells [.pv (.str s0),ov] none) :: ol) ++ ((b,AObj.cells [AV.pv .nilPtr,.nilS] (some 173)) :: Y)):=List.perm_middle.symm
    simpa using this
  have hK:=hK (s0.length + 1) (Nat.lt_succ_self _)
  generalize hQ:quotedS q e (s0.length + 1) s0 []=Q at hK
  refine lp118_2 (fun (a:Bytes × Bytes) _=>a.1.length) (fun a τ=>∃ B n,LexAt σ0 τ l a.1 ts (B ++ Y)/\BAt b a.2 B/\a.1.length < n/\Q=quotedS q e n a.1 a.2/\a.2.length + a.1.length <= 90000) (s0,[]) ⟨_,_,hI,BAt.new b,Nat.lt_succ_self _,hQ.symm,by simp; omega⟩ ?_
  rintro ⟨s,acc⟩ τ ⟨B,n,hL,hB,hn,hq,hsum⟩
  simp only at hL hB hn hq hsum
  obtain ⟨n,rfl⟩:∃ m,n=m + 1:=⟨n - 1,by omega⟩
  rw [quotedS] at hq
  obtain ⟨ov,hl⟩:=hL.str
  have i0:∀ (x:Bytes) (K:AV->Prop),0 < x.length->indexD PS 9 (.pv (.str x)) (.pv (.int .i64 0)) K=K (.pv (.int .u8 (x.getD 0 0).toNat)):=fun x K hx=>T.is9 (i:=0) hx
  have none':Q=none->retV (.tuple [.pv (.str []),.pv (.bool false)]) τ K:=by
    intro h
    rw [h] at hK
    obtain ⟨ov,ol,hR,hS⟩:=hL
    exact retV_self (hK τ s ⟨ov,ol,hR,hS.sublist (List.Sublist.cons_cons _ ((List.Sublist.refl ol).append (List.sublist_append_right B Y)))⟩)
  unfold L118_2
  simp (disch:=omega) only [go_sem,hl,ldM_cells,List.getElem?_cons_zero]
  refine iteI (fun g1=>?_) (fun g1=>?_)
  · have g1:s ≠ []:=by simpa using g1
    have hp:0 < s.length:=List.length_pos_iff.2 g1
    rw [if_neg g1] at hq
    simp (disch:=omega) only [i0 s _ hp,go_sem,bne,Bool.not_eq_true',beq_eq_false_iff_ne,ne_eq]
    refine iteI (fun g2=>?_) (fun g2=>?_)
    · rw [if_neg g2] at hq
      unfold J118_3
      refine take_call h2 hL (n:=1) hp ?_
      intro σ1 hL1
      have ht:(s.take 1).getD 0 0=s.getD 0 0:=by cases s <;> simp
      have htl:0 < (s.take 1).length:=by rw [List.length_take]; omega
      have hdl:(s.drop 1).length=s.length - 1:=by rw [List.length_drop]
      simp (disch:=omega) only [go_sem,i0 _ _ htl,ht,nBeq,bne,Bool.not_eq_true',beq_eq_false_iff_ne,ne_eq,beq_iff_eq]
      refine iteI (fun g3=>?_) (fun g3=>?_)
      · have g3:s.getD 0 0=q:=UInt8.toNat_inj.1 g3
        rw [if_pos g3] at hq
        rw [hq] at hK
        rw [hs']
        obtain ⟨ov1,ol1,hR1,hS1⟩:=hL1
        have p1:∀ C:Objs,((l,AObj.cells [.pv (.str (s.drop 1)),ov1] none) :: (ol1 ++ (C ++ Y))).Perm (C ++ ((l,AObj.cells [.pv (.str (s.drop 1)),ov1] none) :: (ol1 ++ Y))):=by
          intro C
          have:(((l,AObj.cells [.pv (.str (s.drop 1)),ov1] none) :: ol1) ++ (C ++ Y)).Perm (C ++ (((l,AObj.cells [.pv (.str (s.drop 1)),ov1] none) :: ol1) ++ Y)):=by
            rw [<- List.append_assoc,<- List.append_assoc]
            exact List.Perm.append_right Y List.perm_append_comm
          simpa using this
        refine ⟨b,σ0,acc,B,_,rfl,hB,hS1.perm (p1 B),?_⟩
        intro σ2 hS2
        exact retV_self (hK σ2 ⟨ov1,ol1,hR1,hS2⟩)
      · have g3:¬ s.getD 0 0=q:=fun h=>g3 (by rw [h])
        rw [if_neg g3] at hq
        refine iteI (fun g4=>?_) (fun g4=>?_)
        · rw [if_pos g4] at hq
          refine wb_call hb hL1 hB (by omega) (c:=s.getD 0 0) rfl ?_
          intro σ2 B2 hB2 hL2
          exact back (s.drop 1,acc ++ [s.getD 0 0]) rfl (by simp only; omega) ⟨B2,n,hL2,hB2,by simp only; omega,hq,by simp only [List.length_append,List.length_singleton]; omega⟩
        · rw [if_neg g4] at hq
          obtain ⟨ov1,hl1⟩:=hL1.str
          simp (disch:=omega) only [go_sem,hl1,ldM_cells,List.getElem?_cons_zero,beq_iff_eq]
          refine iteI (fun g5=>?_) (fun g5=>?_)
          · rw [if_pos g5] at hq
            rw [hq] at hK
            obtain ⟨ov1,ol1,hR1,hS1⟩:=hL1
            exact retV_self (hK _ _ ⟨ov1,ol1,hR1,hS1.sublist (List.Sublist.cons_cons _ ((List.Sublist.refl ol1).append (List.sublist_append_right B Y)))⟩)
          · rw [if_neg g5] at hq
            obtain ⟨f1,f2⟩:=esc_facts hf (s.drop 1) g5
            simp only [callD,List.cons_append,List.nil_append,List.append_nil]
            rw [esc_at he1 he2 hf]
            refine ⟨σ0,l,b,s.drop 1,acc,ts,B,Y,rfl,hL1,hB,g5,by omega,by omega,?_⟩
            intro σ2 B2 hB2 hL2
            exact back ((e (s.drop 1)).2,acc ++ (e (s.drop 1)).1) rfl (by simp only; omega) ⟨B2,n,hL2,hB2,by simp only; omega,hq,by simp only [List.length_append]; omega⟩
    · have g2:(s.getD 0 0).toNat=10:=by simpa [-List.getD_eq_getElem?_getD] using g2
      rw [if_pos g2] at hq
      exact none' hq
  · have g1:s=[]:=by simpa using g1
    rw [if_pos g1] at hq
    exact none' hq
theorem quote_call (hq:env 118=T_quoted) (hp:env 117=T_put) (hL:LexAt σ0 σ l (s.drop 1) ts Y) {f:Nat} {q:UInt8} {z:Int} (hz:z=q.toNat) {e:Bytes->Bytes × Bytes} (hf:escOf f=some e) {k:Bytes} (hs:s.length <= 90000) (ht:ts.length <= 100000) {K:AV->AS->Prop} (hK:okK σ0 l Y K (quoteTok q e k s ts)) :
    env 118 [.addr l 0,.pv (.int .u8 z),.clo f [.addr l 0] []] σ (fun t91 σ16=>extractD t91 0 fun t92=>extractD t91 1 fun t93=>env 117 [.addr l 0,.pv (.str k),t92] σ16 (fun t96 σ17=>retV t93 σ17 K) (panV X)) (panV X):=by
  subst hz
  rw [hq]
  have hdl:(s.drop 1).length <= s.length:=by rw [List.length_drop]; omega
  refine ⟨σ0,l,f,q,e,s.drop 1,ts,Y,rfl,hf,hL,by omega,?_⟩
  intro n hn
  have hfu:quotedS q e n (s.drop 1) []=quotedS q e (s.length + 1) (s.drop 1) []:=quoted_fuel (fun r hr=>(esc_facts hf r hr).1) n (s.length + 1) (s.drop 1) [] hn (by omega)
  rw [hfu]
  unfold quoteTok at hK
  cases hqs:quotedS q e (s.length + 1) (s.drop 1) [] with
  | none =>
    rw [hqs] at hK
    intro σ' s' hL'
    simp only [go_sem,List.getElem?_cons_zero,List.getElem?_cons_succ]
    exact put_call hp hL' (by omega) fun σ2 hL2=>retV_self (hK _ hL2.sep)
  | some x =>
    obtain ⟨t,r⟩:=x
    rw [hqs] at hK
    intro σ' hL'
    simp only [go_sem,List.getElem?_cons_zero,List.getElem?_cons_succ]
    exact put_call hp hL' (by omega) fun σ2 hL2=>retV_self (hK _ hL2)
def T_token:Tr:=fun args σ K _=>∃ (σ0:AS) (l:Nat) (s:Bytes) (ts:List Tok) (Y:Objs),args=[.addr l 0]/\LexAt σ0 σ l s ts Y/\s ≠ []/\s.length <= 80000/\ts.length <= 100000/\(∀ t ∈ ts,t.2.length <= 100000)/\okK σ0 l Y K (tokenS s ts)
theorem byte_call {f:Nat} {p:UInt8->Bool} (h:env f=byteT p) {c:UInt8} (hK:K (.pv (.bool (p c))) σ):env f [.pv (.int .u8 c.toNat)] σ K X:=by
  rw [h]; exact ⟨c,rfl,hK⟩
structure LexEnv (env:Env):Prop where
  take:env 113=T_take
  put:env 117=T_put
  number:env 112=T_number
  span:env 115=T_span
  letter:env 122=byteT letterB
  listed:env 124=T_listed
  operand:env 120=T_operand
  name:env 123=T_name
  quoted:env 118=T_quoted
  pre:env 114=strT2 fun s t=>.pv (.bool (Lib.hasPrefix s t))
  ixb:env 125=T_IndexByte
theorem T_token_ok (E:LexEnv env) (h:T_token args σ K X):bodyD PS env an73 Tryz.f73 args σ K X:=by
  obtain ⟨σ0,l,s,ts,Y,rfl,hL,hne,hs,ht,hlen,hK⟩:=h
  have hp:0 < s.length:=List.length_pos_iff.2 hne
  obtain ⟨ov,hl⟩:=hL.str
  have i0:∀ (x:Bytes) (K:AV->Prop),0 < x.length->indexD PS 9 (.pv (.str x)) (.pv (.int .i64 0)) K=K (.pv (.int .u8 (x.getD 0 0).toNat)):=fun x K hx=>T.is9 (i:=0) hx
  have hnb:=number_le s
  rw [<- S73_eq env,S73]
  simp (disch:=omega) only [go_sem,hl,ldM_cells,List.getElem?_cons_zero,i0 s _ hp,beq_iff_eq]
  rw [E.number]
  refine ⟨s,rfl,by omega,?_⟩
  unfold tokenS at hK
  generalize hc:s.getD 0 0=c at hK
  have j28:∀ (σ1:AS) (bb:Bool),LexAt σ0 σ1 l s ts Y->bb=(decide (1 < s.length) && listedS lTwos (s.take 2))->okK σ0 l Y K (opTok s ts)->J73_28 env (.addr l 0) (.pv (.int .u8 c.toNat)) (.pv (.bool bb)) σ1 K X:=by
    intro σ1 bb hL1 hbb hK
    unfold J73_28
    simp only [go_sem]
    unfold opTok at hK
    refine iteI (fun g1=>?_) (fun g1=>?_)
    · subst g1
      rw [<- hbb] at hK
      have hlt:1 < s.length:=by
        have:=hbb.symm
        rw [Bool.and_eq_true] at this
        exact of_decide_eq_true this.1
      simp only [if_true] at hK
      refine take_call E.take hL1 (n:=2) hlt ?_
      intro σ2 hL2
      exact put_call E.put hL2 (by omega) fun σ3 hL3=>retV_self (hK _ hL3)
    · rw [if_neg (by rw [<- hbb]; exact g1),hc] at hK
      rw [E.ixb]
      refine ⟨lOnes,c,rfl,?_⟩
      simp only [go_sem]
      refine iteI (fun g2=>?_) (fun g2=>?_)
      · rw [if_pos g2] at hK
        refine take_call E.take hL1 (n:=1) hp ?_
        intro σ2 hL2
        exact put_call E.put hL2 (by omega) fun σ3 hL3=>retV_self (hK _ hL3)
      · rw [if_neg g2] at hK
        exact retV_self (hK _ hL1.sep)
  have j21:∀ (σ1:AS) (bb:Bool),LexAt σ0 σ1 l s ts Y->bb=(decide (c.toNat=47) && !operandS ts)->okK σ0 l Y K (if c.toNat=47/\operandS ts=false then quoteTok 47 inEreS kEre s ts else if letterB c=true then nameS s ts else opTok s ts)->J73_21 env (.addr l 0) (.pv (.int .u8 c.toNat)) (.pv (.bool bb)) σ1 K X:=by
    intro σ1 bb hL1 hbb hK
    unfold J73_21
    simp only [go_sem]
    refine iteI (fun g1=>?_) (fun g1=>?_)
    · rw [hbb,Bool.and_eq_true,decide_eq_true_eq,Bool.not_eq_true'] at g1
      rw [if_pos g1] at hK
      refine take_call E.take hL1 (n:=1) hp ?_
      intro σ2 hL2
      have:=quote_call (env:=env) (X:=X) E.quoted E.put hL2 (f:=121) (q:=47) (z:=47) rfl (e:=inEreS) rfl (k:=kEre) (s:=s) (by omega) ht hK
      exact this
    · have g1':¬ (c.toNat=47/\operandS ts=false):=by
        intro h
        apply g1
        rw [hbb,h.2,decide_eq_true h.1]; rfl
      rw [if_neg g1'] at hK
      refine byte_call E.letter ?_
      simp only [go_sem]
      refine iteI (fun g2=>?_) (fun g2=>?_)
      · rw [if_pos g2] at hK
        rw [E.name]
        refine ⟨σ0,l,s,ts,Y,rfl,hL1,by omega,ht,?_⟩
        cases hn:nameS s ts with
        | none=>rw [hn] at hK; exact fun σ' h=>retV_self (hK σ' h)
        | some x=>obtain ⟨r,ts'⟩:=x; rw [hn] at hK; exact fun σ' h=>retV_self (hK σ' h)
      · rw [if_neg g2] at hK
        obtain ⟨ov1,hl1⟩:=hL1.str
        simp (disch:=omega) only [go_sem,hl1,ldM_cells,List.getElem?_cons_zero]
        refine iteI (fun g3=>?_) (fun g3=>?_)
        · have hsl:∀ K:AV->Prop,sliceD PS 9 (.pv (.str s)) none (some (.pv (.int .i64 2))) K=K (.pv (.str (s.take 2))):=fun K=>T.st9 (i:=2) (by omega)
          rw [hsl]
          refine listed_call E.listed (a:=lTwos) (by decide) (by rw [List.length_take]; omega) ?_
          exact j28 _ _ hL1 (by rw [decide_eq_true g3,Bool.true_and]) hK
        · exact j28 _ _ hL1 (by rw [decide_eq_false g3,Bool.false_and]) hK
  have j5:∀ bb:Bool,(bb=true ↔ (c.toNat=32 \/ c.toNat=9))->J73_5 env (.addr l 0) (.pv (.int .u8 c.toNat)) (.pv (.int .i64 (numberL s))) (.pv (.bool bb)) σ K X:=by
    intro bb hbb
    unfold J73_5
    simp only [go_sem]
    refine iteI (fun g1=>?_) (fun g1=>?_)
    · rw [if_pos (hbb.1 g1)] at hK
      exact take_call E.take hL (n:=1) hp fun σ2 hL2=>retV_self (hK _ hL2)
    rw [if_neg (fun h=>g1 (hbb.2 h))] at hK
    simp (disch:=omega) only [go_sem,hl,ldM_cells,List.getElem?_cons_zero]
    refine prefix_call E.pre (by omega) ?_
    simp only [go_sem,beq_iff_eq]
    refine iteI (fun g2=>?_) (fun g2=>?_)
    · rw [if_pos g2] at hK
      have h2:2 <= s.length:=by
        unfold Lib.hasPrefix at g2
        have:=(List.isPrefixOf_iff_prefix.1 g2).length_le
        simpa using this
      exact take_call E.take hL (n:=2) h2 fun σ2 hL2=>retV_self (hK _ hL2)
    rw [if_neg g2] at hK
    refine iteI (fun g3=>?_) (fun g3=>?_)
    · rw [if_pos g3] at hK
      simp (disch:=omega) only [go_sem,hl,ldM_cells,List.getElem?_cons_zero]
      refine span_call E.span (p:=lineB) rfl (by omega) ?_
      exact take_call E.take hL (span_le _ _) fun σ2 hL2=>retV_self (hK _ hL2)
    rw [if_neg g3] at hK
    refine iteI (fun g4=>?_) (fun g4=>?_)
    · rw [if_pos g4] at hK
      refine take_call E.take hL (n:=1) hp ?_
      intro σ2 hL2
      exact put_call E.put hL2 (by omega) fun σ3 hL3=>retV_self (hK _ hL3)
    rw [if_neg g4] at hK
    refine iteI (fun g5=>?_) (fun g5=>?_)
    · rw [if_pos g5] at hK
      refine take_call E.take hL hnb ?_
      intro σ2 hL2
      exact put_call E.put hL2 (by omega) fun σ3 hL3=>retV_self (hK _ hL3)
    rw [if_neg g5] at hK
    refine iteI (fun g6=>?_) (fun g6=>?_)
    · rw [if_pos g6] at hK
      refine take_call E.take hL (n:=1) hp ?_
      intro σ2 hL2
      have:=quote_call (env:=env) (X:=X) E.quoted E.put hL2 (f:=119) (q:=34) (z:=34) rfl (e:=inTextS) rfl (k:=kStr) (s:=s) (by omega) ht hK
      exact this
    rw [if_neg g6] at hK
    refine iteI (fun g7=>?_) (fun g7=>?_)
    · rw [E.operand]
      refine ⟨σ0,l,s,ts,Y,rfl,hL,by omega,hlen,?_⟩
      intro σ2 hL2
      simp only [go_sem]
      exact j21 _ _ hL2 (by rw [decide_eq_true g7,Bool.true_and]) hK
    · exact j21 _ _ hL (by rw [decide_eq_false g7,Bool.false_and]) hK
  refine iteI (fun g1=>j5 _ (by simp [g1])) (fun g1=>j5 _ ?_)
  simp [g1]
def lexV:Option (List Tok)->AV
  | none=>.tuple [.pv (.lst 0 []),.pv (.bool false)]
  | some ts=>.tuple [.pv (.lst ts.length (flatT ts)),.pv (.bool true)]
def T_Lex:Tr:=fun args σ K _=>∃ s:Bytes,args=[.pv (.str s)]/\∀ σ',σ.sub σ'->K (lexV (lexS s)) σ'
theorem quoted_len {q:UInt8} {e:Bytes->Bytes × Bytes} (he:∀ r,r ≠ []->(e r).1.length + (e r).2.length <= r.length + 1):∀ (f:Nat) (s acc:Bytes) (t r:Bytes),quotedS q e f s acc=some (t,r)->t.length + r.length <= acc.length + s.length
  | 0,s,acc,t,r,h=>by cases h
  | f + 1,s,acc,t,r,h=>by
    rw [quotedS] at h
    split at h
    · cases h
    rename_i hne
    have hp:0 < s.length:=List.length_pos_iff.2 hne
    have hd:(s.drop 1).length=s.length - 1:=by rw [List.length_drop]
    split at h
    · cases h
    split at h
    · simp only [Option.some.injEq,Prod.mk.injEq] at h
      rw [<- h.1,<- h.2]; omega
    split at h
    · have:=quoted_len he f _ _ _ _ h
      simp only [List.length_append,List.length_singleton] at this
      omega
    split at h
    · cases h
    · rename_i hr
      have:=quoted_len he f _ _ _ _ h
      have h2:=he (s.drop 1) hr
      simp only [List.length_append] at this
      omega
theorem token_texts {s:Bytes} {ts:List Tok} {r:Bytes} {ts':List Tok} (h:tokenS s ts=some (r,ts')):∀ t ∈ ts',t ∈ ts \/ t.2.length <= s.length:=by
  have one:∀ (k x:Bytes),x.length <= s.length->∀ t ∈ ts ++ [(k,x)],t ∈ ts \/ t.2.length <= s.length:=by
    intro k x hx t ht
    rcases List.mem_append.1 ht with ht | ht
    · exact .inl ht
    · have:t=(k,x):=by simpa using ht
      rw [this]; exact .inr hx
  have tk:∀ n,(s.take n).length <= s.length:=fun n=>by rw [List.length_take]; omega
  have qt:∀ q e k,(∀ r,r ≠ []->(e r).1.length + (e r).2.length <= r.length + 1)->quoteTok q e k s ts=some (r,ts')->∀ t ∈ ts',t ∈ ts \/ t.2.length <= s.length:=by
    intro q e k he h
    unfold quoteTok at h
    split at h
    · cases h
    · rename_i t r' hq
      have:=quoted_len he _ _ _ _ _ hq
      rw [List.length_drop] at this
      simp only [Option.some.injEq,Prod.mk.injEq] at h
      rw [<- h.2]
      exact one _ _ (by simp only [List.length_nil] at this; omega)
  unfold tokenS at h
  split at h
  · simp only [Option.some.injEq,Prod.mk.injEq] at h
    rw [<- h.2]; exact fun t ht=>.inl ht
  split at h
  · simp only [Option.some.injEq,Prod.mk.injEq] at h
    rw [<- h.2]; exact fun t ht=>.inl ht
  split at h
  · simp only [Option.some.injEq,Prod.mk.injEq] at h
    rw [<- h.2]; exact fun t ht=>.inl ht
  split at h
  · simp only [Option.some.injEq,Prod.mk.injEq] at h
    rw [<- h.2]; exact one _ _ (Nat.zero_le _)
  split at h
  · simp only [Option.some.injEq,Prod.mk.injEq] at h
    rw [<- h.2]; exact one _ _ (tk _)
  split at h
  · exact qt _ _ _ inText_sum h
  split at h
  · exact qt _ _ _ inEre_sum h
  split at h
  · unfold nameS at h
    split at h
    · cases h
    · simp only [Option.some.injEq,Prod.mk.injEq] at h
      rw [<- h.2]; exact one _ _ (tk _)
  · unfold opTok at h
    split at h
    · simp only [Option.some.injEq,Prod.mk.injEq] at h
      rw [<- h.2]; exact one _ _ (tk _)
    · split at h
      · simp only [Option.some.injEq,Prod.mk.injEq] at h
        rw [<- h.2]; exact one _ _ (tk _)
      · cases h
def lexI (σ0:AS) (l:Nat) (Q:Option (List Tok)):Option (Bytes × List Tok)->AS->Prop
  | none,τ=>Q=none/\∃ L,Sep σ0 τ L
  | some (s,ts),τ=>LexAt σ0 τ l s ts []/\s.length <= 65536/\ts.length <= 20000/\(∀ t ∈ ts,t.2.length <= 65536)/\∃ n,s.length < n/\Q=lexL n s ts
def lexM:Option (Bytes × List Tok)->Nat
  | none=>0
  | some (s,_)=>s.length + 1
theorem T_Lex_ok (h1:env 73=T_token) (h:T_Lex args σ K X):bodyD PS env an34 Tryz.f34 args σ K X:=by
  obtain ⟨s0,rfl,hK⟩:=h
  rw [<- S34_eq env,S34]
  have bd:∀ (K:AV->Prop),buildD PS 123 [(0,.pv (.str s0))] K=K (.agg [.pv (.str s0),.nilS]):=by
    intro K
    simp [buildD,buildFill,go_sem,AV.cells,AV.cellOk,setAll]
  simp only [lock_eq,bd]
  refine ⟨rfl,?_⟩
  intro l hl0
  have hL0:LexAt σ (σ.set l (.cells [.pv (.str s0),.nilS] none)) l s0 [] []:=⟨.nilS,[],RowV.nil PS 53,by simpa using (Sep.start σ).alloc hl0 (.cells [.pv (.str s0),.nilS] none)⟩
  simp (disch:=omega) only [go_sem,AV.cells]
  generalize hQ:lexS s0=Q at hK
  have fin:∀ (τ:AS) (a:Option (Bytes × List Tok)),(a=none->Q=none)->(∀ s ts,a=some (s,ts)->LexAt σ τ l s ts []/\Q=some ts)->(∃ L,Sep σ τ L)->J34_5 env (.addr l 0) (.pv (.bool a.isSome)) τ K X:=by
    intro τ a ha1 ha2 hsep
    obtain ⟨L,hL⟩:=hsep
    unfold J34_5
    cases a with
    | none =>
      simp only [go_sem,Option.isSome_none,Bool.not_false,if_true]
      have:=hK τ hL.sub
      rw [ha1 rfl] at this
      exact ⟨lexV none,τ,.inr ⟨.inr ⟨_,rfl,rfl⟩,.inl rfl,trivial⟩,sub_refl _,this⟩
    | some x =>
      obtain ⟨s,ts⟩:=x
      obtain ⟨hLx,hq⟩:=ha2 s ts rfl
      obtain ⟨ov,ol,hR,hS⟩:=hLx
      have hl:τ l=some (.cells [.pv (.str s),ov] none):=hS.get (by simp)
      simp (disch:=omega) only [go_sem,Option.isSome_some,Bool.not_true,Bool.false_eq_true,if_false,hl,ldM_cells,List.getElem?_cons_zero,List.getElem?_cons_succ]
      have:=hK τ hL.sub
      rw [hq] at this
      exact ⟨lexV (some ts),τ,.inr ⟨.inr ⟨_,hR.toPV,rfl⟩,.inl rfl,trivial⟩,sub_refl _,this⟩
  have start:∃ a,lexI σ l Q a (σ.set l (.cells [.pv (.str s0),.nilS] none))/\(decide (s0.length <= 65536))=a.isSome:=by
    by_cases h:s0.length <= 65536
    · exact ⟨some (s0,[]),⟨hL0,h,by simp,by simp,s0.length + 1,Nat.lt_succ_self _,by rw [<- hQ,lexS,if_pos h]⟩,by simp [h]⟩
    · refine ⟨none,⟨by rw [<- hQ,lexS,if_neg h],?_⟩,by simp [h]⟩
      obtain ⟨L,hS⟩:=hL0.sep
      exact ⟨_,hS⟩
  obtain ⟨a0,hI0,ha0⟩:=start
  rw [ha0]
  refine lp34_3 (fun (a:Option (Bytes × List Tok)) _=>lexM a) (fun a τ=>lexI σ l Q a τ) (fun a=>.pv (.bool a.isSome)) a0 hI0 ?_
  rintro a τ hI
  unfold L34_3
  cases a with
  | none =>
    simp only [go_sem,Option.isSome_none,Bool.false_eq_true,if_false]
    exact fin τ none (fun _=>hI.1) (fun s ts h=>by cases h) hI.2
  | some x =>
    obtain ⟨s,ts⟩:=x
    obtain ⟨hLx,hsl,htl,htt,n,hn,hq⟩:=hI
    obtain ⟨ov,hl⟩:=hLx.str
    obtain ⟨n,rfl⟩:∃ m,n=m + 1:=⟨n - 1,by omega⟩
    rw [lexL] at hq
    simp (disch:=omega) only [go_sem,Option.isSome_some,if_true,hl,ldM_cells,List.getElem?_cons_zero,bne,Bool.not_eq_true',beq_eq_false_iff_ne,ne_eq]
    refine iteI (fun g1=>?_) (fun g1=>?_)
    · rw [if_neg g1] at hq
      unfold J34_4
      rw [h1]
      refine ⟨σ,l,s,ts,[],rfl,hLx,g1,by omega,by omega,fun t ht=>Nat.le_trans (htt t ht) (by decide),?_⟩
      cases ht:tokenS s ts with
      | none =>
        rw [ht] at hq
        intro σ' hsep
        simp only [go_sem,Bool.false_eq_true,if_false]
        obtain ⟨L,hS⟩:=hsep
        exact back none rfl (by show 0 < s.length + 1; omega) ⟨hq,_,hS⟩
      | some x =>
        obtain ⟨r,ts'⟩:=x
        rw [ht] at hq
        simp only at hq
        intro σ' hL'
        obtain ⟨t1,t2⟩:=token_le g1 ht
        have t3:=token_texts ht
        obtain ⟨ov',ol',hR',hS'⟩:=id hL'
        have hl':σ' l=some (.cells [.pv (.str r),ov'] none):=hS'.get (by simp)
        simp (disch:=omega) only [go_sem,if_true,hl',ldM_cells,List.getElem?_cons_zero,List.getElem?_cons_succ,T.lnv42 hR'.toPV]
        by_cases h2:ts'.length <= 20000
        · rw [if_pos h2] at hq
          refine back (some (r,ts')) (by simp [h2]) (by show r.length + 1 < s.length + 1; omega) ⟨hL',by omega,h2,?_,n,by omega,hq⟩
          intro t ht'
          rcases t3 t ht' with h | h
          · exact htt t h
          · omega
        · rw [if_neg h2] at hq
          obtain ⟨L,hS⟩:=hL'.sep
          exact back none (by simp [h2]) (by show 0 < s.length + 1; omega) ⟨hq,_,hS⟩
    · have g1:s=[]:=by simpa using g1
      rw [if_pos g1] at hq
      obtain ⟨L,hS⟩:=hLx.sep
      exact fin τ (some (s,ts)) (fun h=>by cases h) (fun s' ts' h=>by cases h; exact ⟨hLx,hq⟩) ⟨_,hS⟩
end
end Go.AD.Lx

set_option linter.unusedVariables false
namespace Go.AD.Lx
open Go.Proofs
abbrev HM:Prop:=Go.Proofs.Tryz.prog.follows .mixedOrders=true
def envL1:Env:=(((((env0.add 178 T_copyCheck).add 154 T_Str).add 24 (strT2 fun s t=>.pv (.bool (Lib.contains s t)))).add 114 (strT2 fun s t=>.pv (.bool (Lib.hasPrefix s t)))).add 125 T_IndexByte)
theorem envL1_ok (hm:HM):EnvOk PS envL1:=EnvOk.add (EnvOk.add (EnvOk.add (EnvOk.add (EnvOk.add (env0_ok PS) (F_copyCheck)) (F_Str)) (F_Contains)) (F_HasPrefix)) (F_IndexByte)
theorem F_WriteByte (hm:HM):SoundF PS 155 T_WriteByte:=body_sound hm (envL1_ok hm) an155 Tryz.func155 Tryz.call155 S155_ok (fun args σ K X h=>(T_WriteByte_ok rfl args σ K X h))
theorem F_digit (hm:HM):SoundF PS 152 (byteT digitB):=body_sound hm (envL1_ok hm) an152 Tryz.func152 Tryz.call152 S152_ok (fun args σ K X h=>(T_digit_ok args σ K X h))
theorem F_octal (hm:HM):SoundF PS 156 (byteT octalB):=body_sound hm (envL1_ok hm) an156 Tryz.func156 Tryz.call156 S156_ok (fun args σ K X h=>(T_octal_ok args σ K X h))
theorem F_letter (hm:HM):SoundF PS 122 (byteT letterB):=body_sound hm (envL1_ok hm) an122 Tryz.func122 Tryz.call122 S122_ok (fun args σ K X h=>(T_letter_ok args σ K X h))
theorem F_token1 (hm:HM):SoundF PS 116 (byteT lineB):=body_sound hm (envL1_ok hm) an116 Tryz.func116 Tryz.call116 S116_ok (fun args σ K X h=>(T_token1_ok args σ K X h))
def envL2:Env:=(((((envL1.add 155 T_WriteByte).add 152 (byteT digitB)).add 156 (byteT octalB)).add 122 (byteT letterB)).add 116 (byteT lineB))
theorem envL2_ok (hm:HM):EnvOk PS envL2:=EnvOk.add (EnvOk.add (EnvOk.add (EnvOk.add (EnvOk.add (envL1_ok hm) (F_WriteByte hm)) (F_digit hm)) (F_octal hm)) (F_letter hm)) (F_token1 hm)
theorem F_inner (hm:HM):SoundF PS 157 (byteT innerB):=body_sound hm (envL2_ok hm) an157 Tryz.func157 Tryz.call157 S157_ok (fun args σ K X h=>(T_inner_ok rfl rfl args σ K X h))
def envL3:Env:=(envL2.add 157 (byteT innerB))
theorem envL3_ok (hm:HM):EnvOk PS envL3:=EnvOk.add (envL2_ok hm) (F_inner hm)
theorem F_span (hm:HM):SoundF PS 115 T_span:=body_sound hm (envL3_ok hm) an115 Tryz.func115 Tryz.call115 S115_ok (fun args σ K X h=>(T_span_ok ⟨rfl,rfl,rfl,rfl⟩ args σ K X h))
theorem F_listed (hm:HM):SoundF PS 124 T_listed:=body_sound hm (envL3_ok hm) an124 Tryz.func124 Tryz.call124 S124_ok (fun args σ K X h=>(T_listed_ok rfl args σ K X h))
theorem F_take (hm:HM):SoundF PS 113 T_take:=body_sound hm (envL3_ok hm) an113 Tryz.func113 Tryz.call113 S113_ok (fun args σ K X h=>T_take_ok h)
theorem F_put (hm:HM):SoundF PS 117 T_put:=body_sound hm (envL3_ok hm) an117 Tryz.func117 Tryz.call117 S117_ok (fun args σ K X h=>T_put_ok h)
def envL4:Env:=((((envL3.add 115 T_span).add 124 T_listed).add 113 T_take).add 117 T_put)
theorem envL4_ok (hm:HM):EnvOk PS envL4:=EnvOk.add (EnvOk.add (EnvOk.add (EnvOk.add (envL3_ok hm) (F_span hm)) (F_listed hm)) (F_take hm)) (F_put hm)
theorem F_number (hm:HM):SoundF PS 112 T_number:=body_sound hm (envL4_ok hm) an112 Tryz.func112 Tryz.call112 S112_ok (fun args σ K X h=>(T_number_ok rfl args σ K X h))
theorem F_operand (hm:HM):SoundF PS 120 T_operand:=body_sound hm (envL4_ok hm) an120 Tryz.func120 Tryz.call120 S120_ok (fun args σ K X h=>(T_operand_ok rfl h))
theorem F_name (hm:HM):SoundF PS 123 T_name:=body_sound hm (envL4_ok hm) an123 Tryz.func123 Tryz.call123 S123_ok (fun args σ K X h=>(T_name_ok rfl rfl rfl rfl rfl h))
theorem F_inText (hm:HM):SoundF PS 119 (T_esc inTextS):=body_sound hm (envL4_ok hm) an119 Tryz.func119 Tryz.call119 S119_ok (fun args σ K X h=>(T_inText_ok rfl rfl rfl rfl h))
theorem F_inEre (hm:HM):SoundF PS 121 (T_esc inEreS):=body_sound hm (envL4_ok hm) an121 Tryz.func121 Tryz.call121 S121_ok (fun args σ K X h=>(T_inEre_ok rfl rfl h))
def envL5:Env:=(((((envL4.add 112 T_number).add 120 T_operand).add 123 T_name).add 119 (T_esc inTextS)).add 121 (T_esc inEreS))
theorem envL5_ok (hm:HM):EnvOk PS envL5:=EnvOk.add (EnvOk.add (EnvOk.add (EnvOk.add (EnvOk.add (envL4_ok hm) (F_number hm)) (F_operand hm)) (F_name hm)) (F_inText hm)) (F_inEre hm)
theorem F_quoted (hm:HM):SoundF PS 118 T_quoted:=body_sound hm (envL5_ok hm) an118 Tryz.func118 Tryz.call118 S118_ok (fun args σ K X h=>(T_quoted_ok rfl rfl rfl rfl rfl h))
def envL6:Env:=(envL5.add 118 T_quoted)
theorem envL6_ok (hm:HM):EnvOk PS envL6:=EnvOk.add (envL5_ok hm) (F_quoted hm)
theorem F_token (hm:HM):SoundF PS 73 T_token:=body_sound hm (envL6_ok hm) an73 Tryz.func73 Tryz.call73 S73_ok (fun args σ K X h=>(T_token_ok ⟨rfl,rfl,rfl,rfl,rfl,rfl,rfl,rfl,rfl,rfl,rfl⟩ h))
def envL7:Env:=(envL6.add 73 T_token)
theorem envL7_ok (hm:HM):EnvOk PS envL7:=EnvOk.add (envL6_ok hm) (F_token hm)
theorem F_Lex (hm:HM):SoundF PS 34 T_Lex:=body_sound hm (envL7_ok hm) an34 Tryz.func34 Tryz.call34 S34_ok (fun args σ K X h=>(T_Lex_ok rfl h))
end Go.AD.Lx

set_option linter.unusedVariables false
set_option linter.unusedSimpArgs false
namespace Go.AD
open RowKit
section
variable {P:Program} {w0 w:World} {ρ ρ':Gh} {σ:AS}
theorem RelH.freeze (H:RelH w0 ρ σ w) {id n size:Nat} {cs:List AV} {var:Option TypeId} {ps:List PV} (ho:σ id=some (.cells cs var)) (hp:toPVs (cs.take (n * size))=some ps) {u:Value} (hu:RelV ρ (.msl id 0 n size) u) :
    ∃ ρ',ρ.le ρ'/\RelH w0 ρ' (σ.del id) w/\RelV ρ' (.pv (.lst n ps)) u:=by
  obtain ⟨b,o,m,cur,e,fz,hl,hB,hb,hf,hs,hle,hok,hr,hi,hvar⟩:=H.obj id _ ho
  cases hu with
  | msl _ _ _ _ b' o' m' cap hl' hn hc hm =>
    rw [hl] at hl'
    cases hl'
    have hr2:=hr.take (n * size)
    have hlen:=hr2.1
    generalize hvs:((cur.toList.drop o).take cs.length).take (n * size)=vs at hr2 hlen
    have hrp:=toPVs_rel hr2 hp
    have hle1:ρ.le (ρ.ext b o vs):=Gh.le_ext (fun o' v h _=>hi o' v h)
    have hcell:∀ i v,vs[i]?=some v->w.cell? ⟨b,o + i,none⟩=some v:=by
      intro i v hv
      rw [<- hvs,List.getElem?_take] at hv
      split at hv
      · rw [List.getElem?_take] at hv
        split at hv
        · rw [List.getElem?_drop] at hv
          unfold World.cell?
          simp only [hb]
          simpa using hv
        · cases hv
      · cases hv
    refine ⟨ρ.ext b o vs,hle1,?_,?_⟩
    · have hsub:(σ.del id).sub σ:=fun j oj hj=>by
        unfold AS.del at hj
        split at hj
        · cases hj
        · exact hj
      refine RelH.keep (H.sub hsub) hle1 H.below ?_ ?_ ?_
      · intro b' o' v hv
        rcases Gh.ext_inv hv with ⟨rfl,h1,h2,h3⟩ | h
        · have:=hcell _ _ h3
          rwa [Nat.add_sub_cancel' h1] at this
        · exact H.imm _ _ _ h
      · intro j oj b' hj hbj
        have hne:j ≠ id:=by
          rintro rfl
          rw [del_same] at hj
          cases hj
        have hjσ:=hsub j oj hj
        refine ⟨rfl,fun p=>?_,fun k=>rfl⟩
        refine Gh.ext_other ρ b o vs ?_ p
        rintro rfl
        exact hne (H.apart j id oj _ hjσ ho (by rw [hbj]; simp [blkOf,hl]))
      · obtain ⟨N,hN⟩:=(H.sub hsub).bound
        exact ⟨N,fun j hj=>hN j hj⟩
    · refine .pv (.lst n ps _ cap b o vs hn (.inr (by simp)) hrp.1 (Gh.ext_at ρ b o vs) (fun i hi=>(hrp.2 i hi).mono hle1.imm))
def frzK (K:AV->AS->Prop):AV->AS->Prop:=fun r σ=>K r σ \/ ∃ (id n size:Nat) (cs:List AV) (var:Option TypeId) (ps:List PV) (rest:List AV),r=.tuple (.msl id 0 n size :: rest)/\σ id=some (.cells cs var)/\toPVs (cs.take (n * size))=some ps/\K (.tuple (.pv (.lst n ps) :: rest)) (σ.del id)
theorem SoundF.frz {f:FuncId} {T:Tr} (S:SoundF P f (fun args σ K' X=>∃ K,K'=frzK K/\T args σ K X)):SoundF P f T:=by
  intro w0 hS ρ σ w args us K X H hr h
  obtain ⟨h1,h2⟩:=S w0 hS ρ σ w args us (frzK K) X H hr ⟨K,rfl,h⟩
  refine ⟨h1,h2.mono fun e w' hh=>?_⟩
  obtain ⟨ρ',σ',hle,H',hh⟩:=hh
  cases e with
  | returned u =>
    obtain ⟨r,hru,hk | ⟨id,n,size,cs,var,ps,rest,rfl,ho,hp,hk⟩⟩:=hh
    · exact ⟨ρ',σ',hle,H',r,hru,hk⟩
    · obtain ⟨vs,rfl,hvs⟩:=inv_tuple hru
      obtain ⟨v0,vs',rfl,hv0,hvr⟩:=hvs.uncons
      obtain ⟨ρ2,hle2,H2,hv2⟩:=H'.freeze ho hp hv0
      exact ⟨ρ2,σ'.del id,Gh.le_trans hle hle2,H2,_,RelV.of_tuple (.cons hv2 (hvr.mono hle2)),hk⟩
  | panicked ch=>exact ⟨ρ',σ',hle,H',hh⟩
  | outgrown=>exact hh.elim
end
end Go.AD

set_option linter.unusedVariables false
set_option linter.unusedSimpArgs false
namespace Go.AD
open RowKit
abbrev TrD:=List AV->AS->Option PV->(AS->Prop)->Prop
def SoundDef (P:Program) (g:FuncId) (T:TrD):Prop:=∀ (w0:World),Ready P w0->∀ (ρ:Gh) (σ:AS) (w:World) (args:List AV) (us:List Value) (K:AS->Prop),RelH w0 ρ σ w->RelL ρ args us ->
  (T args σ none K->CallsD P g us.toArray .returning w fun e u' w'=>(∃ v,e=.returned v)/\u'=.returning/\∃ ρ' σ',ρ.le ρ'/\RelH w0 ρ' σ' w'/\K σ') /\
  ∀ p u,RelP ρ.imm p u->T args σ (some p) K->CallsD P g us.toArray (.panicking [{ v:=u,recovered:=false }]) w fun e u' w'=>(∃ v,e=.returned v)/\u'=.panicking [{ v:=u,recovered:=true }]/\∃ ρ' σ',ρ.le ρ'/\RelH w0 ρ' σ' w'/\K σ'
def closeQ (K:AS->Prop):AEx->Fr->AS->Prop:=fun e _ σ=>match e with
  | .normal | .ret=>K σ
  | _=>False
section
variable {P:Program} {env:Env}
def doorQ (P:Program) (fn:Func) (T:TrD) (caps:List AV) (K:AV->AS->Prop):AEx->Fr->AS->Prop:=fun e fr σ=>match e with
  | .normal | .ret=>T caps σ none fun σ=>retD P fn K fr σ
  | .panic p=>T caps σ (some p) fun σ=>retD P fn K fr σ
  | _=>False
def midQ (P:Program) (env:Env) (an:An) (fn:Func) (T:TrD) (c2:Code) (t:Nat) (caps:List Operand) (K:AV->AS->Prop):AEx->Fr->AS->Prop:=fun e fr σ=>match e with
  | .normal=>wpD P env an c2 (doorQ P fn T (evs fr caps) K) (fr.put (some t) .undef) σ
  | _=>False
def deferD (P:Program) (env:Env) (an:An) (fn:Func) (T:TrD) (c1 c2:Code) (t:Nat) (caps:List Operand):Tr:=fun args σ K _ =>
  args.length <= fn.ntmps/\wpD P env an c1 (midQ P env an fn T c2 t caps K) (frOf 0 args) σ
theorem RelL.mono' {ρ ρ':Gh} (hm:ρ.le ρ') {az:List AV} {us:List Value} (h:RelL ρ az us):RelL ρ' az us:=⟨h.1,fun i hi=>(h.2 i hi).mono hm⟩
theorem defer_sound (hm:P.follows .mixedOrders=true) (E:EnvOk P env) (an:An) {f g:FuncId} {fn:Func} {c1 c2:Code} {id t:Nat} {o1 o2:Oper} {caps:List Operand} (hf:P.funcs[f]?=some fn) (hcall:∀ (args:Array Value) (w:World),(callFunc f args).run P w=.ok (.enter f args) w) (hcg:∀ (args:Array Value) (w:World),(callFunc g args).run P w=.ok (.enter g args) w)
    (hb:fn.body=some (.seq c1 (.seq (.region id #[o1,o2] false) c2))) (hg1:o1.guard=none) (hg2:o2.guard=none) (hd1:o1.dst=some t) (hd2:o2.dst=none) (ht:t < fn.ntmps)
    (ho1:∀ (a:Act) (w:World),(execOp a.eval o1).run P w=.ok (.value (.func (.func g) #[] (caps.map a.eval).toArray)) w)
    (ho2:∀ (a:Act) (w:World) (v:Array Value),a.tmps.getD t undef=.func (.func g) #[] v->(execOp a.eval o2).run P w=.ok (.defer { target:=.fn (.func g) v,args:=#[] }) w)
    (hok1:okCode an P fn.ntmps c1=true) (hok2:okCode an P fn.ntmps c2=true) {T:TrD} (hT:SoundDef P g T) {T':Tr} (hT':∀ args σ K X,T' args σ K X->deferD P env an fn T c1 c2 t caps args σ K X):SoundF P f T':=by
  intro w0 hS ρ σ w args us K X H hr h
  refine ⟨hcall _ w,?_⟩
  obtain ⟨hn,h⟩:=hT' _ _ _ _ h
  refine calls_of_wp_defers hf hb ?_
  refine wp_seq (code_sound hm E hS an fn.ntmps [] c1 hok1 h H (frOf_rel hr _ hn []) rfl ?_)
  rintro e a w1 ⟨ρ1,fr1,σ1,e1,h1,H1,F1,hd,h5,h6⟩
  cases h5 with
  | normal =>
    have h6:wpD P env an c2 (doorQ P fn T (evs fr1 caps) K) (fr1.put (some t) .undef) σ1:=h6
    have hcv:RelL ρ1 (evs fr1 caps) (caps.map a.eval):=evs_rel F1 caps
    have hput:∀ d,(some t:Option Nat)=some d->d < fn.ntmps:=fun d hd=>by cases hd; exact ht
    show (Code.seq (.region id #[o1,o2] false) c2).wp P _ a w1
    refine wp_seq (wp_region ?_)
    have hl:List.range (#[o1,o2]:Array Oper).size=[0,1]:=rfl
    have e0:(#[o1,o2]:Array Oper)[0]?=some o1:=rfl
    have e1:(#[o1,o2]:Array Oper)[1]?=some o2:=rfl
    have hw1:∀ tm,Region.wanted o1 (yielded #[o1,o2] tm)=true:=fun a=>by unfold Region.wanted; rw [hg1]
    have hw2:∀ tm,Region.wanted o2 (yielded #[o1,o2] tm)=true:=fun a=>by unfold Region.wanted; rw [hg2]
    rw [hl]
    simp only [wpOps,e0,e1,hw1,hw2,if_true]
    refine .inl ?_
    unfold Oper.wp
    rw [ho1]
    show (o2.upon P (a.put o1.dst _) _ _ _) \/ _
    rw [hd1]
    refine .inl ?_
    have hat:(a.put (some t) (.func (.func g) #[] (caps.map a.eval).toArray)).tmps.getD t undef=.func (.func g) #[] (caps.map a.eval).toArray:=by
      have hsz:=F1.size
      simp [Act.put,hsz,ht]
    rw [ho2 _ _ _ hat]
    show c2.wp P (bodyPostD P fn _) (Act.put _ o2.dst _) w1
    rw [hd2]
    have F2:=F1.put hput (v:=.undef) (u:=.func (.func g) #[] (caps.map a.eval).toArray) (.undef _)
    refine code_sound hm E hS an fn.ntmps [{ target:=.fn (.func g) (caps.map a.eval).toArray,args:=#[] }] c2 hok2 h6 H1 (a:=_) ⟨F2.size,F2.get⟩ (by show _ :: _=_; rw [put_defers,hd]) ?_
    rintro e a2 w2 ⟨ρ2,fr2,σ2,e2,k1,H2,F3,hd',k5,k6⟩
    have fin:∀ (u:FrameMode) (w3:World) (ρ3:Gh) (σ3:AS),ρ2.le ρ3->RelH w0 ρ3 σ3 w3->retD P fn K fr2 σ3->∃ v,(results fn a2.tmps).run P w3=.ok v w3/\∃ ρ' σ',ρ.le ρ'/\RelH w0 ρ' σ' w3/\∃ r,RelV ρ' r v/\K r σ':=by
      intro u w3 ρ3 σ3 l3 H3 hk
      obtain ⟨r,u,σ4,m1,m2,m3,m4⟩:=ret_sound hS H3 (F3.mono l3) fn hk
      exact ⟨u,m1,ρ3,σ4,Gh.le_trans h1 (Gh.le_trans k1 l3),H3.sub m3,r,m2,m4⟩
    have hcv2:=hcv.mono' k1
    have hinv:(invoke (.fn (.func g) (caps.map a.eval).toArray) #[]).run P w2=.ok (.enter g (caps.map a.eval).toArray) w2:=by
      have:=hcg (#[] ++ (caps.map a.eval).toArray) w2
      rw [Array.empty_append] at this
      simp only [invoke,Array.empty_append]
      exact this
    cases k5 with
    | normal =>
      have hk:T (evs fr1 caps) σ2 none (fun σ=>retD P fn K fr2 σ):=k6
      show Leaves P fn a2.tmps _ a2.defers .returning w2
      rw [hd']
      refine ⟨by simp,.func g,_,g,_,rfl,hinv,?_⟩
      intro c cs hc
      obtain ⟨e,u',w3,frx,⟨⟨v,rfl⟩,rfl,ρ3,σ3,l3,H3,k3⟩,q1,q2,q3⟩:=(hT w0 hS ρ2 σ2 w2 _ _ _ H2 hcv2).1 hk c cs hc
      exact ⟨_,_,w3,frx,fin .returning w3 ρ3 σ3 l3 H3 k3,q1,q2,q3⟩
    | ret =>
      have hk:T (evs fr1 caps) σ2 none (fun σ=>retD P fn K fr2 σ):=k6
      show Leaves P fn a2.tmps _ a2.defers .returning w2
      rw [hd']
      refine ⟨by simp,.func g,_,g,_,rfl,hinv,?_⟩
      intro c cs hc
      obtain ⟨e,u',w3,frx,⟨⟨v,rfl⟩,rfl,ρ3,σ3,l3,H3,k3⟩,q1,q2,q3⟩:=(hT w0 hS ρ2 σ2 w2 _ _ _ H2 hcv2).1 hk c cs hc
      exact ⟨_,_,w3,frx,fin .returning w3 ρ3 σ3 l3 H3 k3,q1,q2,q3⟩
    | panic p u hp =>
      have hk:T (evs fr1 caps) σ2 (some p) (fun σ=>retD P fn K fr2 σ):=k6
      show Leaves P fn a2.tmps _ a2.defers (.panicking _) w2
      rw [hd']
      refine ⟨by simp,.func g,_,g,_,rfl,hinv,?_⟩
      intro c cs hc
      obtain ⟨e,u',w3,frx,⟨⟨v,rfl⟩,rfl,ρ3,σ3,l3,H3,k3⟩,q1,q2,q3⟩:=(hT w0 hS ρ2 σ2 w2 _ _ _ H2 hcv2).2 p u hp hk c cs hc
      exact ⟨_,_,w3,frx,fin .returning w3 ρ3 σ3 l3 H3 k3,q1,q2,q3⟩
    | exit id=>exact k6.elim
    | goto l=>exact k6.elim
  | ret=>exact h6.elim
  | panic p u hp=>exact h6.elim
  | exit id=>exact h6.elim
  | goto l=>exact h6.elim
end
end Go.AD

set_option linter.unusedVariables false
set_option linter.unusedSimpArgs false
namespace Go.AD
open RowKit
section
variable {P:Program} {env:Env}
def closureD2 (P:Program) (env:Env) (an:An) (c2:Code) (slot slot2:Nat) (args:List AV) (σ:AS) (r:Option PV) (K:AS->Prop):Prop :=
  wpD P env an c2 (closeQ K) (((frOf 0 args).put (some slot) (match r with | none=>.pv .nilIface | some p=>.pv p)).put (some slot2) (match r with | none=>.pv .nilIface | some p=>.pv p)) σ
theorem at_put {a:Act} {t:Nat} {v:Value} (h:t < a.tmps.size):(a.put (some t) v).tmps.getD t undef=v:=by
  simp [Act.put,h]
theorem closure_sound2 (hm:P.follows .mixedOrders=true) (E:EnvOk P env) (an:An) {g:FuncId} {fn:Func} {id:Nat} {o o':Oper} {c2:Code} {slot slot2:Nat} (hg:P.funcs[g]?=some fn) (hb:fn.body=some (.seq (.region id #[o,o'] false) c2)) (hgd:o.guard=none) (hgd':o'.guard=none) (hdst:o.dst=some slot) (hdst':o'.dst=some slot2) (hslot:slot < fn.ntmps) (hslot':slot2 < fn.ntmps)
    (hrec:∀ (a:Act) (w:World),(execOp a.eval o).run P w=.ok .recover w) (hasg:∀ (a:Act) (w:World),(execOp a.eval o').run P w=.ok (.value (a.tmps.getD slot undef)) w) (hres:fn.results=#[]) (hok:okCode an P fn.ntmps c2=true) {T:TrD} (hT:∀ args σ r K,T args σ r K->args.length <= fn.ntmps/\closureD2 P env an c2 slot slot2 args σ r K):SoundDef P g T:=by
  intro w0 hS ρ σ w args us K H hr
  have hput:∀ d,(some slot:Option Nat)=some d->d < fn.ntmps:=fun d hd=>by cases hd; exact hslot
  have hput':∀ d,(some slot2:Option Nat)=some d->d < fn.ntmps:=fun d hd=>by cases hd; exact hslot'
  have hwant:∀ tm,Region.wanted o (yielded #[o,o'] tm)=true:=fun a=>by unfold Region.wanted; rw [hgd]
  have hwant':∀ tm,Region.wanted o' (yielded #[o,o'] tm)=true:=fun a=>by unfold Region.wanted; rw [hgd']
  have hl:List.range (#[o,o']:Array Oper).size=[0,1]:=rfl
  have e0:(#[o,o']:Array Oper)[0]?=some o:=rfl
  have e1:(#[o,o']:Array Oper)[1]?=some o':=rfl
  have hrv:∀ (a:Act) (w:World),(results fn a.tmps).run P w=.ok (.tuple #[]) w:=by
    intro a w
    rw [results_eq,hres]
    simp
  refine ⟨fun h=>?_,fun p u hp h=>?_⟩
  · obtain ⟨hn,h⟩:=hT _ _ _ _ h
    refine callsD_of_wpS hg hb fun c0 cs hu=>?_
    refine wpS_seq (wpS_region ?_)
    rw [hl]
    simp only [wpOpsS,e0,e1,hwant,hwant',if_true,hrec,hasg]
    have er:recoverD (c0 :: cs)=none:=by simp [recoverD,hu]
    rw [er]
    simp only [Exit.thenS,hdst,hdst',hasg,Oper.upon]
    have F0:=frOf_rel hr _ hn []
    have F1:=F0.put hput (v:=.pv .nilIface) (u:=.nilIface) (.pv .nilIface)
    rw [at_put (by have:=F0.size; rw [this]; exact hslot)]
    have h:wpD P env an c2 (closeQ K) (((frOf 0 args).put (some slot) (.pv .nilIface)).put (some slot2) (.pv .nilIface)) σ:=h
    refine wpS_of_wp (code_sound hm E hS an fn.ntmps [] c2 hok h H (F1.put hput' (.pv .nilIface)) rfl ?_)
    rintro e a w' ⟨ρ',fr,σ',e',h1,h2,h3,h4,h5,h6⟩
    have hc:c0 :: cs={ c0 with mode:=.returning } :: cs:=by rw [<- hu]
    cases h5 with
    | normal=>exact ⟨h4,_,hc,_,hrv a w',⟨_,rfl⟩,rfl,ρ',σ',h1,h2,h6⟩
    | ret=>exact ⟨h4,_,hc,_,hrv a w',⟨_,rfl⟩,rfl,ρ',σ',h1,h2,h6⟩
    | panic p u hp=>exact h6.elim
    | exit id=>exact h6.elim
    | goto l=>exact h6.elim
  · obtain ⟨hn,h⟩:=hT _ _ _ _ h
    refine callsD_of_wpS hg hb fun c0 cs hu=>?_
    refine wpS_seq (wpS_region ?_)
    rw [hl]
    simp only [wpOpsS,e0,e1,hwant,hwant',if_true,hrec,hasg]
    have er:recoverD (c0 :: cs)=some (u,{ c0 with mode:=.panicking [{ v:=u,recovered:=true }] } :: cs):=by simp [recoverD,hu]
    rw [er]
    simp only [Exit.thenS,hdst,hdst',hasg,Oper.upon]
    have F0:=frOf_rel hr _ hn []
    have F1:=F0.put hput (v:=.pv p) (u:=u) (.pv hp)
    rw [at_put (by have:=F0.size; rw [this]; exact hslot)]
    have h:wpD P env an c2 (closeQ K) (((frOf 0 args).put (some slot) (.pv p)).put (some slot2) (.pv p)) σ:=h
    refine wpS_of_wp (code_sound hm E hS an fn.ntmps [] c2 hok h H (F1.put hput' (.pv hp)) rfl ?_)
    rintro e a w' ⟨ρ',fr,σ',e',h1,h2,h3,h4,h5,h6⟩
    cases h5 with
    | normal=>exact ⟨h4,_,rfl,_,hrv a w',⟨_,rfl⟩,rfl,ρ',σ',h1,h2,h6⟩
    | ret=>exact ⟨h4,_,rfl,_,hrv a w',⟨_,rfl⟩,rfl,ρ',σ',h1,h2,h6⟩
    | panic p u hp=>exact h6.elim
    | exit id=>exact h6.elim
    | goto l=>exact h6.elim
end
end Go.AD
