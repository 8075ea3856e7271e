import Derived.Test.YtjgjmpophpifgaaGreatDoorM7
import Derived.Test.YtjgjmpophpifgaaGreatDoorLsR
import Derived.Shelf.SlIter.Nil
import Derived.Shelf.SortM.Plain
import Derived.Shelf.SortM.SortNone
import Derived.Ground.GgzProg
import Derived.Ground.SlgmProg
import Derived.Test.YtjgjmpophpifgaaGreatDoorChecked
set_option linter.unusedVariables false
set_option linter.unusedSimpArgs false
namespace Go.AD.Lx
structure Stop (x:UInt8):Prop where
  dig:digitB x=false
  oct:octalB x=false
  inn:innerB x=false
  dot:x.toNat ≠ 46
  plus:x.toNat ≠ 43
  minus:x.toNat ≠ 45
  exp:(x ||| 32).toNat ≠ 101
  par:x.toNat ≠ 40
  twos:∀ c,listedS lTwos [c,x]=false
variable {x:UInt8} {s t:Bytes}
theorem take_app {u:Bytes} {n:Nat} (h:n <= s.length):(s ++ u).take n=s.take n:=List.take_append_of_le_length h
def NoTail (s:Bytes):Prop:=s.getLast? ≠ some 92
theorem NoTail.suffix {r:Bytes} (h:NoTail s) (hr:r <:+ s):NoTail r:=by
  obtain ⟨p,rfl⟩:=hr
  unfold NoTail at *
  rw [List.getLast?_append] at h
  intro e
  rw [e] at h
  exact h rfl
abbrev More (u:Bytes):Option (Bytes × List Tok)->Option (Bytes × List Tok):=Option.map fun p=>(p.1 ++ u,p.2)
end Go.AD.Lx

set_option linter.unusedVariables false
set_option linter.unusedSimpArgs false
set_option maxRecDepth 100000
namespace Go.AD.Lx
theorem okL_some {α:Type} {m:R α} {a:α} (h:okL m=some a):∃ t,m=.ok a t:=by
  cases m with
  | out=>cases h
  | wrong=>cases h
  | ok b t=>cases h; exact ⟨t,rfl⟩
theorem parse_some {s:Bytes} {A:List NTree} (h:parseS s=some A):∃ ts t,lexS s=some ts/\ts.length <= 20000/\tokensS (10 * ts.length + 20) ts=.ok A t:=by
  unfold parseS at h
  split at h
  · cases h
  · rename_i ts hl
    obtain ⟨t,ht⟩:=okL_some h
    exact ⟨ts,t,hl,lexLen hl,ht⟩
theorem bnd_ok {α β:Type} {m:R α} {k:α->List Tok->R β} {b:β} {t:List Tok} (h:bnd m k=.ok b t):∃ a r,m=.ok a r/\k a r=.ok b t:=by
  cases m with
  | out=>cases h
  | wrong=>cases h
  | ok a r=>exact ⟨a,r,rfl,h⟩
theorem item_rule {r:Rec} {ts t:List Tok} {x:NTree × Bool} (h:itemS r ts=.ok x t):x.1.op=oRule->x.1.kids.length=2:=by
  unfold itemS at h
  split at h
  · obtain ⟨a,r1,_,h⟩:=bnd_ok h; cases h; exact fun e=>absurd e (by show ¬ oBegin=oRule; decide)
  split at h
  · obtain ⟨a,r1,_,h⟩:=bnd_ok h; cases h; exact fun e=>absurd e (by show ¬ oEnd=oRule; decide)
  split at h
  · obtain ⟨a,r1,h1,h⟩:=bnd_ok h
    cases h
    unfold functionS at h1
    obtain ⟨_,_,_,h1⟩:=bnd_ok h1
    obtain ⟨_,_,_,h1⟩:=bnd_ok h1
    obtain ⟨_,_,_,h1⟩:=bnd_ok h1
    obtain ⟨_,_,_,h1⟩:=bnd_ok h1
    cases h1
    exact fun e=>absurd e (by show ¬ kFunc=oRule; decide)
  split at h
  · obtain ⟨a,r1,_,h⟩:=bnd_ok h; cases h; exact fun _=>rfl
  obtain ⟨a,r1,_,h⟩:=bnd_ok h
  split at h
  · obtain ⟨_,_,_,h⟩:=bnd_ok h
    obtain ⟨_,_,_,h⟩:=bnd_ok h
    cases h
    exact fun e=>absurd e (by show ¬ oRange=oRule; decide)
  · obtain ⟨_,_,_,h⟩:=bnd_ok h
    cases h
    exact fun _=>rfl
def ItemOk (x:NTree):Prop:=okN x/\fineS x 1 (whereOf x)=true/\(x.op=oRule->x.kids.length=2)
theorem items_step {n f:Nat} {l:List NTree} {ts:List Tok} {A:List NTree} {t:List Tok} (hne:ts ≠ []) (h:itemsL (recN n) (f + 1) l ts=.ok A t):∃ x us,itemS (recN n) ts=.ok x us/\fineS x.1 1 (whereOf x.1)=true/\itemsL (recN n) f (l ++ [x.1]) (endsS us)=.ok A t:=by
  rw [itemsL,if_neg hne] at h
  obtain ⟨x,us,hi,h⟩:=bnd_ok h
  split at h
  · rename_i hf
    split at h
    · exact ⟨x,us,hi,hf,h⟩
    · cases h
  · cases h
theorem items_all {n:Nat}:∀ (f:Nat) (l:List NTree) (ts:List Tok) (A:List NTree) (t:List Tok),ts.length <= 70000->itemsL (recN n) f l ts=.ok A t->(∀ x ∈ l,ItemOk x)->(∀ x ∈ A,ItemOk x)/\l.length <= A.length/\(ts ≠ []->l.length < A.length)/\(ts=[]->A=l)
  | 0,l,ts,A,t,_,h,_=>by rw [itemsL] at h; cases h
  | f + 1,l,ts,A,t,hl,h,hx=>by
    by_cases hne:ts=[]
    · rw [itemsL,if_pos hne] at h
      cases h
      exact ⟨hx,Nat.le_refl _,fun h=>absurd hne h,fun _=>rfl⟩
    · obtain ⟨x,us,hi,hf,h⟩:=items_step hne h
      have hQ:=Q_item (FR_all n) ts hl
      rw [hi] at hQ
      obtain ⟨hok,hlt⟩:okN x.1/\us.length < ts.length:=hQ
      have hel:=ends_len us
      obtain ⟨h1,h2,_,_⟩:=items_all f _ (endsS us) A t (by omega) h (by
        intro y hy
        rcases List.mem_append.1 hy with hy | hy
        · exact hx y hy
        · rw [List.mem_singleton.1 hy]; exact ⟨hok,hf,item_rule hi⟩)
      rw [List.length_append,List.length_singleton] at h2
      exact ⟨h1,by omega,fun _=>by omega,fun e=>absurd e hne⟩
theorem parse_items {s:Bytes} {A:List NTree} (h:parseS s=some A):(∀ x ∈ A,ItemOk x)/\A.length <= 70000:=by
  obtain ⟨ts,t,_,hn,hp⟩:=parse_some h
  have hel:=ends_len ts
  refine ⟨(items_all _ _ _ _ _ (by omega) hp (by simp)).1,?_⟩
  have:=Q_itemsL (FR_all (10 * ts.length + 20)) (10 * ts.length + 20) [] (endsS ts) (by simp; omega)
  unfold tokensS at hp
  rw [hp] at this
  exact this
mutual
def depthN:NTree->Nat
  | .mk _ _ kids=>depthNs kids + 1
def depthNs:List NTree->Nat
  | []=>0
  | n :: l=>max (depthN n) (depthNs l)
end
mutual
theorem fine_depth:∀ (n:NTree) (d:Nat) (w:WhereS),fineS n d w=true->d + depthN n <= 201
  | .mk op text kids,d,w,h=>by
    rw [fineS] at h
    split at h
    · cases h
    · rename_i hc
      rw [depthN]
      have hd:d <= 200:=by
        rcases Nat.lt_or_ge 200 d with h | h
        · exact absurd (.inl h) hc
        · exact h
      have:=fines_depth kids _ _ d w hd h
      omega
theorem fines_depth:∀ (l:List NTree) (i:Nat) (lp:Int) (d:Nat) (w:WhereS),d <= 200->finesS l i lp d w=true->d + 1 + depthNs l <= 201
  | [],i,lp,d,w,hd,h=>by rw [depthNs]; omega
  | n :: l,i,lp,d,w,hd,h=>by
    rw [finesS] at h
    split at h
    · rename_i h1
      have:=fine_depth n _ _ h1
      have:=fines_depth l _ _ d w hd h
      rw [depthNs]; omega
    · cases h
end
mutual
theorem fine_deeper:∀ (n:NTree) (d:Nat) (w:WhereS),fineS n d w=true->d + depthN n <= 200->fineS n (d + 1) w=true
  | .mk op text kids,d,w,h,hd=>by
    rw [fineS] at h ⊢
    rw [depthN] at hd
    split at h
    · cases h
    · rename_i hc
      rw [if_neg (fun hh=>hh.elim (fun hh=>by omega) (fun hh=>hc (.inr hh)))]
      exact fines_deeper kids _ _ d w h (by omega)
theorem fines_deeper:∀ (l:List NTree) (i:Nat) (lp:Int) (d:Nat) (w:WhereS),finesS l i lp d w=true->d + 1 + depthNs l <= 200->finesS l i lp (d + 1) w=true
  | [],i,lp,d,w,h,hd=>by rw [finesS]
  | n :: l,i,lp,d,w,h,hd=>by
    rw [finesS] at h ⊢
    rw [depthNs] at hd
    split at h
    · rename_i h1
      rw [if_pos (fine_deeper n _ _ h1 (by omega))]
      exact fines_deeper l _ _ d w h (by omega)
    · cases h
end
theorem depthNs_mem:∀ {l:List NTree} {i:Nat} (h:i < l.length),depthN l[i] <= depthNs l
  | n :: l,0,_=>by rw [depthNs]; exact Nat.le_max_left ..
  | n :: l,i + 1,h=>by rw [depthNs]; exact Nat.le_trans (depthNs_mem (l:=l) (i:=i) (by simpa using h)) (Nat.le_max_right ..)
theorem depthN_kids (n:NTree):depthN n=depthNs n.kids + 1:=by cases n; rw [depthN]; rfl
open Go.Proofs RowKit
theorem nc (a:List NTree) {i:Nat} (h:i < a.length) (k:Nat) (hk:k < 3):(flatN a)[i * 3 + k]?=(nodeCells a[i])[k]?:=by
  have e:=flatN_get a i h
  rw [<- e,List.getElem?_take,if_pos hk,List.getElem?_drop]
theorem nc0 {a:List NTree} {i:Nat} (h:i < a.length):(flatN a)[i * 3]?=some (.str a[i].op):=by
  have:=nc a h 0 (by decide)
  rw [nodeCells_eq] at this
  exact this
theorem nc1 {a:List NTree} {i:Nat} (h:i < a.length):(flatN a)[i * 3 + 1]?=some (.str a[i].text):=by
  have:=nc a h 1 (by decide)
  rw [nodeCells_eq] at this
  exact this
theorem nc2 {a:List NTree} {i:Nat} (h:i < a.length):(flatN a)[i * 3 + 2]?=some (.lst a[i].kids.length (flatN a[i].kids)):=by
  have:=nc a h 2 (by decide)
  rw [nodeCells_eq] at this
  exact this
end Go.AD.Lx

set_option linter.unusedVariables false
set_option linter.unusedSimpArgs false
set_option maxRecDepth 100000
namespace Go.AD.Lx
def lSpecial:Bytes:=[32,78,70,32,78,82,32,70,78,82,32,70,83,32,79,70,83,32,79,82,83,32,82,83,32,70,73,76,69,78,65,77,69,32,83,85,66,83,69,80,32,67,79,78,86,70,77,84,32,79,70,77,84,32,82,83,84,65,82,84,32,82,76,69,78,71,84,72,32]
def specialB (n:Bytes):Bool:=listedS lSpecial n
structure FormS where
  cls:Bytes
  to:NTree
  by_:List NTree
structure FdS where
  classes:List (Bytes × Bytes)
  asked:List Bytes
  bad:Bool
def assocP:List (Bytes × Bytes)->Bytes->Bytes->List (Bytes × Bytes)
  | [],k,v=>[(k,v)]
  | p :: l,k,v=>if p.1=k then (k,v) :: l else p :: assocP l k v
def insB (l:List Bytes) (k:Bytes):List Bytes:=if k ∈ l then l else l ++ [k]
def sortS (l:List Bytes):List Bytes:=l.mergeSort fun x y=>decide (x <= y)
end Go.AD.Lx

set_option linter.unusedVariables false
set_option maxRecDepth 100000
namespace Go.AD
open Go.Proofs.Tryz
def an22:An:={ mu:=[],cut:=[],loop:=[] }
def S22 (env:Env) (name0_a:AV) (s:AS) (K:AV->AS->Prop) (X:PV->AS->Prop):Prop :=
 (lock binD prog .add 9 (.pv (.str [32])) name0_a fun t4 =>
 (lock binD prog .add 9 t4 (.pv (.str [32])) fun t5 =>
 (env 24 [(.pv (.str [32,78,70,32,78,82,32,70,78,82,32,70,83,32,79,70,83,32,79,82,83,32,82,83,32,70,73,76,69,78,65,77,69,32,83,85,66,83,69,80,32,67,79,78,86,70,77,84,32,79,70,77,84,32,82,83,84,65,82,84,32,82,76,69,78,71,84,72,32])),t5] s (fun t6 s1 =>
 (retV (t6) s1 K)) (panV X))))
theorem S22_eq (env:Env) (name0_a:AV) (s:AS) (K:AV->AS->Prop) (X:PV->AS->Prop):S22 env name0_a s K X=bodyD prog env an22 f22 [name0_a] s K X:=by
  unfold S22
  kernel_rfl
theorem S22_ok:(match f22.body with | some c=>okCode an22 prog f22.ntmps c | none=>false)=true:=by kernel_rfl
def an98:An:={ mu:=[],cut:=[],loop:=[] }
def S98 (env:Env) (s0_a f1_a:AV) (s:AS) (K:AV->AS->Prop) (X:PV->AS->Prop):Prop :=
 (env 141 [s0_a,f1_a] s (fun t7 s1 =>
 (lock binD prog .geq 3 t7 (.pv (.int .i64 0)) fun t8 =>
 (retV (t8) s1 K))) (panV X))
theorem S98_eq (env:Env) (s0_a f1_a:AV) (s:AS) (K:AV->AS->Prop) (X:PV->AS->Prop):S98 env s0_a f1_a s K X=bodyD prog env an98 f98 [s0_a,f1_a] s K X:=by
  unfold S98
  kernel_rfl
theorem S98_ok:(match f98.body with | some c=>okCode an98 prog f98.ntmps c | none=>false)=true:=by kernel_rfl
def an141:An:={ mu:=[],cut:=[],loop:=[(2,[0,1,7,8])] }
def L141_2 (env:Env) (I2:Nat->List AV->AS->Prop) (m2:Nat) (s0_l2 f1_l2 t7_l2 t8_l2:AV) (s:AS) (K:AV->AS->Prop) (X:PV->AS->Prop):Prop :=
 (lock binD prog .lss 3 t8_l2 t7_l2 fun t9 =>
 (condD t9
 (lock indexAddrD prog 23 s0_l2 t8_l2 fun t14 =>
 (lock loadD prog s 50 t14 fun t15 =>
 (callD env f1_l2 [t15] s (fun t16 s2 =>
 (condD t16
 (retV (t8_l2) s2 K)
 (lock binD prog .add 3 t8_l2 (.pv (.int .i64 1)) fun t18 =>
 (∃ m',m' < m2/\I2 m' [s0_l2,f1_l2,t7_l2,t18] s2)))) (panV X))))
 (retV ((.pv (.int .i64 (-1)))) s K)))
theorem L141_2_eq (env:Env) (I2:Nat->List AV->AS->Prop) (m2:Nat) (s0_l2 f1_l2 t7_l2 t8_l2:AV) (s:AS) (K:AV->AS->Prop) (X:PV->AS->Prop):L141_2 env I2 m2 s0_l2 f1_l2 t7_l2 t8_l2 s K X=wpD prog env an141 (subC (bodyC f141) [1,0,1,0,0]) (contQ prog env an141 (bodyC f141) [1,0,1,0,0] [(I2,m2)] (rootQ prog f141 K X)) [(0,s0_l2),(1,f1_l2),(7,t7_l2),(8,t8_l2)] s:=by
  unfold L141_2
  kernel_rfl
theorem lp141_2 {α:Type} {env:Env}  {s0_l2 f1_l2 t7_l2:AV} {s:AS} {K:AV->AS->Prop} {X:PV->AS->Prop} (μ:α->AS->Nat) (I:α->AS->Prop) (et8_l2:α->AV) (a0:α) (h0:I a0 s)
 (h:∀ a s,I a s->L141_2 env  (Inv (fun a=>[s0_l2,f1_l2,t7_l2,et8_l2 a]) μ I) (μ a s) s0_l2 f1_l2 t7_l2 (et8_l2 a) s K X) :
 ∃ I2:Nat->List AV->AS->Prop,(∃ m,I2 m [s0_l2,f1_l2,t7_l2,et8_l2 a0] s)/\∀ (m:Nat) (x0 x1 x2 x3:AV),∀ s,I2 m [x0,x1,x2,x3] s ->
 L141_2 env  I2 m x0 x1 x2 x3 s K X:=by
  refine ⟨Inv (fun a=>[s0_l2,f1_l2,t7_l2,et8_l2 a]) μ I,⟨_,a0,rfl,rfl,h0⟩,?_⟩
  rintro m x0 x1 x2 x3 s' ⟨a,hv,rfl,hI⟩
  simp only [List.cons.injEq,and_true] at hv
  obtain ⟨rfl,rfl,rfl,rfl⟩:=hv
  exact h a s' hI
def S141 (env:Env) (s0_a f1_a:AV) (s:AS) (K:AV->AS->Prop) (X:PV->AS->Prop):Prop :=
 (lock lenD prog 23 s0_a fun t7 =>
 (∃ I2:Nat->List AV->AS->Prop,(∃ m,I2 m [s0_a,f1_a,t7,(.pv (.int .i64 0))] s)/\∀ (m2:Nat) (s0_l2 f1_l2 t7_l2 t8_l2:AV),∀ s1,I2 m2 [s0_l2,f1_l2,t7_l2,t8_l2] s1 ->
 (L141_2 env I2 m2 s0_l2 f1_l2 t7_l2 t8_l2 s1 K X)))
theorem S141_eq (env:Env) (s0_a f1_a:AV) (s:AS) (K:AV->AS->Prop) (X:PV->AS->Prop):S141 env s0_a f1_a s K X=bodyD prog env an141 f141 [s0_a,f1_a] s K X:=by
  unfold S141
  simp only [L141_2_eq]
  kernel_rfl
theorem S141_ok:(match f141.body with | some c=>okCode an141 prog f141.ntmps c | none=>false)=true:=by kernel_rfl
end Go.AD

set_option linter.unusedVariables false
set_option linter.unusedSimpArgs false
set_option maxRecDepth 100000
namespace Go.AD.Lx
open Go.Proofs RowKit
mutual
def okX:NTree->Prop
  | .mk op text kids=>text.length <= 1000000/\kids.length <= 1000000/\okXs kids
def okXs:List NTree->Prop
  | []=>True
  | k :: ks=>okX k/\okXs ks
end
theorem okX_kids {n:NTree} (h:okX n):n.text.length <= 1000000/\n.kids.length <= 1000000/\okXs n.kids:=by cases n; rw [okX] at h; exact h
theorem okXs_iff:∀ {l:List NTree},okXs l ↔ ∀ x ∈ l,okX x
  | []=>by simp [okXs]
  | n :: l=>by rw [okXs,okXs_iff]; simp
theorem okXs_mem {l:List NTree} (h:okXs l) (i:Nat) (hi:i < l.length):okX l[i]:=okXs_iff.1 h _ (List.getElem_mem hi)
section
variable {env:Env} {args:List AV} {σ0 σ τ:AS} {K:AV->AS->Prop} {X:PV->AS->Prop} {L Y M:Objs}
def T_nSpecial:Tr:=fun args σ K _=>∃ n:Bytes,args=[.pv (.str n)]/\n.length <= 1000000/\K (.pv (.bool (specialB n))) σ
theorem T_nSpecial_ok (h1:env 24=strT2 fun s t=>.pv (.bool (Lib.contains s t))) (h:T_nSpecial args σ K X):bodyD PS env an22 Tryz.f22 args σ K X:=by
  obtain ⟨n,rfl,hn,hK⟩:=h
  rw [<- S22_eq env,S22]
  simp (disch:=omega) only [lock_eq,go_sem]
  refine ⟨by simp; omega,by simp; omega,?_⟩
  rw [h1]
  exact ⟨_,_,rfl,by decide,retV_self hK⟩
theorem kidD {l:List NTree} {i:Nat} (h:i < l.length):l.getD i noneN=l[i]:=by simp [List.getD_eq_getElem?_getD,h]
theorem ldK {l:List NTree} {i:Nat} (h:i < l.length) (σ:AS) (K:AV->Prop):loadD PS σ 50 (.elemP (flatN l) (i * 3)) K=K (nodeAV (l.getD i noneN)):=by
  rw [load_elemA T.hT50 T.ag50,T.sz50,flatN_get l i h,kidD h]
  exact propext ⟨fun h=>h.2,fun hh=>⟨by rw [flatN_len]; omega,hh⟩⟩
end
end Go.AD.Lx

set_option linter.unusedVariables false
set_option linter.unusedSimpArgs false
set_option maxRecDepth 100000
namespace Go.AD.Lx
open Go.Proofs RowKit
section
variable {env:Env} {args:List AV} {σ0 σ τ:AS} {K:AV->AS->Prop} {X:PV->AS->Prop} {L Y M:Objs}
def boxV (t:Nat) (v:Option TypeId) (n:NTree):Nat × AObj:=(t,.cells [.pv (.str n.op),.pv (.str n.text),.pv (.lst n.kids.length (flatN n.kids))] v)
theorem loadBox {t:Nat} {v:Option TypeId} {n:NTree} {K:AV->Prop} (hg:σ t=some (.cells [.pv (.str n.op),.pv (.str n.text),.pv (.lst n.kids.length (flatN n.kids))] v)) (hK:K (nodeAV n)):loadD PS σ 50 (.addr t 0) K:=by
  rw [ldN' (n:=n) (by rw [nodeCells_eq]; exact hg)]; exact hK
def idxS (p:NTree->Bool) (l:List NTree):Int:=match l.findIdx? p with | some i=>i | none=>-1
end
end Go.AD.Lx

set_option linter.unusedVariables false
set_option linter.unusedSimpArgs false
set_option maxRecDepth 100000
namespace Go.AD.Lx
open Go.Proofs RowKit
section
variable {env:Env} {args:List AV} {σ0 σ τ:AS} {K:AV->AS->Prop} {X:PV->AS->Prop} {L Y M:Objs}
end
end Go.AD.Lx

set_option linter.unusedVariables false
set_option maxRecDepth 100000
namespace Go.AD
open Go.Proofs.Tryz
end Go.AD

set_option linter.unusedVariables false
set_option linter.unusedSimpArgs false
set_option maxRecDepth 100000
namespace Go.AD.Lx
open Go.Proofs RowKit
def mapEsF:Nat->List (Bytes × AV)->List ME
  | _,[]=>[]
  | i,p :: l=>([p.1],p.2,i) :: mapEsF (i + 1) l
def mapEs (l:List (Bytes × AV)):List ME:=mapEsF 0 l
def aGet (l:List (Bytes × AV)) (k:Bytes):Option AV:=(l.find? fun p=>p.1 == k).map (·.2)
def aPut:List (Bytes × AV)->Bytes->AV->List (Bytes × AV)
  | [],k,v=>[(k,v)]
  | p :: l,k,v=>if p.1=k then (k,v) :: l else p :: aPut l k v
theorem mapEsF_get:∀ (i:Nat) (l:List (Bytes × AV)) (k:Bytes),mapGet (mapEsF i l) [k]=aGet l k
  | i,[],k=>rfl
  | i,p :: l,k=>by
    rw [mapEsF,mapGet]
    unfold aGet
    rw [List.find?_cons]
    by_cases h:p.1=k
    · rw [if_pos (by rw [h]),show (p.1 == k)=true from beq_iff_eq.2 h]; rfl
    · rw [if_neg (fun e=>h (by cases e; rfl)),show (p.1 == k)=false from beq_eq_false_iff_ne.2 h]
      exact mapEsF_get (i + 1) l k
theorem mapEsF_set:∀ (i:Nat) (l:List (Bytes × AV)) (k:Bytes) (v:AV),match mapSet (mapEsF i l) [k] v with
    | some es=>es=mapEsF i (aPut l k v)/\(aPut l k v).length=l.length
    | none=>mapEsF i l ++ [([k],v,i + l.length)]=mapEsF i (aPut l k v)/\(aPut l k v).length=l.length + 1
  | i,[],k,v=>⟨rfl,rfl⟩
  | i,p :: l,k,v=>by
    rw [mapEsF,mapSet,aPut]
    by_cases h:p.1=k
    · rw [if_pos (show ([p.1],p.2,i).1=[k] by rw [h]),if_pos h]
      exact ⟨rfl,rfl⟩
    · rw [if_neg (show ¬ ([p.1],p.2,i).1=[k] from fun e=>h (by cases e; rfl)),if_neg h]
      have ih:=mapEsF_set (i + 1) l k v
      cases hm:mapSet (mapEsF (i + 1) l) [k] v with
      | some es =>
        rw [hm] at ih
        exact ⟨by rw [mapEsF,ih.1],by rw [List.length_cons,ih.2,List.length_cons]⟩
      | none =>
        rw [hm] at ih
        refine ⟨?_,by rw [List.length_cons,ih.2,List.length_cons]⟩
        rw [mapEsF,<- ih.1,List.cons_append,List.length_cons]
        have:i + (l.length + 1)=i + 1 + l.length:=by omega
        rw [this]
section
variable {env:Env} {args:List AV} {σ0 σ τ:AS} {K:AV->AS->Prop} {X:PV->AS->Prop} {L Y M:Objs}
def mapA (id:Nat) (l:List (Bytes × AV)):Nat × AObj:=(id,.mapO 1 (mapEs l) l.length)
theorem keyT:keyTy PS 9=some 1:=by kernel_rfl
theorem mapUpd {t kt et:TypeId} (ht:mapTy PS t=some (kt,et)) (hk:keyTy PS kt=some 1) {A B:Objs} {id:Nat} {l:List (Bytes × AV)} {k:Bytes} {v:AV} {KS:AS->Prop} (hS:Sep σ0 σ (A ++ mapA id l :: B))
    (hK:∀ σ',Sep σ0 σ' (A ++ mapA id (aPut l k v) :: B)->KS σ'):mapUpdateD PS σ t (.amap id) (.pv (.str k)) v KS:=by
  have hg:σ id=some (.mapO 1 (mapEs l) l.length):=hS.get (by simp [mapA])
  unfold mapUpdateD
  rw [ht]
  simp only [keyOf,hg]
  refine ⟨hk,rfl,?_⟩
  have:=mapEsF_set 0 l k v
  unfold mapEs at *
  cases hm:mapSet (mapEsF 0 l) [k] v with
  | some es =>
    rw [hm] at this
    simp only
    refine hK _ ?_
    have h2:=Sep.set hS (.mapO 1 es l.length)
    unfold mapA mapEs
    rw [this.2,<- this.1]
    exact h2
  | none =>
    rw [hm] at this
    simp only
    refine hK _ ?_
    have h2:=Sep.set hS (.mapO 1 (mapEsF 0 l ++ [([k],v,l.length)]) (l.length + 1))
    unfold mapA mapEs
    rw [this.2,<- this.1,Nat.zero_add]
    exact h2
theorem mapLook {t kt et:TypeId} (ht:mapTy PS t=some (kt,et)) (hk:keyTy PS kt=some 1) {z:AV} (hz:zeroV PS et=some z) {id n:Nat} {l:List (Bytes × AV)} {k:Bytes} {ok:Bool} {K:AV->Prop} (hg:σ id=some (.mapO 1 (mapEs l) n)) :
    lookupD PS σ t (.amap id) (.pv (.str k)) ok K=K (match aGet l k with | some v=>okV ok v true | none=>okV ok z false):=by
  unfold lookupD
  rw [ht]
  simp only [keyOf,hg]
  have:=mapEsF_get 0 l k
  unfold mapEs
  rw [this,hz]
  have h1:keyTy PS kt=some ([k]:MK).length:=hk
  have h2:(1=([k]:MK).length)=True:=eq_true rfl
  rw [eq_true h1,h2]
  simp only [true_and]
  cases aGet l k <;> rfl
def FObj (p c a:Nat) (st:FdS):Objs:=[(p,.cells [.amap c,.amap a,.pv (.bool st.bad)] none),mapA c (st.classes.map fun q=>(q.1,.pv (.str q.2))),mapA a (st.asked.map fun k=>(k,.pv (.bool true)))]
structure FAt (σ0 σ:AS) (p c a:Nat) (st:FdS) (L:Objs):Prop where
  sep:Sep σ0 σ (FObj p c a st ++ L)
variable {p c a:Nat} {st:FdS}
theorem FAt.get (h:FAt σ0 σ p c a st L):σ p=some (.cells [.amap c,.amap a,.pv (.bool st.bad)] none):=h.sep.get (by simp [FObj])
theorem FAt.sub (h:FAt σ0 σ p c a st L):σ0.sub σ:=h.sep.sub
theorem FAt.up (h:FAt σ0 σ p c a st L) {σ':AS} (hs:σ.sub σ'):FAt σ0 σ' p c a st L:=⟨upS h.sep hs⟩
theorem FAt.part {L':Objs} (h:FAt σ0 σ p c a st L) (hs:L'.Sublist L):FAt σ0 σ p c a st L':=⟨h.sep.sublist ((List.Sublist.refl _).append hs)⟩
theorem FAt.alloc (h:FAt σ0 σ p c a st L) {t:Nat} (ht:σ t=none) (o:AObj):FAt σ0 (σ.set t o) p c a st ((t,o) :: L):=⟨(h.sep.alloc ht o).perm List.perm_middle.symm⟩
theorem FAt.at (h:FAt σ0 σ p c a st L) {i:Nat} {o:AObj} (hi:(i,o) ∈ L):σ i=some o:=h.sep.get (List.mem_append_right _ hi)
theorem FAt.setBad {b:Bool} {KS:AS->Prop} (h:FAt σ0 σ p c a st L) (hK:∀ σ',FAt σ0 σ' p c a { st with bad:=b } L->KS σ'):storeD PS σ 4 (.addr p 2) (.pv (.bool b)) KS:=by
  simp only [T.stp4,h.get,stM_cells,Nat.zero_add,List.set_cons_succ,List.set_cons_zero]
  refine ⟨by simp,hK _ ⟨?_⟩⟩
  exact h.sep.set1 _
theorem mapTB:mapTy PS 33=some (9,4):=by kernel_rfl
theorem mapTS:mapTy PS 94=some (9,9):=by kernel_rfl
theorem insB_map (l:List Bytes) (k:Bytes):(insB l k).map (fun k=>((k,.pv (.bool true)):Bytes × AV))=aPut (l.map fun k=>(k,.pv (.bool true))) k (.pv (.bool true)):=by
  unfold insB
  induction l with
  | nil=>rfl
  | cons x l ih =>
    rw [List.map_cons,aPut]
    by_cases h:x=k
    · subst h
      rw [if_pos (List.mem_cons_self ..),if_pos rfl]
      rfl
    · rw [if_neg (show ¬ (x,AV.pv (.bool true)).1=k from h),<- ih]
      by_cases hm:k ∈ l
      · rw [if_pos (List.mem_cons_of_mem _ hm),if_pos hm]; rfl
      · rw [if_neg (fun hh=>by rcases List.mem_cons.1 hh with hh | hh; exact h hh.symm; exact hm hh),if_neg hm]; rfl
theorem assocP_map (l:List (Bytes × Bytes)) (k v:Bytes):(assocP l k v).map (fun q=>((q.1,.pv (.str q.2)):Bytes × AV))=aPut (l.map fun q=>(q.1,.pv (.str q.2))) k (.pv (.str v)):=by
  induction l with
  | nil=>rfl
  | cons x l ih =>
    rw [List.map_cons,aPut,assocP]
    by_cases h:x.1=k
    · rw [if_pos h,if_pos h]; rfl
    · rw [if_neg h,if_neg h,List.map_cons,ih]
theorem FAt.ask {KS:AS->Prop} {k:Bytes} (h:FAt σ0 σ p c a st L) (hK:∀ σ',FAt σ0 σ' p c a { st with asked:=insB st.asked k } L->KS σ'):mapUpdateD PS σ 33 (.amap a) (.pv (.str k)) (.pv (.bool true)) KS:=by
  refine mapUpd mapTB keyT (A:=[_,_]) (B:=L) h.sep (fun σ' h2=>hK σ' ⟨?_⟩)
  unfold FObj
  rw [insB_map]
  exact h2
theorem FAt.put {KS:AS->Prop} {k v:Bytes} (h:FAt σ0 σ p c a st L) (hK:∀ σ',FAt σ0 σ' p c a { st with classes:=assocP st.classes k v } L->KS σ'):mapUpdateD PS σ 94 (.amap c) (.pv (.str k)) (.pv (.str v)) KS:=by
  refine mapUpd mapTS keyT (A:=[_]) (B:=_ :: L) h.sep (fun σ' h2=>hK σ' ⟨?_⟩)
  unfold FObj
  rw [assocP_map]
  exact h2
end
end Go.AD.Lx

namespace Go.Proofs
open Go.RowKit Go.Maps Go.Sort Go.Shelf
shelf_lay_g SlLaysZ.n7 Ggz 7 at Tryz 42 as Tryz.keys42
shelf_lay_g SlLaysZ.n6 Ggz 6 at Tryz 41 as Tryz.sorted41
shelf_lay_g SlLaysM.n6 Slgm 6 at Tryz 25 as Tryz.sort25
theorem Tryz.sorts41 (m:Nat):AnyZ.SortsIn Tryz.prog Tryz.sorted41_ren Fence.wide m :=
  ⟨fun blk off cap ss W hH hblk hsz=>callsIn_wide.2 (AnyM.slices_Sort_string Tryz.sort25 blk off cap ss W hH hblk hsz),
   fun p cap W=>callsIn_wide.2 (AnyM.slices_Sort_string_none Tryz.sort25 p cap W)⟩
theorem Tryz.maps_Keys_42 (mb:Option Nat) (W:World):CallsIn Fence.wide 5 Tryz.prog 42 #[.map mb] W fun e w'=>e=.returned (.func (.func 92) #[] #[.pointer (some ⟨W.heap.size,0,none⟩)])/\w'=W.alloc (.cells #[.map mb] 94) :=
  AnyZ.keys_in Tryz.keys42 Fence.wide 5 trivial rfl mb W
set_option maxHeartbeats 1000000 in
theorem Tryz.slices_Sorted_keys_41_42 {H:Type} (b nn:Nat) (D0:DataW H) (R:Value->Option (DataW H × List MemPlace)) (w:World) (hown:w.ownsMap Tryz.prog 9 R b nn D0) (hmax:Maps.size D0 <= maxLen) (hbytes:Maps.size D0 * 16 <= 140737488355328) :
    CallsIn Fence.wide 5 Tryz.prog 41 #[.func (.func 92) #[] #[.pointer (some ⟨w.heap.size,0,none⟩)]] (w.alloc (.cells #[.map (some b)] 94)) fun e w'=>∃ (v:Value) (ss:List (List UInt8)),e=.returned v/\ss.Perm (strKeys D0) /\
      w'.ownsRow (w.alloc (.cells #[.map (some b)] 94)).heap.size 9 1 v ss.length ((ss.mergeSort (fun x y=>decide (x <= y))).map encStr)/\(v=.slice none 0 0 ↔ ss=[])/\Below (w.alloc (.cells #[.map (some b)] 94)).heap.size (w.alloc (.cells #[.map (some b)] 94)) w':=by
  have hbl:=hown.lt
  have hseq:SeqGives Fence.wide 2 Tryz.prog 92 #[.pointer (some ⟨w.heap.size,0,none⟩)] encStr (fun ss=>ss.Perm (strKeys D0)) (Maps.size D0) (w.alloc (.cells #[.map (some b)] 94)) :=
    AnyZ.keys_gives (ρ:=Tryz.keys42_ren) { Tryz.keys42 with } Fence.wide _ trivial rfl (by omega) w.heap.size b nn D0 _ (by simp) (by simp) (by
      obtain ⟨es,clock,hb,Ft,hs,hD⟩:=hown
      exact ⟨es,clock,(Below.heap_alloc _ _ b hbl).trans hb,Ft,hs,hD⟩)
  exact AnyZ.sorted_in Tryz.sorted41 Fence.wide 5 trivial trivial trivial trivial rfl (by omega) (Tryz.sorts41 _) (enters_of Tryz.func25 (by kernel_rfl) rfl) 92 #[.pointer (some ⟨w.heap.size,0,none⟩)] trivial (enters_of Tryz.func92 (by kernel_rfl) rfl) _ _ hmax hbytes _ hseq
set_option maxHeartbeats 1000000 in
theorem Tryz.slices_Sorted_keys_nil_41_42 (w:World) :
    CallsIn Fence.wide 5 Tryz.prog 41 #[.func (.func 92) #[] #[.pointer (some ⟨w.heap.size,0,none⟩)]] (w.alloc (.cells #[.map none] 94)) fun e w'=>∃ (v:Value) (ss:List (List UInt8)),e=.returned v/\ss=[] /\
      w'.ownsRow (w.alloc (.cells #[.map none] 94)).heap.size 9 1 v ss.length ((ss.mergeSort (fun x y=>decide (x <= y))).map encStr)/\(v=.slice none 0 0 ↔ ss=[])/\Below (w.alloc (.cells #[.map none] 94)).heap.size (w.alloc (.cells #[.map none] 94)) w':=by
  have hseq:SeqGives Fence.wide 2 Tryz.prog 92 #[.pointer (some ⟨w.heap.size,0,none⟩)] encStr (fun ss:List (List UInt8)=>ss=[]) 0 (w.alloc (.cells #[.map none] 94)) :=
    AnyZ.keys_gives_nil (ρ:=Tryz.keys42_ren) { Tryz.keys42 with } Fence.wide _ trivial rfl w.heap.size _ (by simp) (by simp)
  exact AnyZ.sorted_in Tryz.sorted41 Fence.wide 5 trivial trivial trivial trivial rfl (by omega) (Tryz.sorts41 _) (enters_of Tryz.func25 (by kernel_rfl) rfl) 92 #[.pointer (some ⟨w.heap.size,0,none⟩)] trivial (enters_of Tryz.func92 (by kernel_rfl) rfl) _ 0 (Nat.zero_le _) (by omega) _ hseq
end Go.Proofs

set_option linter.unusedVariables false
set_option linter.unusedSimpArgs false
set_option maxRecDepth 100000
namespace Go.AD.Lx
open Go.Proofs RowKit Go.Maps
section
variable {w0 w w':World} {ρ:Gh} {σ:AS}
theorem belowFrom (H:RelH w0 ρ σ w) (hb:Below w.heap.size w w'):Below w0.heap.size w0 w' :=
  H.below.trans ⟨hb.os,hb.tape,hb.output,hb.size,fun k hk=>hb.block k (Nat.lt_of_lt_of_le hk H.le_size)⟩
theorem RelH.grew (H:RelH w0 ρ σ w) (hb:Below w.heap.size w w'):RelH w0 ρ σ w':=by
  refine RelH.keep H (Gh.le_refl ρ) (belowFrom H hb) ?_ ?_ H.bound
  · intro b o v hv
    exact (hb.cell (p:=⟨b,o,none⟩) (H.imm_lt hv)).trans (H.imm _ _ _ hv)
  · intro id o b ho hbl
    exact ⟨hb.block b (H.blk_lt ho hbl),fun _=>rfl,fun _=>rfl⟩
end
theorem mapEsF_at:∀ (i:Nat) (l:List (Bytes × AV)) (j:Nat) (h:j < l.length),(mapEsF i l)[j]?=some ([l[j].1],l[j].2,i + j)
  | i,p :: l,0,h=>rfl
  | i,p :: l,j + 1,h=>by
    rw [mapEsF,List.getElem?_cons_succ,mapEsF_at (i + 1) l j (by simpa using h)]
    simp only [List.getElem_cons_succ]
    have:i + 1 + j=i + (j + 1):=by omega
    rw [this]
theorem mapEsF_len:∀ (i:Nat) (l:List (Bytes × AV)),(mapEsF i l).length=l.length
  | i,[]=>rfl
  | i,p :: l=>by rw [mapEsF,List.length_cons,mapEsF_len (i + 1) l,List.length_cons]
theorem sortS_len (l:List Bytes):(sortS l).length=l.length:=List.length_mergeSort l
end Go.AD.Lx
