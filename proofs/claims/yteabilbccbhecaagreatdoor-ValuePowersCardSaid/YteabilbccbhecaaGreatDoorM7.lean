import Derived.Test.YteabilbccbhecaaGreatDoorM5
import Derived.Scope
import Derived.Test.YteabilbccbhecaaGreatDoorAd7b
import Derived.LoopN
set_option linter.unusedVariables false
set_option linter.unusedSimpArgs false
namespace Go.AD
open RowKit
section
variable {P:Program} {w0 w w':World} {ρ ρ':Gh} {σ:AS} {env:Env}
inductive RelE (ρ:Gh):AEx->Exit->Prop where
  | normal:RelE ρ .normal .normal
  | exit (id):RelE ρ (.exit id) (.exit id)
  | goto (l):RelE ρ (.goto l) (.goto l)
  | ret:RelE ρ .ret .ret
  | panic (p u) (h:RelP ρ.imm p u):RelE ρ (.panic p) (.panic [{ v:=u,recovered:=false }])
def Post (w0:World) (ρ:Gh) (n:Nat) (ds:List Deferred) (Q:AEx->Fr->AS->Prop):Exit->Act->World->Prop:=fun e a w =>
  ∃ ρ' fr σ e',ρ.le ρ'/\RelH w0 ρ' σ w/\RelF ρ' n fr a/\a.defers=ds/\RelE ρ' e' e/\Q e' fr σ
theorem Post.mono {n:Nat} {ds:List Deferred} {Q Q':AEx->Fr->AS->Prop} (hm:ρ.le ρ') (hQ:∀ e fr σ,Q e fr σ->Q' e fr σ) {e:Exit} {a:Act} {w:World} (h:Post w0 ρ' n ds Q e a w):Post w0 ρ n ds Q' e a w:=by
  obtain ⟨ρ'',fr,σ,e',h1,h2,h3,h4,h5,h6⟩:=h
  exact ⟨ρ'',fr,σ,e',Gh.le_trans hm h1,h2,h3,h4,h5,hQ _ _ _ h6⟩
theorem put_defers (a:Act) (d:Option Nat) (v:Value):(a.put d v).defers=a.defers:=by cases d <;> rfl
theorem yields_rel {n:Nat} {fr:Fr} {a:Act} (F:RelF ρ n fr a) {ops:Array Oper} (hops:∀ o ∈ ops.toList,∀ d,o.dst=some d->d < n) {j d:Nat} (hd:(ops[j]?).bind (·.dst)=some d) {b:Bool} (hb:fr.get d=.pv (.bool b)) :
    yielded ops a.tmps j=some b:=by
  have hr:=F.get d
  rw [hb] at hr
  have hv:=relBool hr
  obtain ⟨oj,hoj,hdj⟩:=Option.bind_eq_some_iff.1 hd
  have hdn:d < n:=hops oj (by
    obtain ⟨hlt,rfl⟩:=Array.getElem?_eq_some_iff.1 hoj
    simp) d hdj
  have hlt:d < a.tmps.size:=by rw [F.size]; exact hdn
  have hget:a.tmps[d]?=some (.bool b):=by
    rw [Array.getElem?_eq_getElem hlt]
    rw [<- hv]
    simp [hlt]
  simp only [yielded,hd,Option.bind_some,hget]
def Known (ops:Array Oper) (k:Nat) (a:Act):Option ((Nat × Bool) × Bool)->Prop
  | none=>True
  | some ((j,want),r)=>j < k/\(∃ d,(ops[j]?).bind (·.dst)=some d/\∀ (i:Nat) o,i ≠ j->ops[i]?=some o->o.dst ≠ some d)/\(yielded ops a.tmps j == some want)=r
theorem Known.put {ops:Array Oper} {k:Nat} {a:Act} {g:Option ((Nat × Bool) × Bool)} (h:Known ops k a g) {o:Oper} (ho:ops[k]?=some o) (v:Value):Known ops (k + 1) (a.put o.dst v) g:=by
  match g,h with
  | none,_=>trivial
  | some ((j,want),r),⟨h1,⟨d,h2,h3⟩,h4⟩ =>
    refine ⟨by omega,⟨d,h2,h3⟩,?_⟩
    have hne:=h3 k o (by omega) ho
    have:yielded ops (a.put o.dst v).tmps j=yielded ops a.tmps j:=by
      unfold yielded
      rw [h2]
      simp only [Option.bind_some]
      cases hdst:o.dst with
      | none=>rfl
      | some e =>
        have hed:e ≠ d:=fun he=>hne (by rw [hdst,he])
        simp [Act.put,Array.getElem?_setIfInBounds_ne hed]
    rw [this]
    exact h4
theorem guardsOk_spec {ops:Array Oper} (h:guardsOk ops=true) {o:Oper} {k j:Nat} {want:Bool} (ho:ops[k]?=some o) (hg:o.guard=some (j,want)) :
    ∃ d,(ops[j]?).bind (·.dst)=some d/\∀ (i:Nat) o',i ≠ j->ops[i]?=some o'->o'.dst ≠ some d:=by
  obtain ⟨hlt,rfl⟩:=Array.getElem?_eq_some_iff.1 ho
  have:=Array.all_eq_true'.1 h ops[k] (by simp)
  rw [hg] at this
  simp only at this
  split at this
  · rename_i d hd
    refine ⟨d,hd,fun i o' hi ho' he=>?_⟩
    rw [List.all_eq_true] at this
    obtain ⟨hlt',rfl⟩:=Array.getElem?_eq_some_iff.1 ho'
    have h2:=this i (by simp [hlt'])
    simp [hi,hlt',he] at h2
  · cases this
theorem guardsBack_spec {ops:Array Oper} (h:guardsBack ops=true) {o:Oper} {k j:Nat} {want:Bool} (ho:ops[k]?=some o) (hg:o.guard=some (j,want)):j < k:=by
  obtain ⟨hlt,rfl⟩:=Array.getElem?_eq_some_iff.1 ho
  unfold guardsBack at h
  rw [List.all_eq_true] at h
  have:=h k (by simp [hlt])
  simpa [hlt,hg] using this
def Skipped (ops:Array Oper) (k:Nat) (a:Act) (sk:List Nat):Prop:=∀ j ∈ sk,j < k/\∀ d,(ops[j]?).bind (·.dst)=some d->(∀ (i:Nat) o',i ≠ j->ops[i]?=some o'->o'.dst ≠ some d)->a.tmps.getD d undef=undef
theorem Skipped.put {ops:Array Oper} {k:Nat} {a:Act} {sk:List Nat} (h:Skipped ops k a sk) {o:Oper} (ho:ops[k]?=some o) (v:Value):Skipped ops (k + 1) (a.put o.dst v) sk:=by
  intro j hj
  obtain ⟨h1,h2⟩:=h j hj
  refine ⟨by omega,fun d hd hu=>?_⟩
  have h3:=h2 d hd hu
  have hne:=hu k o (by omega) ho
  cases hdst:o.dst with
  | none=>exact h3
  | some e =>
    have hed:e ≠ d:=fun he=>hne (by rw [hdst,he])
    have:(a.put (some e) v).tmps.getD d undef=a.tmps.getD d undef:=by simp [Act.put,Array.getElem?_setIfInBounds_ne hed]
    rw [this]
    exact h3
theorem Skipped.skip {ops:Array Oper} {k:Nat} {a:Act} {sk:List Nat} (h:Skipped ops k a sk) {o:Oper} (ho:ops[k]?=some o):Skipped ops (k + 1) (a.put o.dst undef) (k :: sk):=by
  intro j hj
  rcases List.mem_cons.1 hj with rfl | hj
  · refine ⟨by omega,fun d hd _=>?_⟩
    have:o.dst=some d:=by simpa [ho] using hd
    rw [this]
    simp [Act.put]
  · exact h.put ho undef j hj
theorem Skipped.yields {ops:Array Oper} {k:Nat} {a:Act} {sk:List Nat} (h:Skipped ops k a sk) {j d:Nat} (hj:j ∈ sk) (hd:(ops[j]?).bind (·.dst)=some d) (hu:∀ (i:Nat) o',i ≠ j->ops[i]?=some o'->o'.dst ≠ some d):yielded ops a.tmps j=none:=by
  have h1:=(h j hj).2 d hd hu
  unfold yielded
  rw [hd,Option.bind_some]
  cases e:a.tmps[d]? with
  | none=>rfl
  | some v =>
    have:a.tmps.getD d undef=v:=by simp [e]
    rw [this] at h1
    subst h1
    rfl
theorem RelF.know {n:Nat} {fr:Fr} {a:Act} (F:RelF ρ n fr a) {d:Nat} {b:Bool} (hb:fr.get d=.pv (.bool b)):RelF ρ n ((d,.pv (.bool b)) :: fr) a where
  size:=F.size
  get:=by
    intro t
    rw [Fr.get]
    split
    · rename_i h
      subst h
      have:=F.get d
      rwa [hb] at this
    · exact F.get t
theorem ops_step {an:An} {n:Nat} {fr:Fr} {a:Act} (F:RelF ρ n fr a) {ops:Array Oper} (hops:∀ o ∈ ops.toList,∀ d,o.dst=some d->d < n) (hgo:guardsOk ops=true) (hgb:guardsBack ops=true) {o:Oper} {rest:List Oper} {k:Nat} (ho:ops[k]?=some o)
    {g:Option ((Nat × Bool) × Bool)} {sk:List Nat} (hg:Known ops k a g) (hsk:Skipped ops k a sk) {Q:AEx->Fr->AS->Prop} (h:opsD P env an ops Q (o :: rest) k sk g fr σ) :
    ∃ g' sk' fr',RelF ρ n fr' a/\(∀ v,Known ops (k + 1) (a.put o.dst v) g')/\(if Region.wanted o (yielded ops a.tmps)=true then (∀ v,Skipped ops (k + 1) (a.put o.dst v) sk')/\opD P env an.isMu fr' σ o.dst o.op (fun v σ=>opsD P env an ops Q rest (k + 1) sk' g' (fr'.put o.dst v) σ) (fun p σ=>Q (.panic p) fr' σ)
      else Skipped ops (k + 1) (a.put o.dst undef) sk'/\opsD P env an ops Q rest (k + 1) sk' g' (fr'.put o.dst .undef) σ):=by
  have dec:∀ (j:Nat) (want:Bool),o.guard=some (j,want)->(match (ops[j]?).bind (·.dst) with
        | some d=>guardD (fr.get d) want (opD P env an.isMu ((d,.pv (.bool want)) :: fr) σ o.dst o.op (fun v σ=>opsD P env an ops Q rest (k + 1) sk (some ((j,want),true)) (Fr.put ((d,.pv (.bool want)) :: fr) o.dst v) σ) (fun p σ=>Q (.panic p) ((d,.pv (.bool want)) :: fr) σ))
            (opsD P env an ops Q rest (k + 1) (k :: sk) (some ((j,want),false)) (Fr.put ((d,.pv (.bool (!want))) :: fr) o.dst .undef) σ)
        | none=>False)->∃ g' sk' fr',RelF ρ n fr' a/\(∀ v,Known ops (k + 1) (a.put o.dst v) g')/\(if Region.wanted o (yielded ops a.tmps)=true then (∀ v,Skipped ops (k + 1) (a.put o.dst v) sk')/\opD P env an.isMu fr' σ o.dst o.op (fun v σ=>opsD P env an ops Q rest (k + 1) sk' g' (fr'.put o.dst v) σ) (fun p σ=>Q (.panic p) fr' σ)
      else Skipped ops (k + 1) (a.put o.dst undef) sk'/\opsD P env an ops Q rest (k + 1) sk' g' (fr'.put o.dst .undef) σ):=by
    intro j want hgd hh
    have hjk:=guardsBack_spec hgb ho hgd
    have hspec:=guardsOk_spec hgo ho hgd
    split at hh
    · rename_i d hd
      unfold guardD at hh
      split at hh
      · rename_i b hb
        have hy:=yields_rel F hops hd hb
        have hw:Region.wanted o (yielded ops a.tmps)=(b == want):=by
          simp only [Region.wanted,hgd,hy]
          cases b <;> cases want <;> rfl
        have kn:∀ r,(b == want)=r->∀ v,Known ops (k + 1) (a.put o.dst v) (some ((j,want),r)):=fun r hr v =>
          Known.put (k:=k) (g:=some ((j,want),r)) ⟨hjk,hspec,by rw [hy,<- hr]; cases b <;> cases want <;> rfl⟩ ho v
        split at hh
        · rename_i hbw
          subst hbw
          refine ⟨_,sk,_,F.know hb,kn true (by simp),?_⟩
          rw [hw,if_pos (by simp)]
          exact ⟨fun v=>hsk.put ho v,hh⟩
        · rename_i hbw
          have hf:(b == want)=false:=by simpa using hbw
          have hbn:b=!want:=by cases b <;> cases want <;> simp_all
          refine ⟨_,k :: sk,_,F.know (by rw [hb,hbn]),kn false hf,?_⟩
          rw [hw,hf,if_neg (by simp)]
          exact ⟨hsk.skip ho,hh⟩
      · exact hh.elim
    · exact hh.elim
  unfold opsD at h
  split at h
  · rename_i hgd
    refine ⟨g,sk,fr,F,fun v=>hg.put ho v,?_⟩
    have hw:Region.wanted o (yielded ops a.tmps)=true:=by simp [Region.wanted,hgd]
    rw [hw,if_pos rfl]
    exact ⟨fun v=>hsk.put ho v,h⟩
  · rename_i gd hgd
    obtain ⟨j,want⟩:=gd
    simp only at h
    split at h
    · rename_i hj
      have hj:j ∈ sk:=by simpa using hj
      obtain ⟨d,hd,hu⟩:=guardsOk_spec hgo ho hgd
      have hw:Region.wanted o (yielded ops a.tmps)=false:=by
        simp only [Region.wanted,hgd,hsk.yields hj hd hu]
        rfl
      refine ⟨g,k :: sk,fr,F,fun v=>hg.put ho v,?_⟩
      rw [hw,if_neg (by simp)]
      exact ⟨hsk.skip ho,h⟩
    split at h
    · rename_i gd' r
      split at h
      · rename_i he
        subst he
        obtain ⟨h1,h2,h3⟩:=hg
        have hw:Region.wanted o (yielded ops a.tmps)=r:=by
          simp only [Region.wanted,hgd]
          exact h3
        have kn:=fun v=>Known.put (k:=k) (g:=some ((j,want),r)) ⟨h1,h2,h3⟩ ho v
        cases r
        · refine ⟨_,k :: sk,fr,F,kn,?_⟩
          rw [hw,if_neg (by simp)]
          exact ⟨hsk.skip ho,by simpa using h⟩
        · refine ⟨_,sk,fr,F,kn,?_⟩
          rw [hw,if_pos rfl]
          exact ⟨fun v=>hsk.put ho v,by simpa using h⟩
      · exact dec j want hgd h
    · exact dec j want hgd h
theorem ops_sound (E:EnvOk P env) (hS:Ready P w0) (an:An) (n:Nat) (ds:List Deferred) (ops:Array Oper) (hops:∀ o ∈ ops.toList,∀ d,o.dst=some d->d < n) (hgo:guardsOk ops=true) (hgb:guardsBack ops=true) {Q:AEx->Fr->AS->Prop} :
    ∀ (l:List Oper) (k:Nat),ops.toList.drop k=l->∀ (ρ:Gh) (fr:Fr) (σ:AS) (a:Act) (w:World) (T:Exit->Act->World->Prop) (g:Option ((Nat × Bool) × Bool)) (sk:List Nat),Known ops k a g->Skipped ops k a sk->RelH w0 ρ σ w->RelF ρ n fr a->a.defers=ds->opsD P env an ops Q l k sk g fr σ ->
      (∀ e a w,Post w0 ρ n ds Q e a w->T e a w)->wpList P ops T l a w
  | [],_,_,ρ,fr,σ,a,w,T,g,sk,hg,hsk,H,F,hd,h,hT=>hT _ _ _ ⟨ρ,fr,σ,.normal,Gh.le_refl ρ,H,F,hd,.normal,h⟩
  | o :: l,k,hl,ρ,fr0,σ,a,w,T,g,sk,hg,hsk,H,F0,hd,h,hT=>by
    have hk:ops[k]?=some o:=by
      have:=congrArg (fun l:List Oper=>l[0]?) hl
      simpa [List.getElem?_drop] using this
    have hl':ops.toList.drop (k + 1)=l:=by
      have:=congrArg (List.drop 1) hl
      simpa [List.drop_drop] using this
    have hmem:o ∈ ops.toList:=by
      obtain ⟨hlt,rfl⟩:=Array.getElem?_eq_some_iff.1 hk
      simp
    obtain ⟨g',sk',fr,F,hg',hw⟩:=ops_step F0 hops hgo hgb hk hg hsk h
    have hdst:∀ d,o.dst=some d->d < n:=hops o hmem
    unfold wpList
    split
    · rename_i hwt
      rw [if_pos hwt] at hw
      refine .inl (op_sound E hS H F an.isMu o hw.2 ?_ ?_)
      · intro ρ' σ' w' v u h1 h2 h3 h4
        exact ops_sound E hS an n ds ops hops hgo hgb l (k + 1) hl' ρ' _ σ' _ w' T g' sk' (hg' u) (hw.1 u) h2 ((F.mono h1).put hdst h3) (by rw [put_defers]; exact hd) h4 (fun e a w hp=>hT e a w (hp.mono h1 (fun _ _ _ h=>h)))
      · intro ρ' σ' w' p u h1 h2 h3 h4
        exact hT _ _ _ ⟨ρ',fr,σ',.panic p,h1,h2,F.mono h1,hd,.panic p u h3,h4⟩
    · rename_i hwt
      rw [if_neg hwt] at hw
      exact ops_sound E hS an n ds ops hops hgo hgb l (k + 1) hl' ρ _ σ _ w T g' sk' (hg' undef) hw.1 H (F.put hdst (.undef _)) (by rw [put_defers]; exact hd) hw.2 hT
theorem head_sound (hS:Ready P w0) (an:An) (n:Nat) (ds:List Deferred) (ops:Array Oper) (hops:∀ o ∈ ops.toList,∀ d,o.dst=some d->d < n) (hgo:guardsOk ops=true) (hgb:guardsBack ops=true) {Q:AEx->Fr->AS->Prop} (rest:List Oper) (H:RelH w0 ρ σ w) {T:Act->Prop} :
    ∀ (l:List Oper) (k:Nat),ops.toList.drop k=l ++ rest->(∀ o ∈ l,isStill an.isMu P o.dst o.op=true)->∀ (fr:Fr) (a:Act) (g:Option ((Nat × Bool) × Bool)) (sk:List Nat),Known ops k a g->Skipped ops k a sk->RelF ρ n fr a->a.defers=ds->opsD P env an ops Q (l ++ rest) k sk g fr σ ->
      (∀ fr' a' g' sk',Known ops (k + l.length) a' g'->Skipped ops (k + l.length) a' sk'->RelF ρ n fr' a'->a'.defers=ds->opsD P env an ops Q rest (k + l.length) sk' g' fr' σ->T a')->wpStill P ops w T l a
  | [],_,_,_,fr,a,g,sk,hg,hsk,F,hd,h,hT=>hT fr a g sk hg hsk F hd h
  | o :: l,k,hl,hs,fr0,a,g,sk,hg,hsk,F0,hd,h,hT=>by
    have hk:ops[k]?=some o:=by
      have:=congrArg (fun l:List Oper=>l[0]?) hl
      simpa [List.getElem?_drop] using this
    have hl':ops.toList.drop (k + 1)=l ++ rest:=by
      have:=congrArg (List.drop 1) hl
      simpa [List.drop_drop] using this
    have hmem:o ∈ ops.toList:=by
      obtain ⟨hlt,rfl⟩:=Array.getElem?_eq_some_iff.1 hk
      simp
    obtain ⟨g',sk',fr,F,hg',hw⟩:=ops_step (rest:=l ++ rest) F0 hops hgo hgb hk hg hsk h
    have hdst:∀ d,o.dst=some d->d < n:=hops o hmem
    have hs':∀ o ∈ l,isStill an.isMu P o.dst o.op=true:=fun o ho=>hs o (by simp [ho])
    have hlen:k + (o :: l).length=k + 1 + l.length:=by rw [List.length_cons]; omega
    rw [hlen] at hT
    unfold wpStill
    split
    · rename_i hwt
      rw [if_pos hwt] at hw
      obtain ⟨hk',hw⟩:=hw
      have hso:=hs o (by simp)
      unfold opD at hw
      rw [if_pos hso] at hw
      obtain ⟨v,u,h1,h2,h3⟩:=still_sound hS H F an.isMu o hso hw
      unfold Oper.still
      rw [h1,Oper.stillUpon_value]
      exact head_sound hS an n ds ops hops hgo hgb rest H l (k + 1) hl' hs' _ _ g' sk' (hg' u) (hk' u) (F.put hdst h2) (by rw [put_defers]; exact hd) h3 hT
    · rename_i hwt
      rw [if_neg hwt] at hw
      exact head_sound hS an n ds ops hops hgo hgb rest H l (k + 1) hl' hs' _ _ g' sk' (hg' undef) hw.1 (F.put hdst (.undef _)) (by rw [put_defers]; exact hd) hw.2 hT
theorem headLen_still (mu:Option Nat->Bool):∀ l:List Oper,∀ o ∈ l.take (headLen mu P l),isStill mu P o.dst o.op=true
  | [],o,h=>by simp at h
  | x :: l,o,h=>by
    unfold headLen at h
    split at h
    · rename_i hx
      simp only [List.take_succ_cons,List.mem_cons] at h
      rcases h with rfl | h
      · exact hx
      · exact headLen_still mu l o h
    · simp at h
def cntU (l:Array Bool):Nat:=(l.toList.filter fun b=>!b).length
theorem cnt_set:∀ (l:List Bool) (i:Nat),l[i]?=some false->((l.set i true).filter fun b=>!b).length + 1=(l.filter fun b=>!b).length
  | [],i,h=>by simp at h
  | b :: l,0,h=>by
    simp only [List.getElem?_cons_zero,Option.some.injEq] at h
    subst h
    simp
  | b :: l,i + 1,h=>by
    have ih:=cnt_set l i (by simpa using h)
    simp only [List.set_cons_succ,List.filter_cons]
    split <;> (try simp only [List.length_cons]) <;> omega
theorem cntU_set {l:Array Bool} {i:Nat} (h:l.getD i true=false):cntU (l.setIfInBounds i true) + 1=cntU l:=by
  unfold cntU
  have h1:l.toList[i]?=some false:=by
    by_cases hi:i < l.size
    · simp [hi] at h ⊢; exact h
    · simp [hi] at h
  have:=cnt_set l.toList i h1
  simpa using this
theorem allP_mem {k:Nat->Prop}:∀ {l:List Nat},allP l k->∀ i ∈ l,k i
  | [],_,i,hi=>by cases hi
  | j :: l,h,i,hi=>by
    rcases List.mem_cons.1 hi with rfl | hi
    · exact h.1
    · exact allP_mem h.2 i hi
def PostN (w0:World) (ρ:Gh) (n:Nat) (ds:List Deferred) (Q:AEx->Fr->AS->Prop):Exit->Act->World->Prop:=fun e a w=>match e with
  | .panic c=>a.tmps.size=n/\a.defers=ds/\∃ ρ' σ p u,ρ.le ρ'/\RelH w0 ρ' σ w/\c=[{ v:=u,recovered:=false }]/\RelP ρ'.imm p u/\Q (.panic p) [] σ
  | e=>Post w0 ρ n ds Q e a w
theorem PostN.mono {n:Nat} {ds:List Deferred} {Q:AEx->Fr->AS->Prop} (hm:ρ.le ρ') {e:Exit} {a:Act} {w:World} (h:PostN w0 ρ' n ds Q e a w):PostN w0 ρ n ds Q e a w:=by
  cases e with
  | panic c =>
    obtain ⟨h1,h2,ρ'',σ,p,u,h3,h4⟩:=h
    exact ⟨h1,h2,ρ'',σ,p,u,Gh.le_trans hm h3,h4⟩
  | _=>exact Post.mono hm (fun _ _ _ h=>h) h
theorem PostN.post {n:Nat} {ds:List Deferred} {Q:AEx->Fr->AS->Prop} {e:Exit} {a:Act} {w:World} (h:PostN w0 ρ n ds Q e a w):Post w0 ρ n ds Q e a w:=by
  cases e with
  | panic c =>
    obtain ⟨h1,h2,ρ'',σ,p,u,h3,h4,rfl,h5,h6⟩:=h
    exact ⟨ρ'',[],σ,.panic p,h3,h4,⟨h1,fun t=>.undef _⟩,h2,.panic p u h5,h6⟩
  | _=>exact h
theorem put_size (a:Act) (d:Option Nat) (v:Value):(a.put d v).tmps.size=a.tmps.size:=by cases d <;> simp [Act.put]
theorem PostN.put {n:Nat} {ds:List Deferred} {Q:AEx->Fr->AS->Prop} {c:List PanicEntry} {a:Act} {d:Option Nat} {v:Value} {w:World} (h:PostN w0 ρ n ds Q (.panic c) (a.put d v) w):PostN w0 ρ n ds Q (.panic c) a w:=by
  obtain ⟨h1,h2,h3⟩:=h
  exact ⟨by rwa [put_size] at h1,by rwa [put_defers] at h2,h3⟩
def SkippedA (ops:Array Oper) (listed:Array Bool) (a:Act) (sk:List Nat):Prop:=∀ j ∈ sk,listed.getD j false=true/\∀ d,(ops[j]?).bind (·.dst)=some d->(∀ (i:Nat) o',i ≠ j->ops[i]?=some o'->o'.dst ≠ some d)->a.tmps.getD d undef=undef
theorem listed_set {listed:Array Bool} {i j:Nat} (h:listed.getD j false=true):(listed.setIfInBounds i true).getD j false=true:=by
  simp only [Array.getD_eq_getD_getElem?] at h ⊢
  rw [Array.getElem?_setIfInBounds]
  split
  · split
    · rfl
    · rename_i e hlt
      subst e
      have:listed[i]?=none:=by simp; omega
      rw [this] at h; cases h
  · exact h
theorem SkippedA.put {ops:Array Oper} {listed:Array Bool} {a:Act} {sk:List Nat} (h:SkippedA ops listed a sk) {i:Nat} {o:Oper} (ho:ops[i]?=some o) (hun:listed.getD i true=false) (v:Value):SkippedA ops (listed.setIfInBounds i true) (a.put o.dst v) sk:=by
  intro j hj
  obtain ⟨h1,h2⟩:=h j hj
  refine ⟨listed_set h1,fun d hd hu=>?_⟩
  have h3:=h2 d hd hu
  have hij:i ≠ j:=by
    intro e; subst e
    simp only [Array.getD_eq_getD_getElem?] at h1 hun
    cases e:listed[i]? with
    | none=>rw [e] at h1; cases h1
    | some b=>rw [e] at h1 hun; simp at h1 hun; rw [h1] at hun; cases hun
  have hne:=hu i o hij ho
  cases hdst:o.dst with
  | none=>exact h3
  | some e =>
    have hed:e ≠ d:=fun he=>hne (by rw [hdst,he])
    have:(a.put (some e) v).tmps.getD d undef=a.tmps.getD d undef:=by simp [Act.put,Array.getElem?_setIfInBounds_ne hed]
    rw [this]
    exact h3
theorem SkippedA.skip {ops:Array Oper} {listed:Array Bool} {a:Act} {sk:List Nat} (h:SkippedA ops listed a sk) {i:Nat} {o:Oper} (ho:ops[i]?=some o) (hun:listed.getD i true=false):SkippedA ops (listed.setIfInBounds i true) (a.put o.dst undef) (i :: sk):=by
  intro j hj
  rcases List.mem_cons.1 hj with rfl | hj
  · refine ⟨?_,fun d hd _=>?_⟩
    · have hlt:j < listed.size:=by
        rcases Nat.lt_or_ge j listed.size with h | h
        · exact h
        · simp [Array.getD_eq_getD_getElem?,Array.getElem?_eq_none h] at hun
      simp [Array.getD_eq_getD_getElem?,hlt]
    · have:o.dst=some d:=by simpa [ho] using hd
      rw [this]
      simp [Act.put]
  · exact h.put ho hun undef j hj
theorem SkippedA.yields {ops:Array Oper} {listed:Array Bool} {a:Act} {sk:List Nat} (h:SkippedA ops listed a sk) {j d:Nat} (hj:j ∈ sk) (hd:(ops[j]?).bind (·.dst)=some d) (hu:∀ (i:Nat) o',i ≠ j->ops[i]?=some o'->o'.dst ≠ some d):yielded ops a.tmps j=none:=by
  have h1:=(h j hj).2 d hd hu
  unfold yielded
  rw [hd,Option.bind_some]
  cases e:a.tmps[d]? with
  | none=>rfl
  | some v =>
    have:a.tmps.getD d undef=v:=by simp [e]
    rw [this] at h1
    subst h1
    rfl
theorem one_step {an:An} {n:Nat} {fr:Fr} {a:Act} (F:RelF ρ n fr a) {ops:Array Oper} (hops:∀ o ∈ ops.toList,∀ d,o.dst=some d->d < n) (hgo:guardsOk ops=true) {listed:Array Bool} {sk:List Nat} (hsk:SkippedA ops listed a sk) {i:Nat} (hun:listed.getD i true=false)
    {X:PV->AS->Prop} {k:List Nat->Fr->AS->Prop} (h:oneD P env an.isMu ops X sk i fr σ k) :
    ∃ o,ops[i]?=some o/\∃ sk' fr',RelF ρ n fr' a/\((Region.wanted o (yielded ops a.tmps)=true/\(∀ v,SkippedA ops (listed.setIfInBounds i true) (a.put o.dst v) sk')/\opD P env an.isMu fr' σ o.dst o.op (fun v σ=>k sk' (fr'.put o.dst v) σ) X)
      \/ (Region.wanted o (yielded ops a.tmps)=false/\SkippedA ops (listed.setIfInBounds i true) (a.put o.dst undef) sk'/\k sk' (fr'.put o.dst .undef) σ)):=by
  unfold oneD atP at h
  split at h
  case h_2=>exact h.elim
  rename_i o ho
  refine ⟨o,ho,?_⟩
  split at h
  · rename_i hgd
    have hw:Region.wanted o (yielded ops a.tmps)=true:=by simp [Region.wanted,hgd]
    exact ⟨sk,fr,F,.inl ⟨hw,fun v=>hsk.put ho hun v,h⟩⟩
  · rename_i gd hgd
    obtain ⟨j,want⟩:=gd
    simp only at h
    obtain ⟨d',hd',hu'⟩:=guardsOk_spec hgo ho hgd
    split at h
    · rename_i hj
      have hj:j ∈ sk:=by simpa using hj
      have hw:Region.wanted o (yielded ops a.tmps)=false:=by
        simp only [Region.wanted,hgd,hsk.yields hj hd' hu']
        rfl
      exact ⟨i :: sk,fr,F,.inr ⟨hw,hsk.skip ho hun,h⟩⟩
    · split at h
      · rename_i d hd
        unfold guardD at h
        split at h
        · rename_i b hb
          have hy:=yields_rel F hops hd hb
          have hw:Region.wanted o (yielded ops a.tmps)=(b == want):=by
            simp only [Region.wanted,hgd,hy]
            cases b <;> cases want <;> rfl
          split at h
          · rename_i hbw
            subst hbw
            exact ⟨sk,_,F.know hb,.inl ⟨by rw [hw]; simp,fun v=>hsk.put ho hun v,h⟩⟩
          · rename_i hbw
            have hf:(b == want)=false:=by simpa using hbw
            have hbn:b=!want:=by cases b <;> cases want <;> simp_all
            exact ⟨i :: sk,_,F.know (by rw [hb,hbn]),.inr ⟨by rw [hw,hf],hsk.skip ho hun,h⟩⟩
        · exact h.elim
      · exact h.elim
theorem any_sound (E:EnvOk P env) (hS:Ready P w0) (an:An) (n:Nat) (ds:List Deferred) (ops:Array Oper) (hops:∀ o ∈ ops.toList,∀ d,o.dst=some d->d < n) (hgo:guardsOk ops=true) (hsel:Region.noSelect ops=true) {Q:AEx->Fr->AS->Prop} (ρ0:Gh) :
    ∀ (g f:Nat) (listed:Array Bool) (sk:List Nat) (ρ:Gh) (fr:Fr) (σ:AS) (a:Act) (w:World),ρ0.le ρ->cntU listed <= f->SkippedA ops listed a sk->RelH w0 ρ σ w->RelF ρ n fr a->a.defers=ds->anyD P env an ops Q g listed sk fr σ->wpAny P .any ops (PostN w0 ρ0 n ds Q) f listed a w:=by
  intro g
  induction g with
  | zero=>intro f listed sk ρ fr σ a w _ _ _ _ _ _ h; exact h.elim
  | succ g ih =>
    intro f listed sk ρ fr σ a w hle hf hsk H F hd h
    unfold anyD at h
    cases hr:Region.ready .any ops listed with
    | nil =>
      rw [hr] at h
      have hn:PostN w0 ρ0 n ds Q .normal a w:=⟨ρ,fr,σ,.normal,hle,H,F,hd,.normal,h⟩
      cases f with
      | zero=>exact ⟨hr,hn⟩
      | succ f=>exact ⟨fun _=>hn,by rw [hr]; intro i hi; cases hi⟩
    | cons i0 rs =>
      rw [hr] at h
      simp only at h
      have hun:∀ i ∈ i0 :: rs,listed.getD i true=false:=fun i hi=>(mem_ready.1 (by rw [hr]; exact hi)).1
      have hc:=cntU_set (hun i0 (by simp))
      obtain ⟨f,rfl⟩:∃ m,f=m + 1:=⟨f - 1,by omega⟩
      have hmem:∀ {i:Nat} {o:Oper},ops[i]?=some o->o ∈ ops.toList:=by
        intro i o ho
        obtain ⟨hlt,rfl⟩:=Array.getElem?_eq_some_iff.1 ho
        simp
      split at h
      · rename_i i hfi
        have hi:=List.mem_of_find?_eq_some hfi
        have hp:=List.find?_some hfi
        simp only [Bool.and_eq_true] at hp
        have hci:=cntU_set (hun i hi)
        obtain ⟨o,ho,sk',fr',F',hh⟩:=one_step F hops hgo hsk (hun i hi) h
        have hcm:=hp.1
        unfold isCalmAt at hcm
        rw [ho] at hcm
        simp only [Bool.and_eq_true] at hcm
        rcases hh with ⟨hw,hs1,hop⟩ | ⟨hw,hs1,hk⟩
        · have hst:stillD P fr' σ o.op fun v=>anyD P env an ops Q g (listed.setIfInBounds i true) sk' (fr'.put o.dst v) σ:=by
            unfold opD at hop
            rw [if_pos hcm.2] at hop
            exact hop
          obtain ⟨v,u,h1,h2,h3⟩:=calm_sound F' an.isMu o hcm.1 hst
          refine wpAny_take (v:=u) ho hsel hp.2 (by rw [hr]; simpa using hi) (fun c a w=>PostN.put) (.inl ⟨hw,h1⟩) ?_
          exact ih f _ sk' ρ _ σ _ w hle (by omega) (hs1 u) H (F'.put (hops o (hmem ho)) h2) (by rw [put_defers]; exact hd) h3
        · refine wpAny_take (v:=undef) ho hsel hp.2 (by rw [hr]; simpa using hi) (fun c a w=>PostN.put) (.inr ⟨hw,rfl⟩) ?_
          exact ih f _ sk' ρ _ σ _ w hle (by omega) hs1 H (F'.put (hops o (hmem ho)) (.undef _)) (by rw [put_defers]; exact hd) hk
      · refine wpAny_all hr (by simp) fun i hi=>?_
        have h2:=allP_mem h i hi
        have hci:=cntU_set (hun i hi)
        obtain ⟨o,ho,sk',fr',F',hh⟩:=one_step F hops hgo hsk (hun i hi) h2
        unfold wpOp
        rw [ho]
        simp only
        rcases hh with ⟨hw,hs1,hop⟩ | ⟨hw,hs1,hk⟩
        · rw [if_pos hw]
          refine .inl (op_sound E hS H F' an.isMu o hop ?_ ?_)
          · intro ρ' σ' w' v u h3 h4 h5 h6
            exact ih f _ sk' ρ' _ σ' _ w' (Gh.le_trans hle h3) (by omega) (hs1 u) h4 ((F'.mono h3).put (hops o (hmem ho)) h5) (by rw [put_defers]; exact hd) h6
          · intro ρ' σ' w' p u h3 h4 h5 h6
            exact ⟨F.size,hd,ρ',σ',p,u,Gh.le_trans hle h3,h4,rfl,h5,h6⟩
        · rw [if_neg (by rw [hw]; simp)]
          exact ih f _ sk' ρ _ σ _ w hle (by omega) hs1 H (F'.put (hops o (hmem ho)) (.undef _)) (by rw [put_defers]; exact hd) hk
theorem Fr.keep_get (fr:Fr):∀ (l:List Nat) (t:Nat),(Fr.keep fr l).get t=if t ∈ l then fr.get t else .undef
  | [],t=>rfl
  | s :: l,t=>by
    simp only [Fr.keep,List.map_cons,Fr.get]
    have ih:=Fr.keep_get fr l t
    unfold Fr.keep at ih
    rw [ih]
    by_cases h:s=t
    · subst h; simp
    · simp [h,Ne.symm h]
theorem Fr.app_keep (fr fr0:Fr):∀ (l:List Nat) (t:Nat),(Fr.keep fr l ++ fr0).get t=if t ∈ l then fr.get t else fr0.get t
  | [],t=>by simp [Fr.keep]
  | s :: l,t=>by
    have ih:=Fr.app_keep fr fr0 l t
    unfold Fr.keep at ih
    simp only [Fr.keep,List.map_cons,List.cons_append,Fr.get]
    rw [ih]
    by_cases hs:s=t
    · subst hs; simp
    · rw [if_neg hs]
      by_cases ht:t ∈ l
      · rw [if_pos ht,if_pos (List.mem_cons_of_mem _ ht)]
      · rw [if_neg ht,if_neg (fun h=>by rcases List.mem_cons.1 h with h | h; exact hs h.symm; exact ht h)]
theorem allB_use:∀ {n:Nat} {k:List Bool->Prop},allB n k->∀ bs:List Bool,bs.length=n->k bs
  | 0,k,h,bs,hb=>by
    have:bs=[]:=List.eq_nil_of_length_eq_zero hb
    subst this; exact h
  | n + 1,k,h,bs,hb=>by
    cases bs with
    | nil=>cases hb
    | cons b bs=>exact allB_use (h b) bs (by simpa using hb)
theorem allV_keep':∀ (l:List Nat) (k:Fr->Prop) (fr:Fr),allV l k->k (fr.keep l)
  | [],k,fr,h=>h
  | t :: l,k,fr,h=>allV_keep' l (fun f=>k ((t,fr.get t) :: f)) fr (h (fr.get t))
theorem depsB_of {bs:List Bool}:∀ {l:List Edge},(∀ e ∈ l,Region.binds .any e=true->bs.getD e.on false=true)->depsB bs l
  | [],_=>trivial
  | e :: es,h=>by
    refine ⟨?_,depsB_of (fun x hx=>h x (List.mem_cons_of_mem _ hx))⟩
    split
    · rename_i hb; exact h e (List.mem_cons_self ..) hb
    · trivial
theorem invSteps_at {mu:Option Nat->Bool} {X:PV->AS->Prop} {I:List Bool->List AV->AS->Prop} {D:List Nat} {bs:List Bool} {fr:Fr}:∀ {l:List Oper} {k:Nat},invSteps P env mu X I D bs fr σ l k->∀ (j:Nat) (o:Oper),l[j]?=some o ->
    bs.getD (k + j) true=false->depsB bs o.after.toList->opD P env mu fr σ o.dst o.op (fun v σ=>I (bs.set (k + j) true) (D.map (fr.put o.dst v).get) σ) X
  | [],k,_,j,o,ho=>by cases ho
  | x :: l,k,h,0,o,ho=>by cases ho; exact h.1
  | x :: l,k,h,j + 1,o,ho=>by
    have:=invSteps_at h.2 j o (by simpa using ho)
    have e:k + 1 + j=k + (j + 1):=by omega
    rw [e] at this
    exact this
theorem ready_all {ops:Array Oper} (hb:edgesBack ops=true) {listed:Array Bool} (hs:listed.size=ops.size) (hr:Region.ready .any ops listed=[]):∀ i,i < ops.size->listed.getD i true=true:=by
  intro i
  induction i using Nat.strongRecOn with
  | _ i ih =>
    intro hi
    cases hl:listed.getD i true with
    | true=>rfl
    | false =>
      exfalso
      have ho:ops[i]?=some ops[i]:=Array.getElem?_eq_getElem hi
      have hbk:=List.all_eq_true.1 hb i (List.mem_range.2 hi)
      rw [ho] at hbk
      simp only at hbk
      have:i ∈ Region.ready .any ops listed:=mem_ready.2 ⟨hl,ops[i],ho,fun e he hbind=>by
        have h1:=Array.all_eq_true'.1 hbk e he
        rw [hbind] at h1
        have h2:e.on < i:=by simpa using h1
        have h3:=ih e.on h2 (by omega)
        have h4:e.on < listed.size:=by omega
        rw [Array.getD_eq_getD_getElem?,Array.getElem?_eq_getElem h4] at h3 ⊢
        exact h3⟩
      rw [hr] at this
      cases this
theorem inv_sound (E:EnvOk P env) (hS:Ready P w0) (an:An) (n:Nat) (ds:List Deferred) (ops:Array Oper) (hops:∀ o ∈ ops.toList,∀ d,o.dst=some d->d < n) (hng:(ops.all fun o=>o.guard.isNone)=true) (hbk:edgesBack ops=true) {Q:AEx->Fr->AS->Prop} (ρ0:Gh) (fr0:Fr) (I:List Bool->List AV->AS->Prop)
    (hI:allB ops.size fun bs=>allV (dstsOf ops) fun frv=>∀ σ,I bs ((dstsOf ops).map (Fr.get (frv ++ fr0))) σ ->
      invSteps P env an.isMu (fun p σ=>Q (.panic p) [] σ) I (dstsOf ops) bs (frv ++ fr0) σ ops.toList 0/\(bs.all id=true->Q .normal (frv ++ fr0) σ)) :
    ∀ (f:Nat) (listed:Array Bool) (ρ:Gh) (fr:Fr) (σ:AS) (a:Act) (w:World),listed.size=ops.size->ρ0.le ρ->cntU listed <= f->RelH w0 ρ σ w->RelF ρ n fr a->(∀ t,t ∉ dstsOf ops->fr.get t=fr0.get t)->a.defers=ds->I listed.toList ((dstsOf ops).map fr.get) σ->wpAny P .any ops (PostN w0 ρ0 n ds Q) f listed a w:=by
  intro f
  induction f with
  | zero =>
    intro listed ρ fr σ a w hs hle hf H F hG hd h
    have hall:∀ i ∈ Region.ready .any ops listed,False:=fun i hi=>by
      have:=cntU_set (mem_ready.1 hi).1
      omega
    have hr:Region.ready .any ops listed=[]:=by
      cases hr:Region.ready .any ops listed with
      | nil=>rfl
      | cons i l=>exact (hall i (by rw [hr]; simp)).elim
    have hget:∀ t,(fr.keep (dstsOf ops) ++ fr0).get t=fr.get t:=fun t=>by
      rw [Fr.app_keep]
      split
      · rfl
      · rename_i ht; exact (hG t ht).symm
    have hmap:(dstsOf ops).map (Fr.get (fr.keep (dstsOf ops) ++ fr0))=(dstsOf ops).map fr.get:=List.map_congr_left (fun t _=>hget t)
    have:=allV_keep' _ _ fr (allB_use hI listed.toList (by simpa using hs)) σ (by rw [hmap]; exact h)
    have hallT:listed.toList.all id=true:=by
      rw [List.all_eq_true]
      intro b hb
      obtain ⟨i,hi,rfl⟩:=List.getElem_of_mem hb
      have hi':i < listed.size:=by simpa using hi
      have:=ready_all hbk hs hr i (by omega)
      rw [Array.getD_eq_getD_getElem?,Array.getElem?_eq_getElem hi'] at this
      simpa using this
    exact ⟨hr,ρ,_,σ,.normal,hle,H,⟨F.size,fun t=>by rw [hget]; exact F.get t⟩,hd,.normal,this.2 hallT⟩
  | succ f ih =>
    intro listed ρ fr σ a w hs hle hf H F hG hd h
    have hget:∀ t,(fr.keep (dstsOf ops) ++ fr0).get t=fr.get t:=fun t=>by
      rw [Fr.app_keep]
      split
      · rfl
      · rename_i ht; exact (hG t ht).symm
    have hmap:(dstsOf ops).map (Fr.get (fr.keep (dstsOf ops) ++ fr0))=(dstsOf ops).map fr.get:=List.map_congr_left (fun t _=>hget t)
    have hst:=allV_keep' _ _ fr (allB_use hI listed.toList (by simpa using hs)) σ (by rw [hmap]; exact h)
    have F2:RelF ρ n (fr.keep (dstsOf ops) ++ fr0) a:=⟨F.size,fun t=>by rw [hget]; exact F.get t⟩
    cases hr:Region.ready .any ops listed with
    | nil =>
      have hallT:listed.toList.all id=true:=by
        rw [List.all_eq_true]
        intro b hb
        obtain ⟨i,hi,rfl⟩:=List.getElem_of_mem hb
        have hi':i < listed.size:=by simpa using hi
        have:=ready_all hbk hs hr i (by omega)
        rw [Array.getD_eq_getD_getElem?,Array.getElem?_eq_getElem hi'] at this
        simpa using this
      exact ⟨fun _=>⟨ρ,_,σ,.normal,hle,H,F2,hd,.normal,hst.2 hallT⟩,by rw [hr]; intro i hi; cases hi⟩
    | cons i0 rs =>
      refine wpAny_all hr (by simp) fun i hi=>?_
      obtain ⟨hun,o,ho,hdeps⟩:=mem_ready.1 (show i ∈ Region.ready .any ops listed by rw [hr]; exact hi)
      have hci:=cntU_set hun
      have hmem:o ∈ ops.toList:=by
        obtain ⟨hlt,rfl⟩:=Array.getElem?_eq_some_iff.1 ho
        simp
      have hg:o.guard=none:=by
        have:=Array.all_eq_true'.1 hng o (by simpa using hmem)
        simpa using this
      have hw:Region.wanted o (yielded ops a.tmps)=true:=by simp [Region.wanted,hg]
      have hgd:∀ (j:Nat) (d:Bool),listed.toList.getD j d=listed.getD j d:=fun j d=>by
        rw [List.getD_eq_getElem?_getD,Array.getD_eq_getD_getElem?,Array.getElem?_toList]
      have hop:=invSteps_at hst.1 i o (by rw [Array.getElem?_toList]; exact ho) (by rw [Nat.zero_add,hgd]; exact hun) (depsB_of fun e he hb=>by rw [hgd]; exact hdeps e (by simpa using he) hb)
      rw [Nat.zero_add] at hop
      unfold wpOp
      rw [ho]
      simp only
      rw [if_pos hw]
      refine .inl (op_sound E hS H F2 an.isMu o hop ?_ ?_)
      · intro ρ' σ' w' v u h3 h4 h5 h6
        refine ih _ ρ' _ σ' _ w' (by simpa using hs) (Gh.le_trans hle h3) (by omega) h4 ((F2.mono h3).put (hops o hmem) h5) (fun t ht=>?_) (by rw [put_defers]; exact hd) (by rw [Array.toList_setIfInBounds]; exact h6)
        cases hdst:o.dst with
        | none=>show (fr.keep (dstsOf ops) ++ fr0).get t=fr0.get t; rw [hget]; exact hG t ht
        | some d =>
          rw [Fr.get_put,if_neg]
          · rw [hget]; exact hG t ht
          · rintro rfl
            exact ht (List.mem_filterMap.2 ⟨o,hmem,hdst⟩)
      · intro ρ' σ' w' p u h3 h4 h5 h6
        exact ⟨F.size,hd,ρ',σ',p,u,Gh.le_trans hle h3,h4,rfl,h5,h6⟩
theorem region_sound0 (hm:P.follows .mixedOrders=true) (E:EnvOk P env) (hS:Ready P w0) (an:An) (n:Nat) (ds:List Deferred) (id:Nat) (ops:Array Oper) (draw:Bool) (hninv:¬ an.inv.contains id=true) (hany:¬ an.any.contains id=true) (hok:okCode an P n (.region id ops draw)=true) {Q:AEx->Fr->AS->Prop}
    {ρ:Gh} {fr:Fr} {σ:AS} {a:Act} {w:World} {T:Exit->Act->World->Prop} (H:RelH w0 ρ σ w) (F:RelF ρ n fr a) (hd:a.defers=ds) (h:opsD P env an ops Q ops.toList 0 [] none fr σ)
    (hT:∀ e a w,Post w0 ρ n ds Q e a w->T e a w):(Code.region id ops draw).wp P T a w:=by
  simp only [okCode,if_neg hninv,if_neg hany,Bool.and_eq_true] at hok
  obtain ⟨⟨⟨h1,hgo⟩,hgb⟩,h2⟩:=hok
  have hops:∀ o ∈ ops.toList,∀ d,o.dst=some d->d < n:=by
    intro o ho d hd
    have:=Array.all_eq_true'.1 h1 o (by simpa using ho)
    rw [hd] at this
    simpa using this
  cases draw with
  | false=>exact wp_region_list (ops_sound E hS an n ds ops hops hgo hgb ops.toList 0 rfl ρ fr σ a w T none [] trivial (fun _ h=>by cases h) H F hd h hT)
  | true =>
    have H':=H.drawn (w.drawn + 1)
    have hhl:=headLen_still (P:=P) an.isMu ops.toList
    simp only [Bool.not_true,Bool.false_or,Bool.or_eq_true,Bool.and_eq_true,beq_iff_eq] at h2
    rcases h2 with ⟨hB,hlen⟩ | hB
    · refine wp_region_still hm hB ?_
      have htake:ops.toList.take (headLen an.isMu P ops.toList)=ops.toList:=by rw [hlen]; exact List.take_of_length_le (by simp)
      rw [htake] at hhl
      refine head_sound hS an n ds ops hops hgo hgb [] H' ops.toList 0 (by simp) hhl fr a none [] trivial (fun _ h=>by cases h) F hd (by rw [List.append_nil]; exact h) ?_
      intro fr' a' g' sk' _ _ F' hd' hQ
      exact hT _ _ _ ⟨ρ,fr',σ,.normal,Gh.le_refl ρ,H',F',hd',.normal,hQ⟩
    · have hB':Region.lexTailB .any ops.toList.toArray (headLen an.isMu P ops.toList)=true:=by simpa using hB
      have:=wp_region_still_tail (id:=id) (P:=P) (Q:=T) (a:=a) (w:=w) (l:=ops.toList) (headLen an.isMu P ops.toList) hm hB' ?_
      · simpa using this
      · have e:ops.toList.toArray=ops:=by simp
        rw [e]
        have hle:headLen an.isMu P ops.toList <= ops.toList.length:=by
          have:∀ l:List Oper,headLen an.isMu P l <= l.length:=by
            intro l
            induction l with
            | nil=>exact Nat.le_refl _
            | cons x l ih=>unfold headLen; split <;> simp <;> omega
          exact this _
        refine head_sound hS an n ds ops hops hgo hgb (ops.toList.drop (headLen an.isMu P ops.toList)) H' (ops.toList.take (headLen an.isMu P ops.toList)) 0 (by simp) hhl fr a none [] trivial (fun _ h=>by cases h) F hd (by rw [List.take_append_drop]; exact h) ?_
        intro fr' a' g' sk' hk' hsk' F' hd' hQ
        have hlen:(ops.toList.take (headLen an.isMu P ops.toList)).length=headLen an.isMu P ops.toList:=by rw [List.length_take]; omega
        rw [Nat.zero_add,hlen] at hk' hsk' hQ
        exact ops_sound E hS an n ds ops hops hgo hgb _ (headLen an.isMu P ops.toList) rfl ρ fr' σ a' _ T g' sk' hk' hsk' H' F' hd' hQ hT
theorem region_sound (hm:P.follows .mixedOrders=true) (E:EnvOk P env) (hS:Ready P w0) (an:An) (n:Nat) (ds:List Deferred) (id:Nat) (ops:Array Oper) (draw:Bool) (hok:okCode an P n (.region id ops draw)=true) {Q:AEx->Fr->AS->Prop}
    {ρ:Gh} {fr:Fr} {σ:AS} {a:Act} {w:World} {T:Exit->Act->World->Prop} (H:RelH w0 ρ σ w) (F:RelF ρ n fr a) (hd:a.defers=ds) (h:wpD P env an (.region id ops draw) Q fr σ)
    (hT:∀ e a w,Post w0 ρ n ds Q e a w->T e a w):(Code.region id ops draw).wp P T a w:=by
  unfold wpD at h
  by_cases hinv:an.inv.contains id=true
  · rw [if_pos hinv] at h
    unfold okCode at hok
    rw [if_pos hinv] at hok
    simp only [Bool.and_eq_true] at hok
    obtain ⟨⟨⟨⟨hdr,h1⟩,h2⟩,h3⟩,h4⟩:=hok
    subst hdr
    have hops:∀ o ∈ ops.toList,∀ d,o.dst=some d->d < n:=by
      intro o ho d hd
      have:=Array.all_eq_true'.1 h1 o (by simpa using ho)
      rw [hd] at this
      simpa using this
    have hcnt:cntU (Array.replicate ops.size false) <= ops.size:=by
      unfold cntU
      refine Nat.le_trans (List.length_filter_le _ _) (by simp)
    refine Code.wp_mono (Q:=PostN w0 ρ n ds Q) (fun e a w (hp:PostN w0 ρ n ds Q e a w)=>hT e a w hp.post) (wp_region_any hm ?_)
    obtain ⟨I,hI0,hI⟩:=h
    exact inv_sound E hS an n ds ops hops h2 h3 ρ fr I hI ops.size _ ρ fr σ a _ (by simp) (Gh.le_refl ρ) hcnt (H.drawn (w.drawn + 1)) F (fun _ _=>rfl) hd (by simpa using hI0)
  rw [if_neg hinv] at h
  by_cases hany:an.any.contains id=true
  · rw [if_pos hany] at h
    unfold okCode at hok
    rw [if_neg hinv,if_pos hany] at hok
    simp only [Bool.and_eq_true] at hok
    obtain ⟨⟨⟨hdr,h1⟩,h2⟩,h3⟩:=hok
    subst hdr
    have hops:∀ o ∈ ops.toList,∀ d,o.dst=some d->d < n:=by
      intro o ho d hd
      have:=Array.all_eq_true'.1 h1 o (by simpa using ho)
      rw [hd] at this
      simpa using this
    have hcnt:cntU (Array.replicate ops.size false) <= ops.size:=by
      unfold cntU
      refine Nat.le_trans (List.length_filter_le _ _) (by simp)
    refine Code.wp_mono (Q:=PostN w0 ρ n ds Q) (fun e a w (hp:PostN w0 ρ n ds Q e a w)=>hT e a w hp.post) (wp_region_any hm ?_)
    exact any_sound E hS an n ds ops hops h2 h3 ρ _ _ _ [] ρ fr σ a _ (Gh.le_refl ρ) hcnt (fun _ h=>by cases h) (H.drawn (w.drawn + 1)) F hd h
  · rw [if_neg hany] at h
    exact region_sound0 hm E hS an n ds id ops draw hinv hany hok H F hd h hT
theorem RelF.keep {n:Nat} {fr:Fr} {a:Act} (F:RelF ρ n fr a) (l:List Nat):RelF ρ n (fr.keep l) a :=
  ⟨F.size,fun t=>by
    rw [Fr.keep_get]
    split
    · exact F.get t
    · exact .undef _⟩
theorem allV_keep:∀ (l:List Nat) (k:Fr->Prop) (fr:Fr),allV l k->k (fr.keep l)
  | [],k,fr,h=>h
  | t :: l,k,fr,h=>allV_keep l (fun f=>k ((t,fr.get t) :: f)) fr (h (fr.get t))
theorem keep_map (fr:Fr) (l:List Nat):l.map (fr.keep l).get=l.map fr.get:=by
  apply List.map_congr_left
  intro t ht
  rw [Fr.keep_get,if_pos ht]
def Exit.jumps (J:Nat->Act->World->Prop) (T:Exit->Act->World->Prop):Exit->Act->World->Prop
  | .goto l,a,w=>J l a w
  | e,a,w=>T e a w
theorem wp_scope_two {c:Code} {a:Act} {w:World} {T:Exit->Act->World->Prop}
    (h:c.wp P (Exit.jumps (fun l a w=>∃ rest,findLabel c l=some rest/\rest.wp P (Exit.jumps (fun l a w=>∃ rest,findLabel c l=some rest/\rest.wp P (Exit.jumps (fun _ _ _=>False) T) a w) T) a w) T) a w):(Code.scope c).wp P T a w:=by
  intro b k cs
  have hg:∀ {l rest},findLabel c l=some rest->gotoIn l (.inScope c :: k)=some (.code rest :: .inScope c :: k):=fun hf=>by simp [gotoIn,hf]
  have key:∀ (J:Nat->Act->World->Prop),(∀ l a w,J l a w->∃ rest,findLabel c l=some rest/\∃ e a' w',T e a' w'/\Arrives P (lone (b.at a (.code rest :: .inScope c :: k)) cs w) b k cs e a' w') ->
      ∀ (d:Code) a w,d.wp P (Exit.jumps J T) a w->∃ e a' w',T e a' w'/\Arrives P (lone (b.at a (.code d :: .inScope c :: k)) cs w) b k cs e a' w':=by
    intro J hJ d a w hd
    obtain ⟨e,a₁,w₁,hq,harr⟩:=hd b (.inScope c :: k) cs
    cases e with
    | normal=>exact ⟨.normal,a₁,w₁,hq,Steps.trans harr (.one step_inScope)⟩
    | exit id=>exact ⟨.exit id,a₁,w₁,hq,fun k' hk=>harr k' (by simp [exitTo,hk])⟩
    | goto l =>
      obtain ⟨rest,hf,e₂,a₂,w₂,hq₂,harr₂⟩:=hJ l a₁ w₁ hq
      exact ⟨e₂,a₂,w₂,hq₂,.of_steps (harr _ (hg hf)) harr₂⟩
    | ret=>exact ⟨_,a₁,w₁,hq,harr⟩
    | panic ch=>exact ⟨_,a₁,w₁,hq,harr⟩
    | outgrown=>exact ⟨_,a₁,w₁,hq,harr⟩
  obtain ⟨e,a',w',hq,harr⟩:=key _ (fun l a w ⟨rest,hf,hw⟩=>⟨rest,hf,key _ (fun l a w ⟨rest,hf,hw⟩=>⟨rest,hf,key _ (fun l a w h=>h.elim) rest a w hw⟩) rest a w hw⟩) c a w h
  exact ⟨e,a',w',hq,.of_steps (.one step_scope) harr⟩
theorem code_sound2 (hm:P.follows .mixedOrders=true) (E:EnvOk P env) (hS:Ready P w0) (an:An) (n:Nat) (ds:List Deferred)  : ∀ (c:Code),okCode an P n c=true->(∀ {Q:AEx->Fr->AS->Prop} {fr:Fr} {σ:AS},
    wpD P env an c Q fr σ->∀ {ρ:Gh} {a:Act} {w:World} {T:Exit->Act->World->Prop},RelH w0 ρ σ w->RelF ρ n fr a->a.defers=ds->(∀ e a w,Post w0 ρ n ds Q e a w->T e a w)->c.wp P T a w) /\
    (∀ {Q:AEx->Fr->AS->Prop} {fr:Fr} {σ:AS} (l:Nat),wpL P env an c l Q fr σ->∃ rest,findLabel c l=some rest/\∀ {ρ:Gh} {a:Act} {w:World} {T:Exit->Act->World->Prop},RelH w0 ρ σ w->RelF ρ n fr a->a.defers=ds->(∀ e a w,Post w0 ρ n ds Q e a w->T e a w)->rest.wp P T a w):=by
  intro c
  induction c with
  | skip=>exact fun _=>⟨fun h _ _ _ _ H F hd hT=>wp_skip (hT _ _ _ ⟨_,_,_,.normal,Gh.le_refl _,H,F,hd,.normal,h⟩),fun _ h=>h.elim⟩
  | label l =>
    refine fun _=>⟨fun h _ _ _ _ H F hd hT=>wp_label (hT _ _ _ ⟨_,_,_,.normal,Gh.le_refl _,H,F,hd,.normal,h⟩),fun l' h=>?_⟩
    unfold wpL at h
    split at h
    · rename_i hl
      exact ⟨.skip,by unfold findLabel; rw [if_pos hl],fun H F hd hT=>wp_skip (hT _ _ _ ⟨_,_,_,.normal,Gh.le_refl _,H,F,hd,.normal,h⟩)⟩
    · exact h.elim
  | exit id=>exact fun _=>⟨fun h _ _ _ _ H F hd hT=>wp_exit (hT _ _ _ ⟨_,_,_,.exit id,Gh.le_refl _,H,F,hd,.exit id,h⟩),fun _ h=>h.elim⟩
  | goto l=>exact fun _=>⟨fun h _ _ _ _ H F hd hT=>wp_goto (hT _ _ _ ⟨_,_,_,.goto l,Gh.le_refl _,H,F,hd,.goto l,h⟩),fun _ h=>h.elim⟩
  | ret=>exact fun _=>⟨fun h _ _ _ _ H F hd hT=>wp_ret (hT _ _ _ ⟨_,_,_,.ret,Gh.le_refl _,H,F,hd,.ret,h⟩),fun _ h=>h.elim⟩
  | region id ops draw=>exact fun hok=>⟨fun h _ _ _ _ H F hd hT=>region_sound hm E hS an n ds id ops draw hok H F hd h hT,fun _ h=>h.elim⟩
  | seq x y ihx ihy =>
    intro hok
    simp only [okCode,Bool.and_eq_true] at hok
    have go:∀ {Q:AEx->Fr->AS->Prop} {ρ:Gh} {T:Exit->Act->World->Prop},(∀ e a w,Post w0 ρ n ds Q e a w->T e a w) ->
        ∀ e a w,Post w0 ρ n ds (seqQ (keptAt an.cut (firstR y)) (fun fr σ=>wpD P env an y Q fr σ) Q) e a w->Exit.then (y.wp P T) T e a w:=by
      rintro Q ρ T hT e a' w' ⟨ρ',fr',σ',e',h1,h2,h3,h4,h5,h6⟩
      cases h5 with
      | normal =>
        simp only [seqQ,cutK] at h6
        split at h6
        · rename_i l hl
          exact (ihy hok.2).1 h6 h2 (h3.keep l) h4 (fun e a w hp=>hT e a w (hp.mono h1 (fun _ _ _ h=>h)))
        · exact (ihy hok.2).1 h6 h2 h3 h4 (fun e a w hp=>hT e a w (hp.mono h1 (fun _ _ _ h=>h)))
      | exit id=>exact hT _ _ _ ⟨ρ',fr',σ',_,h1,h2,h3,h4,.exit id,h6⟩
      | goto l=>exact hT _ _ _ ⟨ρ',fr',σ',_,h1,h2,h3,h4,.goto l,h6⟩
      | ret=>exact hT _ _ _ ⟨ρ',fr',σ',_,h1,h2,h3,h4,.ret,h6⟩
      | panic p u hp=>exact hT _ _ _ ⟨ρ',fr',σ',_,h1,h2,h3,h4,.panic p u hp,h6⟩
    constructor
    · intro Q fr σ h ρ a w T H F hd hT
      exact wp_seq ((ihx hok.1).1 h H F hd (go hT))
    · intro Q fr σ l h
      unfold wpL at h
      split at h
      · rename_i hl
        obtain ⟨rest,hr,hw⟩:=(ihx hok.1).2 l h
        exact ⟨.seq rest y,by unfold findLabel; rw [hr],fun H F hd hT=>wp_seq (hw H F hd (go hT))⟩
      · rename_i hl
        obtain ⟨rest,hr,hw⟩:=(ihy hok.2).2 l h
        refine ⟨rest,?_,hw⟩
        unfold findLabel
        cases hx:findLabel x l with
        | none=>exact hr
        | some r=>rw [hx] at hl; exact absurd rfl hl
  | cond c x y ihx ihy =>
    intro hok
    refine ⟨?_,fun _ h=>h.elim⟩
    intro Q fr σ h ρ a w T H F hd hT
    simp only [okCode,Bool.and_eq_true] at hok
    simp only [wpD,condD] at h
    split at h
    · rename_i t ht
      have hc:=ev_rel F c
      rw [ht] at hc
      refine wp_cond (relBool hc) ?_
      cases t with
      | true=>exact (ihx hok.1).1 (by simpa using h) H F hd hT
      | false=>exact (ihy hok.2).1 (by simpa using h) H F hd hT
    · exact h.elim
  | block id b ih =>
    intro hok
    refine ⟨?_,fun _ h=>h.elim⟩
    intro Q fr σ h ρ a w T H F hd hT
    refine wp_block ((ih hok).1 h H F hd ?_)
    rintro e a' w' ⟨ρ',fr',σ',e',h1,h2,h3,h4,h5,h6⟩
    cases h5 with
    | normal=>exact hT _ _ _ ⟨ρ',fr',σ',_,h1,h2,h3,h4,.normal,h6⟩
    | exit i =>
      simp only [blockQ] at h6
      show Exit.inBlock id T (.exit i) a' w'
      simp only [Exit.inBlock]
      split
      · rename_i hi
        rw [if_pos hi] at h6
        exact hT _ _ _ ⟨ρ',fr',σ',.normal,h1,h2,h3,h4,.normal,h6⟩
      · rename_i hi
        rw [if_neg hi] at h6
        exact hT _ _ _ ⟨ρ',fr',σ',.exit i,h1,h2,h3,h4,.exit i,h6⟩
    | goto l=>exact hT _ _ _ ⟨ρ',fr',σ',_,h1,h2,h3,h4,.goto l,h6⟩
    | ret=>exact hT _ _ _ ⟨ρ',fr',σ',_,h1,h2,h3,h4,.ret,h6⟩
    | panic p u hp=>exact hT _ _ _ ⟨ρ',fr',σ',_,h1,h2,h3,h4,.panic p u hp,h6⟩
  | loop b ih =>
    intro hok
    refine ⟨?_,fun _ h=>h.elim⟩
    intro Q fr σ h ρ a w T H F hd hT
    simp only [wpD] at h
    split at h
    · rename_i l hl
      obtain ⟨I,⟨m,hm0⟩,hI⟩:=h
      have key:∀ (M m:Nat),m <= M->∀ (ρ:Gh) (fr:Fr) (σ:AS) (a:Act) (w:World),RelH w0 ρ σ w->RelF ρ n fr a->a.defers=ds->I m (l.map fr.get) σ->(∀ e a w,Post w0 ρ n ds Q e a w->T e a w)->Code.rounds P b T (M + 1) a w:=by
        intro M
        induction M with
        | zero =>
          intro m hmM ρ fr σ a w H F hd hi hT
          rw [rounds_succ]
          have hstep:=allV_keep l _ fr (hI m) σ (by rw [keep_map]; exact hi)
          refine (ih hok).1 hstep H (F.keep l) hd ?_
          rintro e a' w' ⟨ρ',fr',σ',e',h1,h2,h3,h4,h5,h6⟩
          cases h5 with
          | normal=>obtain ⟨m',hlt,_⟩:=h6; omega
          | exit id=>exact hT _ _ _ ⟨ρ',fr',σ',_,h1,h2,h3,h4,.exit id,h6⟩
          | goto l=>exact hT _ _ _ ⟨ρ',fr',σ',_,h1,h2,h3,h4,.goto l,h6⟩
          | ret=>exact hT _ _ _ ⟨ρ',fr',σ',_,h1,h2,h3,h4,.ret,h6⟩
          | panic p u hp=>exact hT _ _ _ ⟨ρ',fr',σ',_,h1,h2,h3,h4,.panic p u hp,h6⟩
        | succ M ihM =>
          intro m hmM ρ fr σ a w H F hd hi hT
          rw [rounds_succ]
          have hstep:=allV_keep l _ fr (hI m) σ (by rw [keep_map]; exact hi)
          refine (ih hok).1 hstep H (F.keep l) hd ?_
          rintro e a' w' ⟨ρ',fr',σ',e',h1,h2,h3,h4,h5,h6⟩
          cases h5 with
          | normal =>
            obtain ⟨m',hlt,hi'⟩:=h6
            exact ihM m' (by omega) ρ' fr' σ' a' w' h2 h3 h4 hi' (fun e a w hp=>hT e a w (hp.mono h1 (fun _ _ _ h=>h)))
          | exit id=>exact hT _ _ _ ⟨ρ',fr',σ',_,h1,h2,h3,h4,.exit id,h6⟩
          | goto l=>exact hT _ _ _ ⟨ρ',fr',σ',_,h1,h2,h3,h4,.goto l,h6⟩
          | ret=>exact hT _ _ _ ⟨ρ',fr',σ',_,h1,h2,h3,h4,.ret,h6⟩
          | panic p u hp=>exact hT _ _ _ ⟨ρ',fr',σ',_,h1,h2,h3,h4,.panic p u hp,h6⟩
      exact wp_loop_rounds (m + 1) (key m m (Nat.le_refl _) ρ fr σ a w H F hd hm0 hT)
    · exact h.elim
  | rangeFunc=>exact fun _=>⟨fun h=>h.elim,fun _ h=>h.elim⟩
  | scope c ih =>
    intro hok
    refine ⟨?_,fun _ h=>h.elim⟩
    intro Q fr σ h ρ a w T H F hd hT
    have ih:=ih hok
    have post:∀ (J:Nat->Fr->AS->Prop) (JT:Nat->Act->World->Prop),(∀ l ρ' fr' σ' a' w',ρ.le ρ'->RelH w0 ρ' σ' w'->RelF ρ' n fr' a'->a'.defers=ds->J l fr' σ'->JT l a' w') ->
        ∀ {ρ1:Gh},ρ.le ρ1->∀ e a w,Post w0 ρ1 n ds (gtQ J Q) e a w->Exit.jumps JT T e a w:=by
      rintro J JT hJ ρ1 h0 e a' w' ⟨ρ',fr',σ',e',h1,h2,h3,h4,h5,h6⟩
      have h1':=Gh.le_trans h0 h1
      cases h5 with
      | normal=>exact hT _ _ _ ⟨ρ',fr',σ',_,h1',h2,h3,h4,.normal,h6⟩
      | exit id=>exact hT _ _ _ ⟨ρ',fr',σ',_,h1',h2,h3,h4,.exit id,h6⟩
      | goto l=>exact hJ l ρ' fr' σ' a' w' h1' h2 h3 h4 h6
      | ret=>exact hT _ _ _ ⟨ρ',fr',σ',_,h1',h2,h3,h4,.ret,h6⟩
      | panic p u hp=>exact hT _ _ _ ⟨ρ',fr',σ',_,h1',h2,h3,h4,.panic p u hp,h6⟩
    refine wp_scope_two (ih.1 h H F hd (post _ (fun l a w=>∃ rest,findLabel c l=some rest/\rest.wp P (Exit.jumps (fun l a w=>∃ rest,findLabel c l=some rest/\rest.wp P (Exit.jumps (fun _ _ _=>False) T) a w) T) a w) ?_ (Gh.le_refl ρ)))
    intro l ρ1 fr1 σ1 a1 w1 h1 h2 h3 h4 h5
    obtain ⟨rest,hr,hw⟩:=ih.2 l h5
    refine ⟨rest,hr,hw h2 h3 h4 (post _ _ ?_ h1)⟩
    intro l ρ1 fr1 σ1 a1 w1 h1 h2 h3 h4 h5
    obtain ⟨rest,hr,hw⟩:=ih.2 l h5
    exact ⟨rest,hr,hw h2 h3 h4 (post _ _ (fun _ _ _ _ _ _ _ _ _ _ h=>h.elim) h1)⟩
  | refuse=>exact fun _=>⟨fun h=>h.elim,fun _ h=>h.elim⟩
theorem code_sound (hm:P.follows .mixedOrders=true) (E:EnvOk P env) (hS:Ready P w0) (an:An) (n:Nat) (ds:List Deferred):∀ (c:Code),okCode an P n c=true->∀ {Q:AEx->Fr->AS->Prop} {fr:Fr} {σ:AS},
    wpD P env an c Q fr σ->∀ {ρ:Gh} {a:Act} {w:World} {T:Exit->Act->World->Prop},RelH w0 ρ σ w->RelF ρ n fr a->a.defers=ds->(∀ e a w,Post w0 ρ n ds Q e a w->T e a w)->c.wp P T a w :=
  fun c hok=>(code_sound2 hm E hS an n ds c hok).1
end
end Go.AD

set_option linter.unusedVariables false
set_option linter.unusedSimpArgs false
namespace Go.AD
open RowKit
section
variable {P:Program} {w0 w w':World} {ρ ρ':Gh} {σ:AS} {env:Env}
theorem wk1_sound {a r:AV} {u:Value} (h:RelV ρ a u) (hw:wk1 a r):RelV ρ r u:=by
  rcases hw with rfl | ⟨p,hp,rfl⟩
  · exact h
  · exact .pv (toPV_rel h hp)
theorem wkL_sound:∀ {az bs:List AV} {us:List Value},RelL ρ az us->wkL az bs->RelL ρ bs us
  | [],[],us,h,_=>h
  | a :: az,b :: bs,us,h,hw=>by
    obtain ⟨v,vs,rfl,hv,hr⟩:=h.uncons
    exact .cons (wk1_sound hv hw.1) (wkL_sound hr hw.2)
  | [],_ :: _,_,_,hw=>hw.elim
  | _ :: _,[],_,_,hw=>hw.elim
theorem wk_sound {a r:AV} {u:Value} (h:RelV ρ a u) (hw:wk a r):RelV ρ r u:=by
  rcases hw with hw | hw
  · exact wk1_sound h hw
  · split at hw
    · obtain ⟨us,rfl,hr⟩:=inv_tuple h
      exact RelV.of_tuple (wkL_sound hr hw)
    · obtain ⟨us,rfl,hr⟩:=inv_agg h
      exact RelV.of_agg (wkL_sound hr hw)
    · exact hw.elim
def resV (tmps:Array Value):ResultVar->Sem Value
  | .tmp t=>pure (tmps.getD t undef)
  | .cell a t=>do loadVar t (<- asAddr (tmps.getD a undef))
theorem results_eq (fn:Func) (tmps:Array Value):results fn tmps=(do let vs <- fn.results.mapM (resV tmps); pure (if h:vs.size=1 then vs[0] else .tuple vs)):=by
  have e:(fun (x:ResultVar)=>(match x with | .tmp t=>pure (tmps.getD t undef) | .cell a t=>do loadVar t (<- asAddr (tmps.getD a undef)):Sem Value))=resV tmps:=by
    funext x
    cases x <;> rfl
  rw [<- e]
  rfl
theorem inv_elemQ {cs:List PV} {off:Nat} {u:Value} (h:RelV ρ (.elemP cs off) u):∃ x:Addr,u=.pointer (some x):=by
  cases h with | elemP cells off b o vs hl hi hr=>exact ⟨_,rfl⟩
theorem results_sound (hS:Ready P w0) (H:RelH w0 ρ σ w) {n:Nat} {fr:Fr} {a:Act} (F:RelF ρ n fr a):∀ (rs:List ResultVar) (K:List AV->Prop),resultsD P fr σ rs K ->
    ∃ vs us,(rs.mapM (resV a.tmps)).run P w=.ok us w/\RelL ρ vs us/\K vs
  | [],K,h=>⟨[],[],rfl,.nil ρ,h⟩
  | .tmp t :: rs,K,h=>by
    obtain ⟨vs,us,h1,h2,h3⟩:=results_sound hS H F rs _ h
    exact ⟨_,_,by simp only [List.mapM_cons,resV,Sem.run_bind,Sem.run_pure,Result.andThen_ok,h1],.cons (F.get t) h2,h3⟩
  | .cell b t :: rs,K,h=>by
    simp only [resultsD,lock_eq] at h
    have hx:=F.get b
    obtain ⟨ax,hax⟩:∃ x:Addr,a.tmps.getD b undef=.pointer (some x):=by
      have h':=h
      unfold loadD at h'
      obtain ⟨_,h'⟩:=h'
      split at h'
      · rename_i id off hb
        rw [hb] at hx
        obtain ⟨b',o',m',e,_⟩:=inv_addr hx
        exact ⟨_,e⟩
      · rename_i cs off hb
        rw [hb] at hx
        exact inv_elemQ hx
      · rename_i g off hb
        rw [hb] at hx
        exact ⟨_,inv_glob hx⟩
      · exact h'.elim
    obtain ⟨v,r,h1,h2,h3⟩:=loadD_sound (P:=P) hS H h hx
    obtain ⟨vs,us,h4,h5,h6⟩:=results_sound hS H F rs _ h3
    rw [hax] at h1
    simp only [Instr.loadAt,Instr.sureAddr,Sem.run_bind,Sem.run_pure,Result.andThen_ok] at h1
    refine ⟨_,_,?_,.cons h2 h5,h6⟩
    simp only [List.mapM_cons,resV,hax,asAddr,Sem.run_bind,Sem.run_pure,Result.andThen_ok,h1,h4]
theorem ret_sound (hS:Ready P w0) (H:RelH w0 ρ σ w) {n:Nat} {fr:Fr} {a:Act} (F:RelF ρ n fr a) (fn:Func) {K:AV->AS->Prop} (h:retD P fn K fr σ) :
    ∃ r u σ',(results fn a.tmps).run P w=.ok u w/\RelV ρ r u/\σ'.sub σ/\K r σ':=by
  obtain ⟨vs,us,h1,h2,r,σ',h3,h4,h5⟩:=results_sound hS H F fn.results.toList _ h
  have hrun:(results fn a.tmps).run P w=.ok (if h:us.toArray.size=1 then us.toArray[0] else .tuple us.toArray) w:=by
    rw [results_eq,Array.mapM_eq_mapM_toList]
    simp only [Sem.run_bind,Sem.run_map,Sem.run_pure,Result.andThen_ok,h1]
  refine ⟨r,_,σ',hrun,wk_sound ?_ h3,h4,h5⟩
  split
  · rename_i v
    obtain ⟨u,us',rfl,hu,hr⟩:=h2.uncons
    rw [hr.nil_inv]
    simpa using hu
  · rename_i vs' hne
    have:¬ us.toArray.size=1:=by
      intro h1'
      have hl:vs.length=1:=by rw [<- h2.1]; simpa using h1'
      match vs,hl with
      | [v],_=>exact hne v rfl
    rw [dif_neg this]
    exact RelV.of_tuple h2
theorem frOf_get:∀ (args:List AV) (i t:Nat),(frOf i args).get t=if i <= t then (args[t - i]?).getD .undef else .undef
  | [],i,t=>by simp [frOf,Fr.get]
  | v :: vs,i,t=>by
    rw [frOf,Fr.get,frOf_get vs (i + 1) t]
    by_cases h:i=t
    · subst h; simp
    · rw [if_neg h]
      by_cases h2:i <= t
      · rw [if_pos h2,if_pos (by omega)]
        obtain ⟨k,rfl⟩:∃ k,t=i + 1 + k:=⟨t - (i + 1),by omega⟩
        rw [show i + 1 + k - (i + 1)=k by omega,show i + 1 + k - i=k + 1 by omega]
        simp
      · rw [if_neg h2,if_neg (by omega)]
theorem frOf_rel {args:List AV} {us:List Value} (h:RelL ρ args us) (n:Nat) (hn:args.length <= n) (ds:List Deferred):RelF ρ n (frOf 0 args) { tmps:=us.toArray ++ Array.replicate (n - us.toArray.size) undef,defers:=ds }:=by
  have hl:=h.1
  refine ⟨by simp; omega,fun t=>?_⟩
  rw [frOf_get,if_pos (Nat.zero_le t),Nat.sub_zero]
  by_cases ht:t < args.length
  · obtain ⟨v,h1,h2⟩:=h.get? t (List.getElem?_eq_getElem ht)
    rw [List.getElem?_eq_getElem ht,Option.getD_some]
    have:(us.toArray ++ Array.replicate (n - us.toArray.size) undef).getD t undef=v:=by
      have hlt:t < us.length:=by omega
      rw [List.getElem?_eq_getElem hlt] at h1
      simp [Array.getElem?_append,hlt]
      exact Option.some.inj h1
    rw [this]
    exact h2
  · rw [List.getElem?_eq_none (by omega)]
    exact .undef _
theorem body_sound (hm:P.follows .mixedOrders=true) (E:EnvOk P env) (an:An) {f:FuncId} {fn:Func} (hf:P.funcs[f]?=some fn) (hcall:∀ (args:Array Value) (w:World),(callFunc f args).run P w=.ok (.enter f args) w)
    (hok:(match fn.body with | some c=>okCode an P fn.ntmps c | none=>false)=true) {T:Tr} (hT:∀ args σ K X,T args σ K X->bodyD P env an fn args σ K X):SoundF P f T:=by
  intro w0 hS ρ σ w args us K X H hr h
  refine ⟨hcall _ w,?_⟩
  have h:=hT _ _ _ _ h
  unfold bodyD at h
  split at h
  case isFalse=>exact h.elim
  rename_i hn
  cases hc:fn.body with
  | none=>rw [hc] at hok; cases hok
  | some c =>
    rw [hc] at hok
    have hbc:bodyC fn=c:=by simp [bodyC,hc]
    rw [hbc] at h
    refine calls_of_wp hf hc (code_sound hm E hS an fn.ntmps [] c hok h H (frOf_rel hr _ hn []) rfl ?_)
    rintro e a w' ⟨ρ',fr,σ',e',h1,h2,h3,h4,h5,h6⟩
    cases h5 with
    | normal =>
      obtain ⟨r,u,σ2,k1,k2,k3,k4⟩:=ret_sound hS h2 h3 fn h6
      exact ⟨h4,u,k1,ρ',σ2,h1,h2.sub k3,r,k2,k4⟩
    | ret =>
      obtain ⟨r,u,σ2,k1,k2,k3,k4⟩:=ret_sound hS h2 h3 fn h6
      exact ⟨h4,u,k1,ρ',σ2,h1,h2.sub k3,r,k2,k4⟩
    | panic p u hp =>
      obtain ⟨σ2,k3,k4⟩:=h6
      exact ⟨h4,ρ',σ2,h1,h2.sub k3,p,u,rfl,hp,k4⟩
    | exit id=>exact h6.elim
    | goto l=>exact h6.elim
def noTr:Tr:=fun _ _ _ _=>False
def env0:Env:=fun _=>noTr
def Env.add (env:Env) (f:FuncId) (T:Tr):Env:=fun g=>if g=f then T else env g
theorem env0_ok (P:Program):EnvOk P env0:=fun _=>.inl fun _ _ _ _ _ _ _ _ _ _ _ h=>h.elim
theorem EnvOk.add (E:EnvOk P env) {f:FuncId} {T:Tr} (h:SoundF P f T):EnvOk P (env.add f T):=by
  intro g
  by_cases hg:g=f
  · subst hg
    have:(env.add g T) g=T:=by simp [Env.add]
    rw [this]
    exact .inl h
  · have:(env.add f T) g=env g:=by simp [Env.add,hg]
    rw [this]
    exact E g
theorem EnvOk.addX (E:EnvOk P env) {f:FuncId} {T:Tr} (h:SoundX P f T):EnvOk P (env.add f T):=by
  intro g
  by_cases hg:g=f
  · subst hg
    have:(env.add g T) g=T:=by simp [Env.add]
    rw [this]
    exact .inr h
  · have:(env.add f T) g=env g:=by simp [Env.add,hg]
    rw [this]
    exact E g
def Gh.start (W:World):Gh:={ imm:=fun b o=>W.cell? ⟨b,o,none⟩,loc:=fun _=>none,lin:=fun _ _=>none }
def AS.none:AS:=fun _=>Option.none
theorem RelH.start (W:World):RelH W (Gh.start W) AS.none W where
  below:=Below.refl _ _
  imm:=fun _ _ _ h=>h
  base:=fun _ _ _ h=>h
  obj:=fun _ _ h=>by cases h
  apart:=fun _ _ _ _ h=>by cases h
  bound:=⟨0,fun _ _=>⟨rfl,fun _=>rfl,rfl⟩⟩
theorem law_sound {f:FuncId} {T:Tr} (S:SoundF P f T) {W:World} (hS:Ready P W) {args:List AV} {us:List Value} (hr:RelL (Gh.start W) args us) (h:T args AS.none (fun r _=>r=.pv (.bool true)) (fun _ _=>False)) :
    Calls P f us.toArray W fun e W'=>e=.returned (.bool true)/\Below W.heap.size W W':=by
  obtain ⟨_,h2⟩:=S W hS _ _ W args us _ _ (RelH.start W) hr h
  refine h2.mono fun e W' hh=>?_
  obtain ⟨ρ',σ',h1,H,hh⟩:=hh
  cases e with
  | returned u =>
    obtain ⟨r,hr,rfl⟩:=hh
    exact ⟨by rw [relBool hr],H.below⟩
  | panicked ch=>obtain ⟨_,_,_,_,h⟩:=hh; exact h.elim
  | outgrown=>exact hh.elim
theorem start_int (W:World) (k:IntKind) (n:Int):RelV (Gh.start W) (.pv (.int k n)) (.int k n):=.pv (.int k n)
end
def Inv {α:Type} (enc:α->List AV) (μ:α->AS->Nat) (I:α->AS->Prop):Nat->List AV->AS->Prop:=fun m vs σ=>∃ a,vs=enc a/\m=μ a σ/\I a σ
theorem back {α:Type} {enc:α->List AV} {μ:α->AS->Nat} {I:α->AS->Prop} {M:Nat} {vs:List AV} {σ:AS} (a:α) (h1:vs=enc a) (h2:μ a σ < M) (h3:I a σ):∃ m',m' < M/\Inv enc μ I m' vs σ :=
  ⟨_,h2,a,h1,rfl,h3⟩
end Go.AD
