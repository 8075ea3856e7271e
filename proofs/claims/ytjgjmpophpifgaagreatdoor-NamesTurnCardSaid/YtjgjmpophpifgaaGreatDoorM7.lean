import Derived.Test.YtjgjmpophpifgaaGreatDoorM6
import Derived.Lib.IndexMore
import Derived.Lib.Strings
import Derived.Lib.Bytealg
import Derived.Test.YtjgjmpophpifgaaGreatDoorChecked
import Derived.Lib.Builder
import Derived.Lib.UnsafeStr
import Derived.Lib.Walk
import Derived.Shelf.RegionOpenPlain
set_option linter.unusedVariables false
namespace Go.AD
section
variable {P:Program} {σ τ:AS} {t:TypeId} {K:AV->Prop} {k:IntKind} {a b:Int}
attribute [go_sem] lock_eq
@[go_sem] theorem set_same (σ:AS) (i:Nat) (o:AObj):(σ.set i o) i=some o:=by simp [AS.set]
theorem set_ne (σ:AS) {i j:Nat} (o:AObj) (h:j ≠ i):(σ.set i o) j=σ j:=by simp [AS.set,h]
@[go_sem] theorem del_same (σ:AS) (i:Nat):(σ.del i) i=none:=by simp [AS.del]
theorem del_ne (σ:AS) {i j:Nat} (h:j ≠ i):(σ.del i) j=σ j:=by simp [AS.del,h]
@[go_sem] theorem set_set (σ:AS) (i:Nat) (o o':AObj):(σ.set i o).set i o'=σ.set i o':=by
  funext j; simp only [AS.set]; split <;> rfl
theorem sub_refl (σ:AS):σ.sub σ:=fun _ _ h=>h
theorem AS.sub.trans {σ τ υ:AS} (h:σ.sub τ) (h':τ.sub υ):σ.sub υ:=fun i o x=>h' i o (h i o x)
theorem sub_set {σ:AS} {i:Nat} (o:AObj) (h:σ i=none):σ.sub (σ.set i o):=by
  intro j o' hj
  by_cases e:j=i
  · subst e; rw [h] at hj; cases hj
  · rw [set_ne σ o e]; exact hj
@[go_sem] theorem bin_add:binD P .add t (.pv (.int k a)) (.pv (.int k b)) K=K (.pv (.int k (k.wrap (a + b)))):=by simp [binD,intOp]
@[go_sem] theorem bin_sub:binD P .sub t (.pv (.int k a)) (.pv (.int k b)) K=K (.pv (.int k (k.wrap (a - b)))):=by simp [binD,intOp]
@[go_sem] theorem bin_mul:binD P .mul t (.pv (.int k a)) (.pv (.int k b)) K=K (.pv (.int k (k.wrap (a * b)))):=by simp [binD,intOp]
@[go_sem] theorem bin_quo:binD P .quo t (.pv (.int k a)) (.pv (.int k b)) K=(b ≠ 0/\K (.pv (.int k (k.wrap (a.tdiv b))))):=by simp [binD,intOp]
@[go_sem] theorem bin_rem:binD P .rem t (.pv (.int k a)) (.pv (.int k b)) K=(b ≠ 0/\K (.pv (.int k (a.tmod b)))):=by simp [binD,intOp]
@[go_sem] theorem bin_and:binD P .and t (.pv (.int k a)) (.pv (.int k b)) K=K (.pv (.int k (k.wrap (BitVec.ofInt k.bits a &&& BitVec.ofInt k.bits b).toNat))):=by simp [binD,intOp]
@[go_sem] theorem bin_or:binD P .or t (.pv (.int k a)) (.pv (.int k b)) K=K (.pv (.int k (k.wrap (BitVec.ofInt k.bits a ||| BitVec.ofInt k.bits b).toNat))):=by simp [binD,intOp]
@[go_sem] theorem bin_xor:binD P .xor t (.pv (.int k a)) (.pv (.int k b)) K=K (.pv (.int k (k.wrap (BitVec.ofInt k.bits a ^^^ BitVec.ofInt k.bits b).toNat))):=by simp [binD,intOp]
@[go_sem] theorem bin_eql:binD P .eql t (.pv (.int k a)) (.pv (.int k b)) K=K (.pv (.bool (a == b))):=by simp [binD,intOp]
@[go_sem] theorem bin_neq:binD P .neq t (.pv (.int k a)) (.pv (.int k b)) K=K (.pv (.bool (a != b))):=by simp [binD,intOp]
@[go_sem] theorem bin_lss:binD P .lss t (.pv (.int k a)) (.pv (.int k b)) K=K (.pv (.bool (a < b))):=by simp [binD,intOp]
@[go_sem] theorem bin_leq:binD P .leq t (.pv (.int k a)) (.pv (.int k b)) K=K (.pv (.bool (a <= b))):=by simp [binD,intOp]
@[go_sem] theorem bin_gtr:binD P .gtr t (.pv (.int k a)) (.pv (.int k b)) K=K (.pv (.bool (a > b))):=by simp [binD,intOp]
@[go_sem] theorem bin_geq:binD P .geq t (.pv (.int k a)) (.pv (.int k b)) K=K (.pv (.bool (a ≥ b))):=by simp [binD,intOp]
@[go_sem] theorem bin_shl {k':IntKind}:binD P .shl t (.pv (.int k a)) (.pv (.int k' b)) K=(0 <= b/\K (.pv (.int k (k.wrap (a * 2 ^ min b.toNat k.bits))))):=by simp [binD,shiftOp]
@[go_sem] theorem bin_shr {k':IntKind}:binD P .shr t (.pv (.int k a)) (.pv (.int k' b)) K=(0 <= b/\K (.pv (.int k (a.fdiv (2 ^ min b.toNat k.bits))))):=by simp [binD,shiftOp]
variable {x y:List UInt8}
@[go_sem] theorem bin_cat:binD P .add t (.pv (.str x)) (.pv (.str y)) K=(x.length + y.length <= 9223372036854775807/\K (.pv (.str (x ++ y)))):=by simp [binD,strOp]
@[go_sem] theorem bin_seql:binD P .eql t (.pv (.str x)) (.pv (.str y)) K=K (.pv (.bool (x == y))):=by simp [binD,strOp]
@[go_sem] theorem bin_sneq:binD P .neq t (.pv (.str x)) (.pv (.str y)) K=K (.pv (.bool (!(x == y)))):=by simp [binD,strOp]
@[go_sem] theorem bin_slss:binD P .lss t (.pv (.str x)) (.pv (.str y)) K=K (.pv (.bool (Op.bytesLess x y))):=by simp [binD,strOp]
@[go_sem] theorem bin_sleq:binD P .leq t (.pv (.str x)) (.pv (.str y)) K=K (.pv (.bool (Op.bytesLess x y || x == y))):=by simp [binD,strOp]
@[go_sem] theorem bin_sgtr:binD P .gtr t (.pv (.str x)) (.pv (.str y)) K=K (.pv (.bool (!(Op.bytesLess x y || x == y)))):=by simp [binD,strOp]
@[go_sem] theorem bin_sgeq:binD P .geq t (.pv (.str x)) (.pv (.str y)) K=K (.pv (.bool (!(Op.bytesLess x y)))):=by simp [binD,strOp]
theorem bin_beql {p q:Bool} (h:P.underlying t=some .bool):binD P .eql t (.pv (.bool p)) (.pv (.bool q)) K=K (.pv (.bool (p == q))):=by simp [binD,eqD,h]
@[go_sem] theorem un_not {p:Bool}:unD .not (.pv (.bool p)) K=K (.pv (.bool (!p))):=rfl
@[go_sem] theorem un_neg:unD .neg (.pv (.int k a)) K=K (.pv (.int k (k.wrap (0 - a)))):=rfl
@[go_sem] theorem cond_bool {p:Bool} {A B:Prop}:condD (.pv (.bool p)) A B=if p=true then A else B:=rfl
@[go_sem] theorem guard_true {p:Bool} {A B:Prop}:guardD (.pv (.bool p)) true A B=if p=true then A else B:=rfl
@[go_sem] theorem guard_false {p:Bool} {A B:Prop}:guardD (.pv (.bool p)) false A B=if p=true then B else A:=by
  cases p <;> simp [guardD]
@[go_sem] theorem pick_bool {p:Bool} {A B:AV}:pickD (.pv (.bool p)) A B K=K (if p=true then A else B):=rfl
@[go_sem] theorem max_one:foldD max2D (.pv (.int k a)) [.pv (.int k b)] K=K (.pv (.int k (max a b))):=by
  simp only [foldD,max2D]
  congr 3
  omega
@[go_sem] theorem min_one:foldD min2D (.pv (.int k a)) [.pv (.int k b)] K=K (.pv (.int k (min a b))):=by
  simp only [foldD,min2D]
  congr 3
  omega
variable {n off id size:Nat} {cs:List PV} {i:Int}
theorem isSlice {e:TypeId} (h:elOf P t=some e):P.underlying t=some (.slice e):=by
  unfold elOf at h; split at h
  · rename_i e' h'; cases h; exact h'
  · cases h
theorem isSlice' (h:(elOf P t).isSome=true):P.underlying t=some (.slice ((elOf P t).getD 0)):=by
  cases he:elOf P t with
  | none=>rw [he] at h; cases h
  | some e=>simpa using isSlice he
@[go_sem] theorem len_lst (h:(elOf P t).isSome=true):lenD P t (.pv (.lst n cs)) K=K (.pv (.int .i64 n)):=by simp only [lenD,isSlice' h]
@[go_sem] theorem len_grow (h:(elOf P t).isSome=true):lenD P t (.grow id n cs) K=K (.pv (.int .i64 n)):=by simp only [lenD,isSlice' h]
@[go_sem] theorem len_full (h:(elOf P t).isSome=true):lenD P t (.full n cs) K=K (.pv (.int .i64 n)):=by simp only [lenD,isSlice' h]
@[go_sem] theorem len_msl (h:(elOf P t).isSome=true):lenD P t (.msl id off n size) K=K (.pv (.int .i64 n)):=by simp only [lenD,isSlice' h]
@[go_sem] theorem len_nil (h:(elOf P t).isSome=true):lenD P t .nilS K=K (.pv (.int .i64 0)):=by simp only [lenD,isSlice' h]
theorem len_str (h:P.underlying t=some .string):lenD P t (.pv (.str x)) K=K (.pv (.int .i64 x.length)):=by simp only [lenD,h]
theorem len_of {v:AV} (ht:(elOf P t).isSome=true) (h:toPV v=some (.lst n cs)):lenD P t v K=K (.pv (.int .i64 n)):=by
  cases v with
  | pv p=>simp only [toPV,Option.some.injEq] at h; subst h; exact len_lst ht
  | nilS=>simp only [toPV,Option.some.injEq,PV.lst.injEq] at h; rw [<- h.1]; exact len_nil ht
  | grow=>simp only [toPV,Option.some.injEq,PV.lst.injEq] at h; rw [<- h.1]; exact len_grow ht
  | full=>simp only [toPV,Option.some.injEq,PV.lst.injEq] at h; rw [<- h.1]; exact len_full ht
  | clo f a b=>cases a <;> cases b <;> simp [toPV] at h
  | _=>simp [toPV] at h
@[go_sem] theorem ix_lst (h:(elOf P t).isSome=true):indexAddrD P t (.pv (.lst n cs)) (.pv (.int k i)) K=((inf P ((elOf P t).getD 0)).isSome=true/\n * szOf P ((elOf P t).getD 0) <= cs.length/\0 < szOf P ((elOf P t).getD 0)/\0 <= i/\i < (n:Int)/\K (.elemP cs (i.toNat * szOf P ((elOf P t).getD 0)))):=by
  simp only [indexAddrD,isSlice' h]
@[go_sem] theorem ix_grow (h:(elOf P t).isSome=true):indexAddrD P t (.grow id n cs) (.pv (.int k i)) K=((inf P ((elOf P t).getD 0)).isSome=true/\n * szOf P ((elOf P t).getD 0) <= cs.length/\0 < szOf P ((elOf P t).getD 0)/\0 <= i/\i < (n:Int)/\K (.elemP cs (i.toNat * szOf P ((elOf P t).getD 0)))):=by
  simp only [indexAddrD,isSlice' h]
@[go_sem] theorem ix_full (h:(elOf P t).isSome=true):indexAddrD P t (.full n cs) (.pv (.int k i)) K=((inf P ((elOf P t).getD 0)).isSome=true/\n * szOf P ((elOf P t).getD 0) <= cs.length/\0 < szOf P ((elOf P t).getD 0)/\0 <= i/\i < (n:Int)/\K (.elemP cs (i.toNat * szOf P ((elOf P t).getD 0)))):=by
  simp only [indexAddrD,isSlice' h]
@[go_sem] theorem ix_msl (h:(elOf P t).isSome=true):indexAddrD P t (.msl id off n size) (.pv (.int k i)) K=((inf P ((elOf P t).getD 0)).isSome=true/\0 <= i/\i < (n:Int)/\K (.addr id (off + i.toNat * szOf P ((elOf P t).getD 0)))):=by
  simp only [indexAddrD,isSlice' h]
theorem ix_of {v:AV} (ht:(elOf P t).isSome=true) (h:toPV v=some (.lst n cs)) (h1:(inf P ((elOf P t).getD 0)).isSome=true) (h2:n * szOf P ((elOf P t).getD 0) <= cs.length) (h3:0 < szOf P ((elOf P t).getD 0)) (h4:0 <= i) (h5:i < (n:Int)) (hK:K (.elemP cs (i.toNat * szOf P ((elOf P t).getD 0)))) :
    indexAddrD P t v (.pv (.int k i)) K:=by
  cases v with
  | pv p=>simp only [toPV,Option.some.injEq] at h; subst h; rw [ix_lst ht]; exact ⟨h1,h2,h3,h4,h5,hK⟩
  | nilS=>simp only [toPV,Option.some.injEq,PV.lst.injEq] at h; omega
  | grow=>simp only [toPV,Option.some.injEq,PV.lst.injEq] at h; obtain ⟨rfl,rfl⟩:=h; rw [ix_grow ht]; exact ⟨h1,h2,h3,h4,h5,hK⟩
  | full=>simp only [toPV,Option.some.injEq,PV.lst.injEq] at h; obtain ⟨rfl,rfl⟩:=h; rw [ix_full ht]; exact ⟨h1,h2,h3,h4,h5,hK⟩
  | clo f a b=>cases a <;> cases b <;> simp [toPV] at h
  | _=>simp [toPV] at h
theorem ix_str (h:P.underlying t=some .string):indexD P t (.pv (.str x)) (.pv (.int k i)) K=(0 <= i/\∃ b,x[i.toNat]?=some b/\K (.pv (.int .u8 b.toNat))):=by
  simp only [indexD,h,true_and]
  cases x[i.toNat]? <;> simp
variable {s f:Nat}
@[go_sem] theorem fa_addr (h:(fieldOff P s f).isSome=true):fieldAddrD P s (.addr id off) f K=(hasT P ((fieldOff P s f).getD (0,0)).2=true/\0 < szOf P ((fieldOff P s f).getD (0,0)).2/\K (.addr id (off + ((fieldOff P s f).getD (0,0)).1))):=by
  cases e:fieldOff P s f with
  | none=>rw [e] at h; cases h
  | some x=>simp only [fieldAddrD,e,movePtr,Option.getD_some,Nat.pos_iff_ne_zero]
@[go_sem] theorem fa_elem (h:(fieldOff P s f).isSome=true):fieldAddrD P s (.elemP cs off) f K=(hasT P ((fieldOff P s f).getD (0,0)).2=true/\0 < szOf P ((fieldOff P s f).getD (0,0)).2/\K (.elemP cs (off + ((fieldOff P s f).getD (0,0)).1))):=by
  cases e:fieldOff P s f with
  | none=>rw [e] at h; cases h
  | some x=>simp only [fieldAddrD,e,movePtr,Option.getD_some,Nat.pos_iff_ne_zero]
@[go_sem] theorem nil_addr:nilD (.addr id off) K=K (.addr id off):=rfl
@[go_sem] theorem nil_elem:nilD (.elemP cs off) K=K (.elemP cs off):=rfl
@[go_sem] theorem load_elem (h:hasT P t=true) (h2:aggB P t=false):loadD P σ t (.elemP cs off) K=(∃ v,cs[off]?=some v/\K (.pv v)):=by
  simp only [loadD,h,h2,true_and]
  cases cs[off]? <;> simp
@[go_sem] theorem load_elemA (h:hasT P t=true) (h2:aggB P t=true):loadD P σ t (.elemP cs off) K=(off + szOf P t <= cs.length/\K (.agg (((cs.drop off).take (szOf P t)).map .pv))):=by simp [loadD,h,h2]
theorem load_addrA (h:hasT P t=true) (h2:aggB P t=true) {az:List AV} {var:Option TypeId} (h3:σ id=some (.cells az var)):loadD P σ t (.addr id off) K=(off + szOf P t <= az.length/\K (.agg ((az.drop off).take (szOf P t)))):=by simp [loadD,h,h2,h3]
theorem store_addr {K:AS->Prop} {v:AV} {az:List AV} {var:Option TypeId} (h:hasT P t=true) (h1:v.cells.length=szOf P t) (h2:v.cells.all AV.cellOk=true) (h3:σ id=some (.cells az var)) :
    storeD P σ t (.addr id off) v K=(off + v.cells.length <= az.length/\K (σ.set id (.cells (setAll az off v.cells) var))):=by simp [storeD,h,h1,h2,h3]
theorem toPVs_pv:∀ ys:List PV,toPVs (ys.map .pv)=some ys
  | []=>rfl
  | y :: ys=>by simp [toPVs,toPV,toPVs_pv ys]
theorem all_pv_ok:∀ ys:List PV,(ys.map AV.pv).all AV.cellOk=true
  | []=>rfl
  | y :: ys=>by simp [AV.cellOk]
def RowT (P:Program) (t e:TypeId):Prop:=elOf P t=some e/\0 < szOf P e/\∃ z,zeroOf P e=some z/\z.length=szOf P e
section
variable {e:TypeId} {m:Nat} {ys:List PV} {v:AV} {K:AV->AS->Prop}
theorem app_nil (he:RowT P t e) (hx:shown P σ e v=some (m,ys)) (hl:ys.length=m * szOf P e) (hm:m ≠ 0) (hb:m * byOf P e <= 140737488355328) (hn:m <= 9223372036854775807)
    (h:∀ id,σ id=none->K (.grow id m ys) (σ.set id (.front m (szOf P e) (some e)))):appendD P false σ t .nilS v K:=by
  obtain ⟨h1,h2,z,h3,h4⟩:=he
  simp only [appendD,appendCore,h1,h2,h3,h4,hx,hl,hm,if_false,true_and]
  refine ⟨hb,hn,?_⟩
  simp only [newRowD,Bool.false_eq_true,if_false,toPVs_pv]
  exact h
theorem app_nilM (he:RowT P t e) (hx:shown P σ e v=some (m,ys)) (hl:ys.length=m * szOf P e) (hm:m ≠ 0) (hb:m * byOf P e <= 140737488355328) (hn:m <= 9223372036854775807)
    (h:∀ id,σ id=none->K (.msl id 0 m (szOf P e)) (σ.set id (.cells (ys.map .pv) none))):appendD P true σ t .nilS v K:=by
  obtain ⟨h1,h2,z,h3,h4⟩:=he
  simp only [appendD,appendCore,h1,h2,h3,h4,hx,hl,hm,if_false,true_and]
  refine ⟨hb,hn,?_⟩
  simp only [newRowD,if_true]
  exact ⟨all_pv_ok ys,h⟩
theorem app_grow {mu:Bool} (he:RowT P t e) (hx:shown P σ e v=some (m,ys)) (hl:ys.length=m * szOf P e) {mk:Option TypeId} (hg:σ id=some (.front n (szOf P e) mk)) (hm0:m ≠ 0) (hc:cs.length=n * szOf P e) (hb:(n + m) * byOf P e <= 140737488355328) (hn:n + m <= 9223372036854775807)
    (h:K (.grow id (n + m) (cs ++ ys)) (σ.set id (.front (n + m) (szOf P e) (if mk=some e then mk else none)))):appendD P mu σ t (.grow id n cs) v K:=by
  obtain ⟨h1,h2,z,h3,h4⟩:=he
  simp only [appendD,appendCore,h1,h2,h3,h4,hx,hl,hg,hm0,if_false,true_and]
  exact ⟨hc,hb,hn,h⟩
theorem app_msl {mu:Bool} {az:List AV} (he:RowT P t e) (hx:shown P σ e v=some (m,ys)) (hl:ys.length=m * szOf P e) {var:Option TypeId} (hg:σ id=some (.cells az var)) (hs:size=szOf P e) (hc:az.length=off + n * szOf P e) (hb:(n + m) * byOf P e <= 140737488355328) (hn:n + m <= 9223372036854775807) (h0:0 < m)
    (h:∀ id2,σ id2=none->K (.msl id2 0 (n + m) size) ((σ.del id).set id2 (.cells (az.drop off ++ ys.map .pv) none))):appendD P mu σ t (.msl id off n size) v K:=by
  obtain ⟨h1,h2,z,h3,h4⟩:=he
  simp only [appendD,appendCore,h1,h2,h3,h4,hx,hl,hg,true_and]
  exact ⟨hs,hc,hb,hn,h0,h⟩
end
theorem alloc_of {K:AV->AS->Prop} {z:List AV} (h:zeroOf P t=some z) (h2:z.all AV.cellOk=true) (hK:∀ id,σ id=none->K (.addr id 0) (σ.set id (.cells z (some t)))):allocD P σ t K:=by
  simp only [allocD,h]
  exact ⟨h2,hK⟩
theorem retV_self {K:AV->AS->Prop} {v:AV} (h:K v σ):retV v σ K:=⟨v,σ,.inl (.inl rfl),sub_refl σ,h⟩
theorem wrap64 {n:Int} (h:-9223372036854775808 <= n) (h':n < 9223372036854775808):IntKind.wrap .i64 n=n:=by
  have e:IntKind.wrap .i64 n=if n % 18446744073709551616 ≥ 9223372036854775808 then n % 18446744073709551616 - 18446744073709551616 else n % 18446744073709551616:=by
    simp [IntKind.wrap,IntKind.bits,IntKind.signed]
  rw [e]
  split <;> omega
end
attribute [go_sem] Nat.le_refl Nat.zero_lt_one Nat.zero_lt_succ Int.toNat_natCast Int.natCast_nonneg Option.isSome_some Option.getD_some decide_eq_true_eq Nat.mul_one Nat.zero_add Nat.add_zero true_and and_true
def Tr.wk (T:Tr):Tr:=fun args σ K X=>∃ args',wkL args args'/\T args' σ K X
theorem SoundF.wk {P:Program} {f:FuncId} {T:Tr} (S:SoundF P f T):SoundF P f (Tr.wk T):=by
  rintro w0 hS ρ σ w args us K X H hr ⟨args',hw,hT⟩
  exact S w0 hS ρ σ w args' us K X H (wkL_sound hr hw) hT
def i64s (l:List Int):List PV:=l.map fun n=>.int .i64 n
@[go_sem] theorem i64s_length (l:List Int):(i64s l).length=l.length:=by simp [i64s]
end Go.AD

set_option linter.unusedVariables false
namespace Go.AD
@[go_sem] theorem nAdd (a b:Nat):(a:Int) + (b:Int)=((a + b:Nat):Int):=rfl
@[go_sem] theorem nAddL (a k:Nat) [NeZero k]:(a:Int) + (no_index (OfNat.ofNat k):Int)=((a + OfNat.ofNat k:Nat):Int):=rfl
@[go_sem] theorem nLAdd (a k:Nat) [NeZero k]:(no_index (OfNat.ofNat k):Int) + (a:Int)=((OfNat.ofNat k + a:Nat):Int):=rfl
@[go_sem] theorem nAdd1 (a:Nat):(a:Int) + 1=((a + 1:Nat):Int):=rfl
@[go_sem] theorem nSub (a b:Nat) (h:b <= a):(a:Int) - (b:Int)=((a - b:Nat):Int):=by omega
@[go_sem] theorem nSub1 (a:Nat) (h:1 <= a):(a:Int) - 1=((a - 1:Nat):Int):=by omega
@[go_sem] theorem nSubL (a k:Nat) [NeZero k] (h:OfNat.ofNat k <= a):(a:Int) - (no_index (OfNat.ofNat k):Int)=((a - OfNat.ofNat k:Nat):Int):=nSub a k h
@[go_sem] theorem nMax (a b:Nat):max (a:Int) (b:Int)=((max a b:Nat):Int):=by omega
@[go_sem] theorem nMin (a b:Nat):min (a:Int) (b:Int)=((min a b:Nat):Int):=by omega
@[go_sem] theorem nLt (a b:Nat):((a:Int) < (b:Int))=(a < b):=by simp
@[go_sem] theorem nLe (a b:Nat):((a:Int) <= (b:Int))=(a <= b):=by simp
@[go_sem] theorem nEq (a b:Nat):((a:Int)=(b:Int))=(a=b):=propext ⟨by omega,by omega⟩
@[go_sem] theorem nLtL (a k:Nat) [NeZero k]:((a:Int) < (no_index (OfNat.ofNat k):Int))=(a < OfNat.ofNat k):=nLt a k
@[go_sem] theorem nLeL (a k:Nat) [NeZero k]:((a:Int) <= (no_index (OfNat.ofNat k):Int))=(a <= OfNat.ofNat k):=nLe a k
@[go_sem] theorem nLLt (a k:Nat) [NeZero k]:((no_index (OfNat.ofNat k):Int) < (a:Int))=(OfNat.ofNat k < a):=nLt k a
@[go_sem] theorem nLLe (a k:Nat) [NeZero k]:((no_index (OfNat.ofNat k):Int) <= (a:Int))=(OfNat.ofNat k <= a):=nLe k a
@[go_sem] theorem nEqL (a k:Nat) [NeZero k]:((a:Int)=(no_index (OfNat.ofNat k):Int))=(a=OfNat.ofNat k):=nEq a k
theorem iteI {c:Prop} [Decidable c] {A B:Prop} (h1:c->A) (h2:¬ c->B):if c then A else B:=by
  by_cases h:c
  · rw [if_pos h]; exact h1 h
  · rw [if_neg h]; exact h2 h
@[go_sem] theorem nBeq (a b:Nat):((a:Int) == (b:Int))=(a == b):=by
  rw [Bool.eq_iff_iff]; simp only [beq_iff_eq]; omega
@[go_sem] theorem nBeqL (a k:Nat) [NeZero k]:((a:Int) == (no_index (OfNat.ofNat k):Int))=(a == OfNat.ofNat k):=nBeq a k
@[go_sem] theorem nBeq0 (a:Nat):((a:Int) == 0)=(a == 0):=nBeq a 0
@[go_sem] theorem nLt0 (a:Nat):((0:Int) < (a:Int))=(0 < a):=nLt 0 a
@[go_sem] theorem nLe0 (a:Nat):((a:Int) <= 0)=(a <= 0):=nLe a 0
@[go_sem] theorem nEq0 (a:Nat):((a:Int)=0)=(a=0):=nEq a 0
@[go_sem] theorem nGt (a b:Int):(a > b)=(b < a):=rfl
@[go_sem] theorem nGe (a b:Int):(a ≥ b)=(b <= a):=rfl
@[go_sem] theorem nTmod (a k:Nat):(a:Int).tmod (k:Int)=((a % k:Nat):Int):=rfl
@[go_sem] theorem nTmodL (a k:Nat) [NeZero k]:(a:Int).tmod (no_index (OfNat.ofNat k):Int)=((a % OfNat.ofNat k:Nat):Int):=rfl
@[go_sem] theorem nTdiv (a k:Nat):(a:Int).tdiv (k:Int)=((a / k:Nat):Int):=rfl
@[go_sem] theorem nTdivL (a k:Nat) [NeZero k]:(a:Int).tdiv (no_index (OfNat.ofNat k):Int)=((a / OfNat.ofNat k:Nat):Int):=rfl
@[go_sem] theorem nMul (a b:Nat):(a:Int) * (b:Int)=((a * b:Nat):Int):=rfl
@[go_sem] theorem nMulL (a k:Nat) [NeZero k]:(a:Int) * (no_index (OfNat.ofNat k):Int)=((a * OfNat.ofNat k:Nat):Int):=rfl
@[go_sem] theorem wrapU8 {n:Int} (h:0 <= n) (h':n < 256):IntKind.wrap .u8 n=n:=by
  have e:IntKind.wrap .u8 n=n % 256:=by simp [IntKind.wrap,IntKind.bits,IntKind.signed]
  rw [e]; omega
@[go_sem] theorem wrap32 {n:Int} (h:-2147483648 <= n) (h':n < 2147483648):IntKind.wrap .i32 n=n:=by
  have e:IntKind.wrap .i32 n=if n % 4294967296 ≥ 2147483648 then n % 4294967296 - 4294967296 else n % 4294967296:=by simp [IntKind.wrap,IntKind.bits,IntKind.signed]
  rw [e]
  split <;> omega
theorem allU8 {p:UInt8->Prop} (h:∀ n:Fin 256,p (UInt8.ofFin n)) (c:UInt8):p c:=by
  have:=h c.toFin
  simpa using this
theorem drop_consD {α:Type} {s:List α} {i:Nat} {d:α} (hi:i < s.length):s.drop i=s.getD i d :: s.drop (i + 1):=by
  rw [List.drop_eq_getElem_cons hi]; simp [hi]
section
variable {P:Program} {σ:AS} {t id off:Nat} {K:AV->Prop} {k:IntKind}
theorem ixS (h:P.underlying t=some .string) {x:List UInt8} {i:Nat} (hi:i < x.length):indexD P t (.pv (.str x)) (.pv (.int k i)) K=K (.pv (.int .u8 (x.getD i 0).toNat)):=by
  rw [ix_str h]
  simp [hi]
theorem slS (h:P.underlying t=some .string) {x:List UInt8} {i:Nat} (hi:i <= x.length):sliceD P t (.pv (.str x)) (some (.pv (.int k i))) none K=K (.pv (.str (x.drop i))):=by
  simp [sliceD,h,cutAt,hi]
theorem slS0 (h:P.underlying t=some .string) {x:List UInt8} {i:Nat} (hi:i <= x.length):sliceD P t (.pv (.str x)) none (some (.pv (.int k i))) K=K (.pv (.str (x.take i))):=by
  simp [sliceD,h,cutAt,hi]
def ldM:Option AObj->Nat->(AV->Prop)->Prop
  | some (.cells cs _),off,K=>∃ v,cs[off]?=some v/\K v
  | _,_,_=>False
def stM (σ:AS) (id:Nat):Option AObj->Nat->AV->(AS->Prop)->Prop
  | some (.cells cs var),off,v,K=>off < cs.length/\K (σ.set id (.cells (cs.set off v) var))
  | _,_,_,_=>False
theorem ldM_cells {cs:List AV} {var:Option TypeId}:ldM (some (.cells cs var)) off K=∃ v,cs[off]?=some v/\K v:=rfl
theorem stM_cells {cs:List AV} {var:Option TypeId} {v:AV} {K:AS->Prop}:stM σ id (some (.cells cs var)) off v K=(off < cs.length/\K (σ.set id (.cells (cs.set off v) var))):=rfl
theorem ldA (h:hasT P t=true) (h2:aggB P t=false):loadD P σ t (.addr id off) K=ldM (σ id) off K:=by
  simp only [loadD,h,h2,true_and]
  cases σ id with
  | none=>rfl
  | some o =>
    cases o with
    | cells cs var=>simp only [ldM]; cases cs[off]? <;> simp
    | _=>rfl
theorem stA {v:AV} {K:AS->Prop} (h:hasT P t=true) (h1:szOf P t=1) (hv:v.cells=[v]) (h2:v.cellOk=true):storeD P σ t (.addr id off) v K=stM σ id (σ id) off v K:=by
  simp only [storeD,h,h1,hv,h2,List.length_singleton,List.all_cons,List.all_nil,Bool.and_self,true_and]
  cases σ id with
  | none=>rfl
  | some o =>
    cases o with
    | cells cs var =>
      simp only [stM,setAll]
      exact propext ⟨fun h=>⟨by omega,h.2⟩,fun h=>⟨by omega,h.2⟩⟩
    | _=>rfl
end
theorem cvI {P:Program} {σ:AS} {s d:TypeId} {k k':IntKind} {n:Int} {K:AV->Prop} (hs:(P.underlying s).isSome=true) (hd:P.underlying d=some (.int k)):convD P σ s d (.pv (.int k' n)) K=K (.pv (.int k (k.wrap n))):=by
  cases e:P.underlying s with
  | none=>rw [e] at hs; cases hs
  | some x=>simp [convD,e,hd]
@[go_sem] theorem ext_tuple {vs:List AV} {i:Nat} {K:AV->Prop}:extractD (.tuple vs) i K=∃ v,vs[i]?=some v/\K v:=by
  simp only [extractD]
  cases vs[i]? <;> simp
theorem wkN:wkL [] []:=trivial
theorem wkS {a:AV} {az bs:List AV} (h:wkL az bs):wkL (a :: az) (a :: bs):=⟨.inl rfl,h⟩
theorem wkP {a:AV} {p:PV} {az bs:List AV} (hp:toPV a=some p) (h:wkL az bs):wkL (a :: az) (.pv p :: bs):=⟨.inr ⟨p,hp,rfl⟩,h⟩
theorem someEx {α:Type} {a:α} {p:α->Prop}:(∃ v,some a=some v/\p v)=p a:=by simp
theorem pvBytes_len (l:List UInt8):(pvBytes l).length=l.length:=by simp [pvBytes]
theorem pvBytes_app (l r:List UInt8):pvBytes (l ++ r)=pvBytes l ++ pvBytes r:=by simp [pvBytes]
theorem pvBytes_get (l:List UInt8) (i:Nat) (h:i < l.length):(pvBytes l)[i]?=some (.int .u8 (l.getD i 0).toNat):=by simp [pvBytes,h]
structure Grow (P:Program) (e:TypeId) (σ0 σ:AS) (v:AV) (n:Nat) (cs:List PV):Prop where
  sub:σ0.sub σ
  row:(v=.nilS/\n=0/\cs=[]) \/ ∃ id mk,v=.grow id n cs/\0 < n/\σ id=some (.front n (szOf P e) mk)/\σ0 id=none
  len:cs.length=n * szOf P e
section
variable {P:Program} {σ0 σ:AS} {t e:TypeId} {v x:AV} {n m:Nat} {cs ys:List PV}
theorem Grow.start (P:Program) (e:TypeId) (σ:AS):Grow P e σ σ .nilS 0 []:=⟨sub_refl σ,.inl ⟨rfl,rfl,rfl⟩,by simp⟩
theorem Grow.toPV (G:Grow P e σ0 σ v n cs):toPV v=some (.lst n cs):=by
  rcases G.row with ⟨rfl,rfl,rfl⟩ | ⟨id,mk,rfl,_⟩ <;> rfl
theorem Grow.append {K:AV->AS->Prop} (G:Grow P e σ0 σ v n cs) (hT:RowT P t e) (hx:shown P σ e x=some (m,ys)) (hl:ys.length=m * szOf P e) (hm:0 < m) (hb:(n + m) * byOf P e <= 140737488355328) (hn:n + m <= 9223372036854775807)
    (h:∀ v' σ',Grow P e σ0 σ' v' (n + m) (cs ++ ys)->K v' σ'):appendD P false σ t v x K:=by
  rcases G.row with ⟨rfl,rfl,rfl⟩ | ⟨id,mk,rfl,h0,hg,hg0⟩
  · refine app_nil hT hx hl (by omega) (by simpa using hb) (by omega) ?_
    intro id hid
    have h0:σ0 id=none:=by
      cases e:σ0 id with
      | none=>rfl
      | some o=>rw [G.sub _ _ e] at hid; cases hid
    exact h _ _ ⟨G.sub.trans (sub_set _ hid),.inr ⟨id,some e,by simp,by omega,by simp [set_same],h0⟩,by simp [hl]⟩
  · refine app_grow hT hx hl hg (by omega) G.len hb hn ?_
    refine h _ _ ⟨?_,.inr ⟨id,_,rfl,by omega,set_same _ _ _,hg0⟩,by rw [List.length_append,G.len,hl,Nat.add_mul]⟩
    intro j o hj
    have:j ≠ id:=by intro e; rw [e,hg0] at hj; cases hj
    rw [set_ne _ _ this]
    exact G.sub j o hj
end
section
variable {P:Program} {σ:AS} {t t' e:TypeId} {v:AV} {ys:List PV}
theorem build1 {K:AV->AS->Prop} (hT:RowT P t e) (h1:hasT P e=true) (h2:v.cells.length=szOf P e) (h3:toPVs v.cells=some ys) (h4:v.cells.all AV.cellOk=true) (h5:szOf P e <= 16777216) :
    buildSliceD P false σ t 1 1 [(0,v)] K=K (.full 1 ys) σ:=by
  obtain ⟨a1,a2,z,a3,a4⟩:=hT
  simp [buildSliceD,a1,a2,a3,h1,h2,h5,elemsFill,h4,h3]
end
attribute [go_sem] wrap64 someEx
end Go.AD

set_option linter.unusedVariables false
namespace Go.AD.Lx
abbrev Bytes:=List UInt8
abbrev Tok:=Bytes × Bytes
def digitB (c:UInt8):Bool:=decide (48 <= c.toNat) && decide (c.toNat <= 57)
def octalB (c:UInt8):Bool:=decide (48 <= c.toNat) && decide (c.toNat <= 55)
def letterB (c:UInt8):Bool:=decide (97 <= (c ||| 32).toNat) && decide ((c ||| 32).toNat <= 122) || c.toNat == 95
def innerB (c:UInt8):Bool:=letterB c || digitB c
def lineB (c:UInt8):Bool:=!(c.toNat == 10)
def spanL (p:UInt8->Bool):Bytes->Nat
  | []=>0
  | c :: s=>if p c=true then spanL p s + 1 else 0
theorem span_le (p:UInt8->Bool) (s:Bytes):spanL p s <= s.length:=by
  induction s with
  | nil=>exact Nat.le_refl _
  | cons c s ih=>unfold spanL; split <;> simp <;> omega
def isAt (s:Bytes) (n k:Nat):Bool:=decide (n < s.length) && (s.getD n 0).toNat == k
def expAt (s:Bytes) (n:Nat):Nat:=if isAt s (n + 1) 43 || isAt s (n + 1) 45 then n + 2 else n + 1
def expL (s:Bytes) (n:Nat):Nat:=if decide (n < s.length) && (s.getD n 0 ||| 32).toNat == 101 then (if 0 < spanL digitB (s.drop (expAt s n)) then expAt s n + spanL digitB (s.drop (expAt s n)) else n) else n
def fracL (s:Bytes) (n:Nat):Nat × Nat:=if isAt s n 46 then (if 0 < n + spanL digitB (s.drop (n + 1)) then (n + 1 + spanL digitB (s.drop (n + 1)),n + spanL digitB (s.drop (n + 1))) else (n,n)) else (n,n)
def numberL (s:Bytes):Nat:=if (fracL s (spanL digitB s)).2=0 then 0 else expL s (fracL s (spanL digitB s)).1
def listedS (l w:Bytes):Bool:=Lib.contains l ([32] ++ w ++ [32])
def kNum:Bytes:=[110,117,109]
def kStr:Bytes:=[115,116,114]
def kEre:Bytes:=[101,114,101]
def kName:Bytes:=[110,97,109,101]
def kFunc:Bytes:=[102,117,110,99]
def kBuilt:Bytes:=[98,117,105,108,116]
def kWord:Bytes:=[119,111,114,100]
def kOp:Bytes:=[111,112]
def kNl:Bytes:=[110,108]
def sLength:Bytes:=[108,101,110,103,116,104]
def lAfter:Bytes:=[32,41,32,93,32,36,32,43,43,32,45,45,32]
def lBarred:Bytes:=[32,103,101,116,108,105,110,101,32,115,121,115,116,101,109,32,99,108,111,115,101,32,102,102,108,117,115,104,32,110,101,120,116,102,105,108,101,32,114,97,110,100,32,115,114,97,110,100,32,115,105,110,32,99,111,115,32,97,116,97,110,50,32,101,120,112,32,108,111,103,32,115,113,114,116,32,102,117,110,99,32,69,78,86,73,82,79,78,32,65,82,71,86,32,65,82,71,67,32]
def lWords:Bytes:=[32,66,69,71,73,78,32,69,78,68,32,102,117,110,99,116,105,111,110,32,100,101,108,101,116,101,32,105,110,32,105,102,32,101,108,115,101,32,119,104,105,108,101,32,100,111,32,102,111,114,32,98,114,101,97,107,32,99,111,110,116,105,110,117,101,32,110,101,120,116,32,101,120,105,116,32,114,101,116,117,114,110,32,112,114,105,110,116,32,112,114,105,110,116,102,32]
def lBuilts:Bytes:=[32,108,101,110,103,116,104,32,115,117,98,115,116,114,32,105,110,100,101,120,32,115,112,108,105,116,32,115,117,98,32,103,115,117,98,32,109,97,116,99,104,32,115,112,114,105,110,116,102,32,116,111,108,111,119,101,114,32,116,111,117,112,112,101,114,32,105,110,116,32]
def lTwos:Bytes:=[32,62,62,32,33,126,32,43,61,32,45,61,32,42,61,32,47,61,32,37,61,32,94,61,32,61,61,32,60,61,32,62,61,32,33,61,32,43,43,32,45,45,32,38,38,32,124,124,32]
def lOnes:Bytes:=[123,125,40,41,91,93,59,44,43,45,42,47,37,94,33,62,60,63,58,126,36,61]
def lPlain:Bytes:=[97,98,116,110,118,102,114]
def tokOperand (t:Tok):Bool:=if t.1=kNum \/ t.1=kStr \/ t.1=kEre \/ t.1=kName then true else if t.1=kBuilt then t.2 == sLength else if t.1=kOp then listedS lAfter t.2 else false
def operandS (ts:List Tok):Bool:=match ts.getLast? with
  | none=>false
  | some t=>tokOperand t
def octVal:Bytes->Nat->Nat
  | [],v=>v
  | c :: s,v=>octVal s (v * 8 + (c.toNat - 48))
def inTextS (r:Bytes):Bytes × Bytes :=
  if 0 < min (spanL octalB r) 3 then ([UInt8.ofNat (octVal (r.take (min (spanL octalB r) 3)) 0)],r.drop (min (spanL octalB r) 3))
  else (if (r.getD 0 0).toNat=10 then [] else if (r.getD 0 0).toNat=34 \/ (r.getD 0 0).toNat=92 \/ (r.getD 0 0).toNat=47 then [r.getD 0 0]
    else if 0 <= Lib.indexByte lPlain (r.getD 0 0) then [UInt8.ofNat (7 + (Lib.indexByte lPlain (r.getD 0 0)).toNat)] else [92,r.getD 0 0],r.drop 1)
def inEreS (r:Bytes):Bytes × Bytes :=
  if (r.getD 0 0).toNat=10 then ([],r) else (if (r.getD 0 0).toNat=47 then [r.getD 0 0] else [92,r.getD 0 0],r.drop 1)
def quotedS (q:UInt8) (e:Bytes->Bytes × Bytes):Nat->Bytes->Bytes->Option (Bytes × Bytes)
  | 0,_,_=>none
  | f + 1,s,acc=>if s=[] then none else if (s.getD 0 0).toNat=10 then none else if s.getD 0 0=q then some (acc,s.drop 1)
    else if (s.getD 0 0).toNat ≠ 92 then quotedS q e f (s.drop 1) (acc ++ [s.getD 0 0])
    else if s.drop 1=[] then none else quotedS q e f (e (s.drop 1)).2 (acc ++ (e (s.drop 1)).1)
def nameS (s:Bytes) (ts:List Tok):Option (Bytes × List Tok) :=
  if listedS lBarred (s.take (spanL innerB s))=true then none
  else some (s.drop (spanL innerB s),ts ++ [(if listedS lWords (s.take (spanL innerB s))=true then kWord else if listedS lBuilts (s.take (spanL innerB s))=true then kBuilt else if Lib.hasPrefix (s.drop (spanL innerB s)) [40]=true then kFunc else kName,s.take (spanL innerB s))])
def quoteTok (q:UInt8) (e:Bytes->Bytes × Bytes) (kind:Bytes) (s:Bytes) (ts:List Tok):Option (Bytes × List Tok):=match quotedS q e (s.length + 1) (s.drop 1) [] with
  | none=>none
  | some (t,r)=>some (r,ts ++ [(kind,t)])
def opTok (s:Bytes) (ts:List Tok):Option (Bytes × List Tok) :=
  if decide (1 < s.length) && listedS lTwos (s.take 2) then some (s.drop 2,ts ++ [(kOp,s.take 2)])
  else if 0 <= Lib.indexByte lOnes (s.getD 0 0) then some (s.drop 1,ts ++ [(kOp,s.take 1)]) else none
def tokenS (s:Bytes) (ts:List Tok):Option (Bytes × List Tok) :=
  if (s.getD 0 0).toNat=32 \/ (s.getD 0 0).toNat=9 then some (s.drop 1,ts)
  else if Lib.hasPrefix s [92,10]=true then some (s.drop 2,ts)
  else if (s.getD 0 0).toNat=35 then some (s.drop (spanL lineB s),ts)
  else if (s.getD 0 0).toNat=10 then some (s.drop 1,ts ++ [(kNl,[])])
  else if 0 < numberL s then some (s.drop (numberL s),ts ++ [(kNum,s.take (numberL s))])
  else if (s.getD 0 0).toNat=34 then quoteTok 34 inTextS kStr s ts
  else if (s.getD 0 0).toNat=47/\operandS ts=false then quoteTok 47 inEreS kEre s ts
  else if letterB (s.getD 0 0)=true then nameS s ts
  else opTok s ts
def lexL:Nat->Bytes->List Tok->Option (List Tok)
  | 0,_,_=>none
  | f + 1,s,ts=>if s=[] then some ts else match tokenS s ts with
    | none=>none
    | some (s',ts')=>if ts'.length <= 20000 then lexL f s' ts' else none
def lexS (s:Bytes):Option (List Tok):=if s.length <= 65536 then lexL (s.length + 1) s [] else none
theorem isAt_lt {s:Bytes} {n k:Nat} (h:isAt s n k=true):n < s.length:=by
  unfold isAt at h
  rw [Bool.and_eq_true] at h
  exact of_decide_eq_true h.1
theorem expAt_le {s:Bytes} {n:Nat} (h:n < s.length):expAt s n <= s.length:=by
  unfold expAt
  split
  · rename_i h1
    rw [Bool.or_eq_true] at h1
    rcases h1 with h1 | h1 <;> · have:=isAt_lt h1; omega
  · omega
theorem expL_le {s:Bytes} {n:Nat} (h:n <= s.length):expL s n <= s.length:=by
  unfold expL
  split
  · rename_i h1
    rw [Bool.and_eq_true] at h1
    have h2:=of_decide_eq_true h1.1
    split
    · have:=span_le digitB (s.drop (expAt s n))
      have h3:=expAt_le h2
      rw [List.length_drop] at this
      omega
    · exact h
  · exact h
theorem fracL_le {s:Bytes} {n:Nat} (h:n <= s.length):(fracL s n).1 <= s.length:=by
  unfold fracL
  split
  · rename_i h1
    have:=isAt_lt h1
    split
    · have:=span_le digitB (s.drop (n + 1))
      rw [List.length_drop] at this
      simp only
      omega
    · exact h
  · exact h
theorem number_le (s:Bytes):numberL s <= s.length:=by
  unfold numberL
  split
  · exact Nat.zero_le _
  · exact expL_le (fracL_le (span_le _ _))
theorem inText_le (r:Bytes) (h:r ≠ []):(inTextS r).2.length < r.length:=by
  have:0 < r.length:=List.length_pos_iff.2 h
  unfold inTextS
  split
  · simp only [List.length_drop]; omega
  · simp only [List.length_drop]; omega
theorem inEre_le (r:Bytes):(inEreS r).2.length <= r.length:=by
  unfold inEreS
  split
  · exact Nat.le_refl _
  · simp only [List.length_drop]; omega
theorem quoted_le {q:UInt8} {e:Bytes->Bytes × Bytes} (he:∀ r,(e r).2.length <= r.length):∀ (f:Nat) (s acc:Bytes) (t r:Bytes),quotedS q e f s acc=some (t,r)->r.length < s.length
  | 0,s,acc,t,r,h=>by cases h
  | f + 1,s,acc,t,r,h=>by
    rw [quotedS] at h
    split at h
    · cases h
    rename_i hne
    have hp:0 < s.length:=List.length_pos_iff.2 hne
    split at h
    · cases h
    split at h
    · simp only [Option.some.injEq,Prod.mk.injEq] at h
      rw [<- h.2,List.length_drop]; omega
    split at h
    · have:=quoted_le he f _ _ _ _ h
      rw [List.length_drop] at this; omega
    split at h
    · cases h
    · have:=quoted_le he f _ _ _ _ h
      have h2:=he (s.drop 1)
      rw [List.length_drop] at h2
      omega
theorem quoted_fuel {q:UInt8} {e:Bytes->Bytes × Bytes} (he:∀ r,r ≠ []->(e r).2.length <= r.length):∀ (f g:Nat) (s acc:Bytes),s.length < f->s.length < g->quotedS q e f s acc=quotedS q e g s acc
  | 0,_,s,acc,h,_=>absurd h (Nat.not_lt_zero _)
  | _ + 1,0,s,acc,_,h=>absurd h (Nat.not_lt_zero _)
  | f + 1,g + 1,s,acc,h1,h2=>by
    rw [quotedS,quotedS]
    by_cases hs:s=[]
    · rw [if_pos hs,if_pos hs]
    rw [if_neg hs,if_neg hs]
    have hp:0 < s.length:=List.length_pos_iff.2 hs
    have hd:(s.drop 1).length=s.length - 1:=by rw [List.length_drop]
    rw [quoted_fuel he f g (s.drop 1) _ (by omega) (by omega)]
    by_cases hr:s.drop 1=[]
    · rw [if_pos hr,if_pos hr]
    · have:=he _ hr
      rw [quoted_fuel he f g (e (s.drop 1)).2 _ (by omega) (by omega)]
theorem span_pos {p:UInt8->Bool} {s:Bytes} (hs:s ≠ []) (h:p (s.getD 0 0)=true):0 < spanL p s:=by
  cases s with
  | nil=>exact absurd rfl hs
  | cons c s=>simp at h; simp [spanL,h]
theorem token_le {s:Bytes} {ts:List Tok} (hs:s ≠ []) {r:Bytes} {ts':List Tok} (h:tokenS s ts=some (r,ts')):r.length < s.length/\ts'.length <= ts.length + 1:=by
  have hp:0 < s.length:=List.length_pos_iff.2 hs
  have qt:∀ q e k,(∀ r,(e r).2.length <= r.length)->quoteTok q e k s ts=some (r,ts')->r.length < s.length/\ts'.length <= ts.length + 1:=by
    intro q e k he h
    unfold quoteTok at h
    split at h
    · cases h
    · rename_i t r' hq
      have:=quoted_le he _ _ _ _ _ hq
      rw [List.length_drop] at this
      simp only [Option.some.injEq,Prod.mk.injEq] at h
      rw [<- h.1,<- h.2]
      exact ⟨by omega,by simp⟩
  have hit:∀ r,(inTextS r).2.length <= r.length:=by
    intro r
    by_cases h:r=[]
    · subst h; decide
    · exact Nat.le_of_lt (inText_le r h)
  unfold tokenS at h
  split at h
  · simp only [Option.some.injEq,Prod.mk.injEq] at h
    rw [<- h.1,<- h.2,List.length_drop]; omega
  split at h
  · simp only [Option.some.injEq,Prod.mk.injEq] at h
    rw [<- h.1,<- h.2,List.length_drop]; omega
  split at h
  · rename_i h35
    simp only [Option.some.injEq,Prod.mk.injEq] at h
    have:=span_pos (p:=lineB) hs (by unfold lineB; rw [h35]; rfl)
    rw [<- h.1,<- h.2,List.length_drop]; omega
  split at h
  · simp only [Option.some.injEq,Prod.mk.injEq] at h
    rw [<- h.1,<- h.2,List.length_drop]; simp; omega
  split at h
  · simp only [Option.some.injEq,Prod.mk.injEq] at h
    rw [<- h.1,<- h.2,List.length_drop]; simp; omega
  split at h
  · exact qt _ _ _ hit h
  split at h
  · exact qt _ _ _ inEre_le h
  split at h
  · rename_i hl
    unfold nameS at h
    split at h
    · cases h
    · simp only [Option.some.injEq,Prod.mk.injEq] at h
      have:=span_pos (p:=innerB) hs (by unfold innerB; rw [hl]; rfl)
      rw [<- h.1,<- h.2,List.length_drop]; simp; omega
  · unfold opTok at h
    split at h
    · simp only [Option.some.injEq,Prod.mk.injEq] at h
      rw [<- h.1,<- h.2,List.length_drop]; simp; omega
    · split at h
      · simp only [Option.some.injEq,Prod.mk.injEq] at h
        rw [<- h.1,<- h.2,List.length_drop]; simp; omega
      · cases h
end Go.AD.Lx

set_option linter.unusedVariables false
namespace Go.AD
open Go.Proofs
set_option maxHeartbeats 1000000 in
set_option maxRecDepth 100000 in
theorem copyCheck_used (b:Nat) (w:World) (h0:w.cell? ⟨b,0,none⟩=some (.pointer (some ⟨b,0,none⟩))) :
    Calls Tryz.prog 178 #[.pointer (some ⟨b,0,none⟩)] w fun e w'=>e=.returned (.tuple #[])/\w'=w:=by
  obtain ⟨j,hj⟩:∃ j,Tryz.prog.info? 173=some j:=Option.isSome_iff_exists.1 (by kernel_rfl)
  go_enter Tryz.func178,Tryz.ntmps178
  go_wp2
  rw [Lib.run_neq_ptr_same w _ Tryz.underlying171 hj]
  go_wp2
  go_end0
  exact ⟨rfl,rfl⟩
set_option maxHeartbeats 1000000 in
set_option maxRecDepth 100000 in
theorem copyCheck_fresh (b:Nat) (w:World) (h0:w.cell? ⟨b,0,none⟩=some (.pointer none)) (hsh:w.shape? b=some (173,2)) (hfz:w.frozen? ⟨b,0,none⟩=false) :
    Calls Tryz.prog 178 #[.pointer (some ⟨b,0,none⟩)] w fun e w'=>e=.returned (.tuple #[])/\w'=w.setCell ⟨b,0,none⟩ (.pointer (some ⟨b,0,none⟩)):=by
  have hsz:(Tryz.prog.info? 173).map (·.size)=some 2:=by kernel_rfl
  obtain ⟨j,hj,hjs⟩:=Option.map_eq_some_iff.1 hsz
  go_enter Tryz.func178,Tryz.ntmps178
  go_wp2
  rw [Lib.run_to_unsafe w ⟨b,0,none⟩ Tryz.underlying171 Tryz.underlying190 hj (by rw [hjs]; decide) hsh (Nat.zero_lt_succ 1)]
  simp only [Result.andThen]
  rw [Oper.upon_value]
  go_wp2
  rw [run_callFunc_extern Tryz.func192 (by kernel_rfl) (by kernel_rfl) (by kernel_rfl) (e:=Extern.AbiNoEscape.same) (by kernel_rfl)]
  rw [Lib.run_noEscape]
  simp only [Result.andThen]
  rw [Oper.upon_value]
  go_wp2
  rw [Lib.run_from_unsafe w ⟨b,0,none⟩ Tryz.underlying190 Tryz.underlying171 hj hsh (by kernel_rfl)]
  simp only [Result.andThen]
  rw [Oper.upon_value]
  go_wp2
  go_end0
  exact ⟨rfl,rfl⟩
set_option maxHeartbeats 2000000 in
set_option maxRecDepth 100000 in
theorem string_row (b g:Nat) (p:Value) (cap:Nat) (cur:Array Value) (l:List UInt8) (w:World) (hbk:w.cell? ⟨b,1,none⟩=some (.slice (some ⟨g,0,none⟩) l.length cap)) (h0:l ≠ []) (hsh:w.shape? g=some (5,cur.size)) (hnc:l.length <= cap) (hcm:cap <= maxLen) (hcs:l.length <= cur.size)
    (hcell:∀ (j:Nat) x,l[j]?=some x->w.cell? ((⟨g,0,none⟩:Addr).add j)=some (.int .u8 x.toNat)) :
    Calls Tryz.prog 154 #[.pointer (some ⟨b,0,none⟩)] w fun e w'=>e=.returned (.string ⟨l.toArray⟩)/\w'=w.drew.freeze ⟨g,0,none⟩ l.length:=by
  have hl0:l.length ≠ 0:=by simpa using h0
  have c1:w.drew.cell? ⟨b,1,none⟩=some (.slice (some ⟨g,0,none⟩) l.length cap):=hbk
  have hSD:(Builtin.unsafeSliceData_ #[92] 186 #[.slice (some ⟨g,0,none⟩) l.length cap]).run Tryz.prog w.drew=.ok (.pointer (some ⟨g,0,none⟩)) w.drew :=
    Lib.run_unsafeSliceData_row _ _ _ _ _ _ (by omega)
  have hUS:(Builtin.unsafeString_ #[186,3] 9 #[.pointer (some ⟨g,0,none⟩),.int .i64 l.length]).run Tryz.prog w.drew=.ok (.string ⟨l.toArray⟩) (w.drew.freeze ⟨g,0,none⟩ l.length):=by
    refine Lib.run_unsafeString_row w.drew 186 3 9 5 Tryz.underlying186 (by kernel_rfl) g cur.size hsh l h0 hcs (by unfold maxLen at hcm; omega) ?_
    intro j x hx
    exact hcell j x hx
  go_enter Tryz.func154,Tryz.ntmps154
  go_wp2
  go_region
  all_goals (go_wp2; go_ret; exact ⟨rfl,rfl⟩)
set_option maxHeartbeats 2000000 in
set_option maxRecDepth 100000 in
theorem string_nil (b:Nat) (w:World) (hbk:w.cell? ⟨b,1,none⟩=some (.slice none 0 0)) :
    Calls Tryz.prog 154 #[.pointer (some ⟨b,0,none⟩)] w fun e w'=>e=.returned (.string ⟨#[]⟩)/\w'=w.drew:=by
  have c1:w.drew.cell? ⟨b,1,none⟩=some (.slice none 0 0):=hbk
  have hSD:(Builtin.unsafeSliceData_ #[92] 186 #[.slice none 0 0]).run Tryz.prog w.drew=.ok (.pointer none) w.drew:=rfl
  have hUS:(Builtin.unsafeString_ #[186,3] 9 #[.pointer none,.int .i64 0]).run Tryz.prog w.drew=.ok (.string .empty) w.drew:=Lib.run_unsafeString_none w.drew _ _ _ none
  go_enter Tryz.func154,Tryz.ntmps154
  go_wp2
  go_region
  all_goals (go_wp2; go_ret; exact ⟨rfl,rfl⟩)
end Go.AD

set_option linter.unusedVariables false
namespace Go.AD.T
open Go.Proofs.Tryz
@[go_sem] theorem sz0:szOf prog 0=1:=by kernel_rfl
@[go_sem] theorem by0:byOf prog 0=0:=by kernel_rfl
@[go_sem] theorem hT0:hasT prog 0=true:=by kernel_rfl
@[go_sem] theorem iS0:(inf prog 0).isSome=true:=by kernel_rfl
@[go_sem] theorem ag0:aggB prog 0=false:=by kernel_rfl
@[go_sem] theorem zo0:zeroOf prog 0=some [.undef]:=by kernel_rfl
@[go_sem] theorem sz1:szOf prog 1=1:=by kernel_rfl
@[go_sem] theorem by1:byOf prog 1=8:=by kernel_rfl
@[go_sem] theorem hT1:hasT prog 1=true:=by kernel_rfl
@[go_sem] theorem iS1:(inf prog 1).isSome=true:=by kernel_rfl
@[go_sem] theorem ag1:aggB prog 1=false:=by kernel_rfl
@[go_sem] theorem zo1:zeroOf prog 1=some [.pv .nilFunc]:=by kernel_rfl
@[go_sem] theorem sz2:szOf prog 2=1:=by kernel_rfl
@[go_sem] theorem by2:byOf prog 2=8:=by kernel_rfl
@[go_sem] theorem hT2:hasT prog 2=true:=by kernel_rfl
@[go_sem] theorem iS2:(inf prog 2).isSome=true:=by kernel_rfl
@[go_sem] theorem ag2:aggB prog 2=false:=by kernel_rfl
@[go_sem] theorem zo2:zeroOf prog 2=some [.pv (.int .i64 0)]:=by kernel_rfl
@[go_sem] theorem sz3:szOf prog 3=1:=by kernel_rfl
@[go_sem] theorem by3:byOf prog 3=8:=by kernel_rfl
@[go_sem] theorem hT3:hasT prog 3=true:=by kernel_rfl
@[go_sem] theorem iS3:(inf prog 3).isSome=true:=by kernel_rfl
@[go_sem] theorem ag3:aggB prog 3=false:=by kernel_rfl
@[go_sem] theorem zo3:zeroOf prog 3=some [.pv (.int .i64 0)]:=by kernel_rfl
@[go_sem] theorem sz4:szOf prog 4=1:=by kernel_rfl
@[go_sem] theorem by4:byOf prog 4=1:=by kernel_rfl
@[go_sem] theorem hT4:hasT prog 4=true:=by kernel_rfl
@[go_sem] theorem iS4:(inf prog 4).isSome=true:=by kernel_rfl
@[go_sem] theorem ag4:aggB prog 4=false:=by kernel_rfl
@[go_sem] theorem zo4:zeroOf prog 4=some [.pv (.bool false)]:=by kernel_rfl
@[go_sem] theorem sz5:szOf prog 5=1:=by kernel_rfl
@[go_sem] theorem by5:byOf prog 5=1:=by kernel_rfl
@[go_sem] theorem hT5:hasT prog 5=true:=by kernel_rfl
@[go_sem] theorem iS5:(inf prog 5).isSome=true:=by kernel_rfl
@[go_sem] theorem ag5:aggB prog 5=false:=by kernel_rfl
@[go_sem] theorem zo5:zeroOf prog 5=some [.pv (.int .u8 0)]:=by kernel_rfl
@[go_sem] theorem sz6:szOf prog 6=1:=by kernel_rfl
@[go_sem] theorem by6:byOf prog 6=1:=by kernel_rfl
@[go_sem] theorem hT6:hasT prog 6=true:=by kernel_rfl
@[go_sem] theorem iS6:(inf prog 6).isSome=true:=by kernel_rfl
@[go_sem] theorem ag6:aggB prog 6=false:=by kernel_rfl
@[go_sem] theorem zo6:zeroOf prog 6=some [.pv (.int .u8 0)]:=by kernel_rfl
@[go_sem] theorem sz8:szOf prog 8=4:=by kernel_rfl
@[go_sem] theorem by8:byOf prog 8=24:=by kernel_rfl
@[go_sem] theorem hT8:hasT prog 8=true:=by kernel_rfl
@[go_sem] theorem iS8:(inf prog 8).isSome=true:=by kernel_rfl
@[go_sem] theorem ag8:aggB prog 8=true:=by kernel_rfl
@[go_sem] theorem zo8:zeroOf prog 8=some [.pv (.int .i64 0),.pv (.int .i64 0),.pv (.bool false),.pv (.int .u8 0)]:=by kernel_rfl
@[go_sem] theorem fo8_0:fieldOff prog 8 0=some (0,2):=by kernel_rfl
@[go_sem] theorem fo8_1:fieldOff prog 8 1=some (1,3):=by kernel_rfl
@[go_sem] theorem fo8_2:fieldOff prog 8 2=some (2,4):=by kernel_rfl
@[go_sem] theorem fo8_3:fieldOff prog 8 3=some (3,6):=by kernel_rfl
@[go_sem] theorem sz9:szOf prog 9=1:=by kernel_rfl
@[go_sem] theorem by9:byOf prog 9=16:=by kernel_rfl
@[go_sem] theorem hT9:hasT prog 9=true:=by kernel_rfl
@[go_sem] theorem iS9:(inf prog 9).isSome=true:=by kernel_rfl
@[go_sem] theorem ag9:aggB prog 9=false:=by kernel_rfl
@[go_sem] theorem zo9:zeroOf prog 9=some [.pv (.str [])]:=by kernel_rfl
@[go_sem] theorem sz20:szOf prog 20=1:=by kernel_rfl
@[go_sem] theorem by20:byOf prog 20=16:=by kernel_rfl
@[go_sem] theorem hT20:hasT prog 20=true:=by kernel_rfl
@[go_sem] theorem iS20:(inf prog 20).isSome=true:=by kernel_rfl
@[go_sem] theorem ag20:aggB prog 20=false:=by kernel_rfl
@[go_sem] theorem zo20:zeroOf prog 20=some [.pv .nilIface]:=by kernel_rfl
@[go_sem] theorem sz23:szOf prog 23=1:=by kernel_rfl
@[go_sem] theorem by23:byOf prog 23=24:=by kernel_rfl
@[go_sem] theorem hT23:hasT prog 23=true:=by kernel_rfl
@[go_sem] theorem iS23:(inf prog 23).isSome=true:=by kernel_rfl
@[go_sem] theorem ag23:aggB prog 23=false:=by kernel_rfl
@[go_sem] theorem zo23:zeroOf prog 23=some [.nilS]:=by kernel_rfl
@[go_sem] theorem el23:elOf prog 23=some 50:=by kernel_rfl
@[go_sem] theorem sz26:szOf prog 26=1:=by kernel_rfl
@[go_sem] theorem by26:byOf prog 26=24:=by kernel_rfl
@[go_sem] theorem hT26:hasT prog 26=true:=by kernel_rfl
@[go_sem] theorem iS26:(inf prog 26).isSome=true:=by kernel_rfl
@[go_sem] theorem ag26:aggB prog 26=false:=by kernel_rfl
@[go_sem] theorem zo26:zeroOf prog 26=some [.nilS]:=by kernel_rfl
@[go_sem] theorem el26:elOf prog 26=some 9:=by kernel_rfl
@[go_sem] theorem sz28:szOf prog 28=4:=by kernel_rfl
@[go_sem] theorem by28:byOf prog 28=96:=by kernel_rfl
@[go_sem] theorem hT28:hasT prog 28=true:=by kernel_rfl
@[go_sem] theorem iS28:(inf prog 28).isSome=true:=by kernel_rfl
@[go_sem] theorem ag28:aggB prog 28=true:=by kernel_rfl
@[go_sem] theorem zo28:zeroOf prog 28=some [.nilS,.nilS,.nilS,.nilS]:=by kernel_rfl
@[go_sem] theorem fo28_0:fieldOff prog 28 0=some (0,26):=by kernel_rfl
@[go_sem] theorem fo28_1:fieldOff prog 28 1=some (1,26):=by kernel_rfl
@[go_sem] theorem fo28_2:fieldOff prog 28 2=some (2,26):=by kernel_rfl
@[go_sem] theorem fo28_3:fieldOff prog 28 3=some (3,26):=by kernel_rfl
@[go_sem] theorem sz33:szOf prog 33=1:=by kernel_rfl
@[go_sem] theorem by33:byOf prog 33=8:=by kernel_rfl
@[go_sem] theorem hT33:hasT prog 33=true:=by kernel_rfl
@[go_sem] theorem iS33:(inf prog 33).isSome=true:=by kernel_rfl
@[go_sem] theorem ag33:aggB prog 33=false:=by kernel_rfl
@[go_sem] theorem zo33:zeroOf prog 33=some [.undef]:=by kernel_rfl
@[go_sem] theorem sz34:szOf prog 34=1:=by kernel_rfl
@[go_sem] theorem by34:byOf prog 34=24:=by kernel_rfl
@[go_sem] theorem hT34:hasT prog 34=true:=by kernel_rfl
@[go_sem] theorem iS34:(inf prog 34).isSome=true:=by kernel_rfl
@[go_sem] theorem ag34:aggB prog 34=false:=by kernel_rfl
@[go_sem] theorem zo34:zeroOf prog 34=some [.nilS]:=by kernel_rfl
@[go_sem] theorem el34:elOf prog 34=some 26:=by kernel_rfl
@[go_sem] theorem sz37:szOf prog 37=1:=by kernel_rfl
@[go_sem] theorem by37:byOf prog 37=8:=by kernel_rfl
@[go_sem] theorem hT37:hasT prog 37=true:=by kernel_rfl
@[go_sem] theorem iS37:(inf prog 37).isSome=true:=by kernel_rfl
@[go_sem] theorem ag37:aggB prog 37=false:=by kernel_rfl
@[go_sem] theorem zo37:zeroOf prog 37=some [.pv .nilFunc]:=by kernel_rfl
@[go_sem] theorem sz38:szOf prog 38=1:=by kernel_rfl
@[go_sem] theorem by38:byOf prog 38=24:=by kernel_rfl
@[go_sem] theorem hT38:hasT prog 38=true:=by kernel_rfl
@[go_sem] theorem iS38:(inf prog 38).isSome=true:=by kernel_rfl
@[go_sem] theorem ag38:aggB prog 38=false:=by kernel_rfl
@[go_sem] theorem zo38:zeroOf prog 38=some [.nilS]:=by kernel_rfl
@[go_sem] theorem el38:elOf prog 38=some 91:=by kernel_rfl
@[go_sem] theorem sz41:szOf prog 41=1:=by kernel_rfl
@[go_sem] theorem by41:byOf prog 41=8:=by kernel_rfl
@[go_sem] theorem hT41:hasT prog 41=true:=by kernel_rfl
@[go_sem] theorem iS41:(inf prog 41).isSome=true:=by kernel_rfl
@[go_sem] theorem ag41:aggB prog 41=false:=by kernel_rfl
@[go_sem] theorem zo41:zeroOf prog 41=some [.pv .nilFunc]:=by kernel_rfl
@[go_sem] theorem sz42:szOf prog 42=1:=by kernel_rfl
@[go_sem] theorem by42:byOf prog 42=24:=by kernel_rfl
@[go_sem] theorem hT42:hasT prog 42=true:=by kernel_rfl
@[go_sem] theorem iS42:(inf prog 42).isSome=true:=by kernel_rfl
@[go_sem] theorem ag42:aggB prog 42=false:=by kernel_rfl
@[go_sem] theorem zo42:zeroOf prog 42=some [.nilS]:=by kernel_rfl
@[go_sem] theorem el42:elOf prog 42=some 53:=by kernel_rfl
@[go_sem] theorem sz50:szOf prog 50=3:=by kernel_rfl
@[go_sem] theorem by50:byOf prog 50=56:=by kernel_rfl
@[go_sem] theorem hT50:hasT prog 50=true:=by kernel_rfl
@[go_sem] theorem iS50:(inf prog 50).isSome=true:=by kernel_rfl
@[go_sem] theorem ag50:aggB prog 50=true:=by kernel_rfl
@[go_sem] theorem zo50:zeroOf prog 50=some [.pv (.str []),.pv (.str []),.nilS]:=by kernel_rfl
@[go_sem] theorem fo50_0:fieldOff prog 50 0=some (0,9):=by kernel_rfl
@[go_sem] theorem fo50_1:fieldOff prog 50 1=some (1,9):=by kernel_rfl
@[go_sem] theorem fo50_2:fieldOff prog 50 2=some (2,23):=by kernel_rfl
@[go_sem] theorem sz53:szOf prog 53=2:=by kernel_rfl
@[go_sem] theorem by53:byOf prog 53=32:=by kernel_rfl
@[go_sem] theorem hT53:hasT prog 53=true:=by kernel_rfl
@[go_sem] theorem iS53:(inf prog 53).isSome=true:=by kernel_rfl
@[go_sem] theorem ag53:aggB prog 53=true:=by kernel_rfl
@[go_sem] theorem zo53:zeroOf prog 53=some [.pv (.str []),.pv (.str [])]:=by kernel_rfl
@[go_sem] theorem fo53_0:fieldOff prog 53 0=some (0,9):=by kernel_rfl
@[go_sem] theorem fo53_1:fieldOff prog 53 1=some (1,9):=by kernel_rfl
@[go_sem] theorem sz56:szOf prog 56=1:=by kernel_rfl
@[go_sem] theorem by56:byOf prog 56=8:=by kernel_rfl
@[go_sem] theorem hT56:hasT prog 56=true:=by kernel_rfl
@[go_sem] theorem iS56:(inf prog 56).isSome=true:=by kernel_rfl
@[go_sem] theorem ag56:aggB prog 56=false:=by kernel_rfl
@[go_sem] theorem zo56:zeroOf prog 56=some [.undef]:=by kernel_rfl
@[go_sem] theorem sz57:szOf prog 57=1:=by kernel_rfl
@[go_sem] theorem by57:byOf prog 57=8:=by kernel_rfl
@[go_sem] theorem hT57:hasT prog 57=true:=by kernel_rfl
@[go_sem] theorem iS57:(inf prog 57).isSome=true:=by kernel_rfl
@[go_sem] theorem ag57:aggB prog 57=false:=by kernel_rfl
@[go_sem] theorem zo57:zeroOf prog 57=some [.undef]:=by kernel_rfl
@[go_sem] theorem sz59:szOf prog 59=3:=by kernel_rfl
@[go_sem] theorem by59:byOf prog 59=24:=by kernel_rfl
@[go_sem] theorem hT59:hasT prog 59=true:=by kernel_rfl
@[go_sem] theorem iS59:(inf prog 59).isSome=true:=by kernel_rfl
@[go_sem] theorem ag59:aggB prog 59=true:=by kernel_rfl
@[go_sem] theorem zo59:zeroOf prog 59=some [.undef,.undef,.pv (.bool false)]:=by kernel_rfl
@[go_sem] theorem fo59_0:fieldOff prog 59 0=some (0,56):=by kernel_rfl
@[go_sem] theorem fo59_1:fieldOff prog 59 1=some (1,57):=by kernel_rfl
@[go_sem] theorem fo59_2:fieldOff prog 59 2=some (2,4):=by kernel_rfl
@[go_sem] theorem sz62:szOf prog 62=1:=by kernel_rfl
@[go_sem] theorem by62:byOf prog 62=24:=by kernel_rfl
@[go_sem] theorem hT62:hasT prog 62=true:=by kernel_rfl
@[go_sem] theorem iS62:(inf prog 62).isSome=true:=by kernel_rfl
@[go_sem] theorem ag62:aggB prog 62=false:=by kernel_rfl
@[go_sem] theorem zo62:zeroOf prog 62=some [.nilS]:=by kernel_rfl
@[go_sem] theorem el62:elOf prog 62=some 63:=by kernel_rfl
@[go_sem] theorem sz63:szOf prog 63=1:=by kernel_rfl
@[go_sem] theorem by63:byOf prog 63=8:=by kernel_rfl
@[go_sem] theorem hT63:hasT prog 63=true:=by kernel_rfl
@[go_sem] theorem iS63:(inf prog 63).isSome=true:=by kernel_rfl
@[go_sem] theorem ag63:aggB prog 63=false:=by kernel_rfl
@[go_sem] theorem zo63:zeroOf prog 63=some [.pv .nilPtr]:=by kernel_rfl
@[go_sem] theorem sz65:szOf prog 65=4:=by kernel_rfl
@[go_sem] theorem by65:byOf prog 65=48:=by kernel_rfl
@[go_sem] theorem hT65:hasT prog 65=true:=by kernel_rfl
@[go_sem] theorem iS65:(inf prog 65).isSome=true:=by kernel_rfl
@[go_sem] theorem ag65:aggB prog 65=true:=by kernel_rfl
@[go_sem] theorem zo65:zeroOf prog 65=some [.pv (.str []),.pv (.bool false),.pv (.bool false),.nilS]:=by kernel_rfl
@[go_sem] theorem fo65_0:fieldOff prog 65 0=some (0,9):=by kernel_rfl
@[go_sem] theorem fo65_1:fieldOff prog 65 1=some (1,4):=by kernel_rfl
@[go_sem] theorem fo65_2:fieldOff prog 65 2=some (2,4):=by kernel_rfl
@[go_sem] theorem fo65_3:fieldOff prog 65 3=some (3,62):=by kernel_rfl
@[go_sem] theorem sz80:szOf prog 80=0:=by kernel_rfl
@[go_sem] theorem by80:byOf prog 80=0:=by kernel_rfl
@[go_sem] theorem hT80:hasT prog 80=true:=by kernel_rfl
@[go_sem] theorem iS80:(inf prog 80).isSome=true:=by kernel_rfl
@[go_sem] theorem ag80:aggB prog 80=true:=by kernel_rfl
@[go_sem] theorem zo80:zeroOf prog 80=some []:=by kernel_rfl
@[go_sem] theorem sz83:szOf prog 83=1:=by kernel_rfl
@[go_sem] theorem by83:byOf prog 83=8:=by kernel_rfl
@[go_sem] theorem hT83:hasT prog 83=true:=by kernel_rfl
@[go_sem] theorem iS83:(inf prog 83).isSome=true:=by kernel_rfl
@[go_sem] theorem ag83:aggB prog 83=false:=by kernel_rfl
@[go_sem] theorem zo83:zeroOf prog 83=some [.pv .nilPtr]:=by kernel_rfl
@[go_sem] theorem sz85:szOf prog 85=1:=by kernel_rfl
@[go_sem] theorem by85:byOf prog 85=24:=by kernel_rfl
@[go_sem] theorem hT85:hasT prog 85=true:=by kernel_rfl
@[go_sem] theorem iS85:(inf prog 85).isSome=true:=by kernel_rfl
@[go_sem] theorem ag85:aggB prog 85=true:=by kernel_rfl
@[go_sem] theorem zo85:zeroOf prog 85=some [.nilS]:=by kernel_rfl
@[go_sem] theorem fo85_0:fieldOff prog 85 0=some (0,42):=by kernel_rfl
@[go_sem] theorem sz89:szOf prog 89=3:=by kernel_rfl
@[go_sem] theorem by89:byOf prog 89=3:=by kernel_rfl
@[go_sem] theorem hT89:hasT prog 89=true:=by kernel_rfl
@[go_sem] theorem iS89:(inf prog 89).isSome=true:=by kernel_rfl
@[go_sem] theorem ag89:aggB prog 89=true:=by kernel_rfl
@[go_sem] theorem zo89:zeroOf prog 89=some [.pv (.bool false),.pv (.bool false),.pv (.bool false)]:=by kernel_rfl
@[go_sem] theorem fo89_0:fieldOff prog 89 0=some (0,4):=by kernel_rfl
@[go_sem] theorem fo89_1:fieldOff prog 89 1=some (1,4):=by kernel_rfl
@[go_sem] theorem fo89_2:fieldOff prog 89 2=some (2,4):=by kernel_rfl
@[go_sem] theorem sz91:szOf prog 91=2:=by kernel_rfl
@[go_sem] theorem by91:byOf prog 91=32:=by kernel_rfl
@[go_sem] theorem hT91:hasT prog 91=true:=by kernel_rfl
@[go_sem] theorem iS91:(inf prog 91).isSome=true:=by kernel_rfl
@[go_sem] theorem ag91:aggB prog 91=true:=by kernel_rfl
@[go_sem] theorem zo91:zeroOf prog 91=some [.pv (.str []),.pv (.str [])]:=by kernel_rfl
@[go_sem] theorem fo91_0:fieldOff prog 91 0=some (0,9):=by kernel_rfl
@[go_sem] theorem fo91_1:fieldOff prog 91 1=some (1,9):=by kernel_rfl
@[go_sem] theorem sz92:szOf prog 92=1:=by kernel_rfl
@[go_sem] theorem by92:byOf prog 92=24:=by kernel_rfl
@[go_sem] theorem hT92:hasT prog 92=true:=by kernel_rfl
@[go_sem] theorem iS92:(inf prog 92).isSome=true:=by kernel_rfl
@[go_sem] theorem ag92:aggB prog 92=false:=by kernel_rfl
@[go_sem] theorem zo92:zeroOf prog 92=some [.nilS]:=by kernel_rfl
@[go_sem] theorem el92:elOf prog 92=some 5:=by kernel_rfl
@[go_sem] theorem sz94:szOf prog 94=1:=by kernel_rfl
@[go_sem] theorem by94:byOf prog 94=8:=by kernel_rfl
@[go_sem] theorem hT94:hasT prog 94=true:=by kernel_rfl
@[go_sem] theorem iS94:(inf prog 94).isSome=true:=by kernel_rfl
@[go_sem] theorem ag94:aggB prog 94=false:=by kernel_rfl
@[go_sem] theorem zo94:zeroOf prog 94=some [.undef]:=by kernel_rfl
@[go_sem] theorem sz96:szOf prog 96=3:=by kernel_rfl
@[go_sem] theorem by96:byOf prog 96=24:=by kernel_rfl
@[go_sem] theorem hT96:hasT prog 96=true:=by kernel_rfl
@[go_sem] theorem iS96:(inf prog 96).isSome=true:=by kernel_rfl
@[go_sem] theorem ag96:aggB prog 96=true:=by kernel_rfl
@[go_sem] theorem zo96:zeroOf prog 96=some [.undef,.undef,.pv (.bool false)]:=by kernel_rfl
@[go_sem] theorem fo96_0:fieldOff prog 96 0=some (0,94):=by kernel_rfl
@[go_sem] theorem fo96_1:fieldOff prog 96 1=some (1,33):=by kernel_rfl
@[go_sem] theorem fo96_2:fieldOff prog 96 2=some (2,4):=by kernel_rfl
@[go_sem] theorem sz123:szOf prog 123=2:=by kernel_rfl
@[go_sem] theorem by123:byOf prog 123=40:=by kernel_rfl
@[go_sem] theorem hT123:hasT prog 123=true:=by kernel_rfl
@[go_sem] theorem iS123:(inf prog 123).isSome=true:=by kernel_rfl
@[go_sem] theorem ag123:aggB prog 123=true:=by kernel_rfl
@[go_sem] theorem zo123:zeroOf prog 123=some [.pv (.str []),.nilS]:=by kernel_rfl
@[go_sem] theorem fo123_0:fieldOff prog 123 0=some (0,9):=by kernel_rfl
@[go_sem] theorem fo123_1:fieldOff prog 123 1=some (1,42):=by kernel_rfl
@[go_sem] theorem sz131:szOf prog 131=5:=by kernel_rfl
@[go_sem] theorem by131:byOf prog 131=96:=by kernel_rfl
@[go_sem] theorem hT131:hasT prog 131=true:=by kernel_rfl
@[go_sem] theorem iS131:(inf prog 131).isSome=true:=by kernel_rfl
@[go_sem] theorem ag131:aggB prog 131=true:=by kernel_rfl
@[go_sem] theorem zo131:zeroOf prog 131=some [.pv (.str []),.pv (.str []),.pv (.str []),.nilS,.nilS]:=by kernel_rfl
@[go_sem] theorem fo131_0:fieldOff prog 131 0=some (0,9):=by kernel_rfl
@[go_sem] theorem fo131_1:fieldOff prog 131 1=some (1,50):=by kernel_rfl
@[go_sem] theorem fo131_2:fieldOff prog 131 2=some (4,23):=by kernel_rfl
@[go_sem] theorem sz154:szOf prog 154=1:=by kernel_rfl
@[go_sem] theorem by154:byOf prog 154=8:=by kernel_rfl
@[go_sem] theorem hT154:hasT prog 154=true:=by kernel_rfl
@[go_sem] theorem iS154:(inf prog 154).isSome=true:=by kernel_rfl
@[go_sem] theorem ag154:aggB prog 154=false:=by kernel_rfl
@[go_sem] theorem zo154:zeroOf prog 154=some [.pv .nilFunc]:=by kernel_rfl
@[go_sem] theorem sz171:szOf prog 171=1:=by kernel_rfl
@[go_sem] theorem by171:byOf prog 171=8:=by kernel_rfl
@[go_sem] theorem hT171:hasT prog 171=true:=by kernel_rfl
@[go_sem] theorem iS171:(inf prog 171).isSome=true:=by kernel_rfl
@[go_sem] theorem ag171:aggB prog 171=false:=by kernel_rfl
@[go_sem] theorem zo171:zeroOf prog 171=some [.pv .nilPtr]:=by kernel_rfl
@[go_sem] theorem sz173:szOf prog 173=2:=by kernel_rfl
@[go_sem] theorem by173:byOf prog 173=32:=by kernel_rfl
@[go_sem] theorem hT173:hasT prog 173=true:=by kernel_rfl
@[go_sem] theorem iS173:(inf prog 173).isSome=true:=by kernel_rfl
@[go_sem] theorem ag173:aggB prog 173=true:=by kernel_rfl
@[go_sem] theorem zo173:zeroOf prog 173=some [.pv .nilPtr,.nilS]:=by kernel_rfl
@[go_sem] theorem fo173_0:fieldOff prog 173 0=some (0,171):=by kernel_rfl
@[go_sem] theorem fo173_1:fieldOff prog 173 1=some (1,92):=by kernel_rfl
@[go_sem] theorem sz178:szOf prog 178=1:=by kernel_rfl
@[go_sem] theorem by178:byOf prog 178=8:=by kernel_rfl
@[go_sem] theorem hT178:hasT prog 178=true:=by kernel_rfl
@[go_sem] theorem iS178:(inf prog 178).isSome=true:=by kernel_rfl
@[go_sem] theorem ag178:aggB prog 178=false:=by kernel_rfl
@[go_sem] theorem zo178:zeroOf prog 178=some [.pv .nilFunc]:=by kernel_rfl
end Go.AD.T
