import Derived.WalkKit
import Derived.Below
import Derived.Laws.AppendOwn
import Derived.Still
import Derived.StillTail
import Derived.Orders
import Derived.Laws.FloatArith
import Derived.Test.YteabilbccbhecaaGreatDoorM0
set_option linter.unusedVariables false
universe u
namespace Go.AD
inductive PV where
  | bool (b:Bool)
  | int (k:IntKind) (n:Int)
  | float (k:FloatKind) (bits:Nat)
  | str (l:List UInt8)
  | nilPtr
  | lst (n:Nat) (cells:List PV)
  | nilFunc
  | func (f:FuncId)
  | nilIface
  | iface (t:TypeId) (agg:Bool) (cells:List PV)
  deriving Inhabited
inductive AV where
  | undef
  | pv (v:PV)
  | addr (id off:Nat)
  | elemP (cells:List PV) (off:Nat)
  | nilS
  | grow (id n:Nat) (cells:List PV)
  | full (n:Nat) (cells:List PV)
  | msl (id off n size:Nat)
  | clo (f:FuncId) (first captured:List AV)
  | agg (cells:List AV)
  | tuple (vs:List AV)
  | iter (id:Nat)
  | amap (id:Nat)
  | glob (g off:Nat)
  | cut (n:Nat) (cells:List PV)
  | any
  deriving Inhabited
inductive AObj where
  | cells (cs:List AV) (var:Option TypeId)
  | front (n size:Nat) (mk:Option TypeId)
  | strIter (s:List UInt8) (pos:Nat)
  | builder (l:List UInt8)
  | mapO (n:Nat) (es:List (List (List UInt8) × AV × Nat)) (clock:Nat)
  | mapIt (m since:Nat) (seen:List Nat)
abbrev AS:=Nat->Option AObj
def AS.set (σ:AS) (id:Nat) (o:AObj):AS:=fun i=>if i=id then some o else σ i
def AS.del (σ:AS) (id:Nat):AS:=fun i=>if i=id then none else σ i
def AS.sub (σ τ:AS):Prop:=∀ id o,σ id=some o->τ id=some o
abbrev Fr:=List (Nat × AV)
def Fr.get (fr:Fr) (t:Nat):AV:=match fr with
  | []=>.undef
  | (s,v) :: rest=>if s=t then v else Fr.get rest t
def Fr.put (fr:Fr) (d:Option Nat) (v:AV):Fr:=match d with | some t=>(t,v) :: fr | none=>fr
def Fr.keep (fr:Fr) (l:List Nat):Fr:=l.map fun t=>(t,fr.get t)
def toPV:AV->Option PV
  | .pv p=>some p
  | .nilS=>some (.lst 0 [])
  | .grow _ n cs=>some (.lst n cs)
  | .full n cs=>some (.lst n cs)
  | .clo f [] []=>some (.func f)
  | _=>none
def toPVs:List AV->Option (List PV)
  | []=>some []
  | v :: vs=>match toPV v,toPVs vs with
    | some p,some ps=>some (p :: ps)
    | _,_=>none
def AV.cells:AV->List AV
  | .agg cs=>cs
  | v=>[v]
def AV.cellOk:AV->Bool
  | .undef | .agg _ | .tuple _=>false
  | _=>true
def ofCell:Value->AV
  | .bool b=>.pv (.bool b)
  | .int k n=>.pv (.int k n)
  | .float k b=>.pv (.float k b)
  | .string s=>.pv (.str s.data.toList)
  | .pointer none=>.pv .nilPtr
  | .slice none 0 0=>.nilS
  | .nilFunc=>.pv .nilFunc
  | .nilIface=>.pv .nilIface
  | _=>.undef
def ofConst:Value->AV
  | .agg cs=>.agg (cs.toList.map ofCell)
  | .func (.func f) a b=>match a.toList,b.toList with
    | [],[]=>.pv (.func f)
    | _,_=>.undef
  | v=>ofCell v
def ev (fr:Fr):Operand->AV
  | .tmp t=>fr.get t
  | .const v=>ofConst v
  | .global g=>.glob g 0
  | .func f=>.pv (.func f)
def inf (P:Program) (t:TypeId):Option (Nat × Nat × Option Value):=(P.info? t).map fun i=>(i.size,i.bytes,i.zero)
def szOf (P:Program) (t:TypeId):Nat:=match inf P t with | some (s,_,_)=>s | none=>0
def byOf (P:Program) (t:TypeId):Nat:=match inf P t with | some (_,b,_)=>b | none=>0
def aggB (P:Program) (t:TypeId):Bool:=match P.underlying t with | some (.struct _) | some (.array _ _)=>true | _=>false
def hasT (P:Program) (t:TypeId):Bool:=(P.underlying t).isSome && (inf P t).isSome
def zeroOf (P:Program) (t:TypeId):Option (List AV):=match inf P t with
  | some (_,_,some z)=>some (z.cells.toList.map ofCell)
  | _=>none
def elOf (P:Program) (t:TypeId):Option TypeId:=match P.underlying t with | some (.slice e)=>some e | _=>none
def setAll:List AV->Nat->List AV->List AV
  | cs,_,[]=>cs
  | cs,off,v :: vs=>setAll (cs.set off v) (off + 1) vs
abbrev Tr:=List AV->AS->(AV->AS->Prop)->(PV->AS->Prop)->Prop
abbrev Env:=FuncId->Tr
def u64s (l:List Nat):List PV:=l.map fun (n:Nat)=>.int .u64 (n:Int)
def i64n (l:List Int):List PV:=l.map fun n=>.int .i64 n
def tabPow10:List PV:=(List.range 696).flatMap fun (i:Nat)=>[.int .u64 (Fp.hiP ((i:Int) - 348)),.int .u64 (Fp.loP ((i:Int) - 348))]
def decB (n:Nat):List UInt8:=(Nat.toDigits 10 n).map fun c=>UInt8.ofNat c.toNat
def cheatsL:List (Nat × List UInt8):=(0,[]) :: (List.range 60).map fun i=>(((i + 1) * 30103 / 100000 + 1),decB (5 ^ (i + 1)))
def tabCheats:List PV:=cheatsL.flatMap fun x=>[.int .i64 (x.1:Int),.str x.2]
def tabF10:List PV:=(List.range 23).map fun (i:Nat)=>.float .f64 (FloatKind.f64.nearest ((10 ^ i:Nat):Int))
def knownTab (s:String):Option (List PV) :=
  if s = "tedder/syntax.end" then some [.str [],.str []]
  else if s = "internal/strconv.pow10Tab" then some tabPow10
  else if s = "internal/strconv.uint64pow10" then some (u64s ((List.range 20).map fun i=>10 ^ i))
  else if s = "internal/strconv.powtab" then some [.lst 9 (i64n [1,3,6,9,13,16,19,23,26])]
  else if s = "internal/strconv.leftcheats" then some [.lst 61 tabCheats]
  else if s = "internal/strconv.float64pow10" then some [.lst 23 tabF10]
  else if s = "internal/strconv.float64info" then some [.int .u64 52,.int .u64 11,.int .i64 (-1023)]
  else if s = "internal/strconv.optimize" then some [.bool true]
  else none
def known (P:Program) (g:Nat):Option (List PV):=match P.globals[g]? with
  | some x=>knownTab x.name
  | none=>none
def anyG (P:Program) (g:Nat):Bool:=match P.globals[g]? with
  | some x=>x.name == "strconv.ErrRange" || x.name == "strconv.ErrSyntax"
  | none=>false
def noKnown (P:Program):Bool:=P.globals.all fun x=>(knownTab x.name).isNone && (!(x.name == "strconv.ErrRange") && !(x.name == "strconv.ErrSyntax"))
def loadD (P:Program) (σ:AS) (t:TypeId) (a:AV) (K:AV->Prop):Prop :=
  hasT P t=true /\
  match a with
  | .addr id off=>match σ id with
    | some (.cells cs _)=>if aggB P t=true then off + szOf P t <= cs.length/\K (.agg ((cs.drop off).take (szOf P t))) else match cs[off]? with
      | some v=>K v
      | none=>False
    | _=>False
  | .elemP cs off=>if aggB P t=true then off + szOf P t <= cs.length/\K (.agg (((cs.drop off).take (szOf P t)).map .pv)) else match cs[off]? with
      | some v=>K (.pv v)
      | none=>False
  | .glob g off=>match known P g with
    | some cs=>if aggB P t=true then off + szOf P t <= cs.length/\K (.agg (((cs.drop off).take (szOf P t)).map .pv)) else match cs[off]? with
      | some v=>K (.pv v)
      | none=>False
    | none=>anyG P g=true/\aggB P t=false/\off=0/\K .any
  | _=>False
def storeD (P:Program) (σ:AS) (t:TypeId) (a v:AV) (K:AS->Prop):Prop :=
  hasT P t=true/\v.cells.length=szOf P t/\v.cells.all AV.cellOk=true /\
  match a with
  | .addr id off=>match σ id with
    | some (.cells cs var)=>off + v.cells.length <= cs.length/\K (σ.set id (.cells (setAll cs off v.cells) var))
    | _=>False
  | _=>False
def intOp (op:BinOp) (k:IntKind) (x y:Int) (K:AV->Prop):Prop :=
  match op with
  | .add=>K (.pv (.int k (k.wrap (x + y))))
  | .sub=>K (.pv (.int k (k.wrap (x - y))))
  | .mul=>K (.pv (.int k (k.wrap (x * y))))
  | .quo=>y ≠ 0/\K (.pv (.int k (k.wrap (x.tdiv y))))
  | .rem=>y ≠ 0/\K (.pv (.int k (x.tmod y)))
  | .and=>K (.pv (.int k (k.wrap (BitVec.ofInt k.bits x &&& BitVec.ofInt k.bits y).toNat)))
  | .or=>K (.pv (.int k (k.wrap (BitVec.ofInt k.bits x ||| BitVec.ofInt k.bits y).toNat)))
  | .xor=>K (.pv (.int k (k.wrap (BitVec.ofInt k.bits x ^^^ BitVec.ofInt k.bits y).toNat)))
  | .andNot=>K (.pv (.int k (k.wrap (BitVec.ofInt k.bits x &&& ~~~BitVec.ofInt k.bits y).toNat)))
  | .eql=>K (.pv (.bool (x == y)))
  | .neq=>K (.pv (.bool (x != y)))
  | .lss=>K (.pv (.bool (x < y)))
  | .leq=>K (.pv (.bool (x <= y)))
  | .gtr=>K (.pv (.bool (x > y)))
  | .geq=>K (.pv (.bool (x ≥ y)))
  | _=>False
def shiftOp (op:BinOp) (k:IntKind) (x y:Int) (K:AV->Prop):Prop :=
  match op with
  | .shl=>0 <= y/\K (.pv (.int k (k.wrap (x * 2 ^ min y.toNat k.bits))))
  | .shr=>0 <= y/\K (.pv (.int k (x.fdiv (2 ^ min y.toNat k.bits))))
  | _=>False
def strOp (op:BinOp) (x y:List UInt8) (K:AV->Prop):Prop :=
  match op with
  | .add=>x.length + y.length <= 9223372036854775807/\K (.pv (.str (x ++ y)))
  | .eql=>K (.pv (.bool (x == y)))
  | .neq=>K (.pv (.bool (!(x == y))))
  | .lss=>K (.pv (.bool (Op.bytesLess x y)))
  | .leq=>K (.pv (.bool (Op.bytesLess x y || x == y)))
  | .gtr=>K (.pv (.bool (!(Op.bytesLess x y || x == y))))
  | .geq=>K (.pv (.bool (!(Op.bytesLess x y))))
  | _=>False
def sameAt (P:Program) (t:TypeId) (a b:AV):Option Bool:=match P.underlying t,a,b with
  | some (.int _),.pv (.int k x),.pv (.int k' y)=>if k=k' then some (x == y) else none
  | some .bool,.pv (.bool x),.pv (.bool y)=>some (x == y)
  | some .string,.pv (.str x),.pv (.str y)=>some (x == y)
  | some (.float _),.pv (.float k x),.pv (.float k' y)=>if k=k' then some (Op.floatEq k x y) else none
  | _,_,_=>none
def sameFields (P:Program):List Field->Nat->List AV->List AV->Option Bool
  | [],_,[],[]=>some true
  | f :: fs,i,a :: az,b :: bs=>if f.offset=i/\f.name ≠ "_" then (match sameAt P f.type a b,sameFields P fs (i + 1) az bs with
    | some x,some y=>some (x && y)
    | _,_=>none) else none
  | _,_,_,_=>none
def eqD (P:Program) (t:TypeId) (x y:AV) (K:Bool->Prop):Prop :=
  match x,y with
  | .pv (.bool a),.pv (.bool b)=>P.underlying t=some .bool/\K (a == b)
  | .agg az,.agg bs=>P.stoodInHeld t=false/\P.eqGuardType P.depth t=false/\(match P.underlying t with
    | some (.struct fs)=>(match sameFields P fs.toList 0 az bs with | some r=>K r | none=>False)
    | some (.array n e)=>n=2/\(inf P e).isSome=true/\szOf P e=1/\(match az,bs with
      | [a1,a2],[b1,b2]=>(match sameAt P e a1 b1,sameAt P e a2 b2 with | some x,some y=>K (x && y) | _,_=>False)
      | _,_=>False)
    | _=>False)
  | .nilS,.nilS=>(elOf P t).isSome=true/\K true
  | .grow _ _ _,.nilS=>(elOf P t).isSome=true/\K false
  | .msl _ _ _ _,.nilS=>(elOf P t).isSome=true/\K false
  | .addr _ _,.pv .nilPtr=>(match P.underlying t with | some (.pointer _)=>True | _=>False)/\K false
  | .pv .nilPtr,.pv .nilPtr=>(match P.underlying t with | some (.pointer _)=>True | _=>False)/\K true
  | .pv .nilIface,.pv .nilIface=>(match P.underlying t with | some (.interface ms)=>ms.isEmpty=true | _=>False)/\K true
  | .pv .nilIface,.pv (.iface _ _ _)=>(match P.underlying t with | some (.interface _)=>True | _=>False)/\K false
  | .pv (.iface t1 false [.int k a]),.pv (.iface t2 false [.int k' b])=>(match P.underlying t with | some (.interface _)=>True | _=>False)/\(if t1=t2 then k=k'/\(match P.underlying t1 with | some (.int _)=>True | _=>False)/\(match P.info? t1 with | some i=>i.comparable=true | none=>False)/\K (a == b) else K false)
  | .pv (.iface _ _ _),.pv .nilIface=>(match P.underlying t with | some (.interface _)=>True | _=>False)/\K false
  | .addr i o,.addr j p=>(match P.underlying t with | some (.pointer e)=>(inf P e).isSome=true/\szOf P e ≠ 0 | _=>False)/\i=j/\K (o == p)
  | _,_=>False
def fcmp (op:BinOp) (k:FloatKind) (x y:Nat):Option Bool:=match op with
  | .eql=>some (k.format.order x y == some .eq)
  | .neq=>some (k.format.order x y != some .eq)
  | .lss=>some (k.format.order x y == some .lt)
  | .leq=>some (k.format.order x y == some .lt || k.format.order x y == some .eq)
  | .gtr=>some (k.format.order x y == some .gt)
  | .geq=>some (k.format.order x y == some .gt || k.format.order x y == some .eq)
  | _=>none
def binD (P:Program) (op:BinOp) (t:TypeId) (x y:AV) (K:AV->Prop):Prop :=
  match x,y with
  | .pv (.int k a),.pv (.int k' b)=>match op with
    | .shl | .shr=>shiftOp op k a b K
    | _=>k=k'/\intOp op k a b K
  | .pv (.str a),.pv (.str b)=>strOp op a b K
  | .pv (.float k a),.pv (.float k' b)=>k=k'/\match fcmp op k a b with
    | some r=>K (.pv (.bool r))
    | none=>False
  | x,y=>match op with
    | .eql=>eqD P t x y fun r=>K (.pv (.bool r))
    | .neq=>eqD P t x y fun r=>K (.pv (.bool (!r)))
    | _=>False
def nilE (P:Program) (t:TypeId) (x:AV) (K:Bool->Prop):Prop:=(match P.underlying t with | some (.interface _)=>True | _=>False)/\match x with
  | .pv .nilIface=>K true
  | .pv (.iface _ _ _)=>K false
  | _=>False
def nilB (P:Program) (op:BinOp) (t:TypeId) (x:AV) (K:AV->Prop):Prop:=match op with
  | .eql=>nilE P t x fun r=>K (.pv (.bool r))
  | .neq=>nilE P t x fun r=>K (.pv (.bool (!r)))
  | _=>False
def isNilC:Operand->Bool
  | .const .nilIface=>true
  | _=>false
def unD (op:UnOp) (x:AV) (K:AV->Prop):Prop :=
  match op,x with
  | .neg,.pv (.int k n)=>K (.pv (.int k (k.wrap (0 - n))))
  | .not,.pv (.bool b)=>K (.pv (.bool (!b)))
  | .neg,.pv (.float k b)=>K (.pv (.float k (Op.negFloat k b)))
  | _,_=>False
def fieldOff (P:Program) (s:TypeId) (f:Nat):Option (Nat × TypeId):=match P.underlying s with
  | some (.struct fs)=>(fs[f]?).map fun x=>(x.offset,x.type)
  | _=>none
def movePtr (x:AV) (n:Nat) (K:AV->Prop):Prop:=match x with
  | .addr id off=>K (.addr id (off + n))
  | .elemP cs off=>K (.elemP cs (off + n))
  | .glob g off=>K (.glob g (off + n))
  | _=>False
def fieldAddrD (P:Program) (s:TypeId) (x:AV) (f:Nat) (K:AV->Prop):Prop:=match fieldOff P s f with
  | some (o,t)=>hasT P t=true/\szOf P t ≠ 0/\movePtr x o K
  | none=>False
def partD (P:Program) (t:TypeId) (cs:List AV) (off:Nat) (K:AV->Prop):Prop :=
  hasT P t=true/\if aggB P t=true then off + szOf P t <= cs.length/\K (.agg ((cs.drop off).take (szOf P t))) else match cs[off]? with
    | some v=>K v
    | none=>False
def fieldD (P:Program) (s:TypeId) (x:AV) (f:Nat) (K:AV->Prop):Prop:=match fieldOff P s f,x with
  | some (o,t),.agg cs=>partD P t cs o K
  | _,_=>False
def shown (P:Program) (σ:AS) (e:TypeId):AV->Option (Nat × List PV)
  | .pv (.lst n cs)=>some (n,cs)
  | .nilS=>some (0,[])
  | .grow _ n cs=>some (n,cs)
  | .full n cs=>some (n,cs)
  | .msl id off n _=>match σ id with
    | some (.cells cs _)=>if off + n * szOf P e <= cs.length then (toPVs ((cs.drop off).take (n * szOf P e))).map fun ps=>(n,ps) else none
    | _=>none
  | _=>none
def indexAddrD (P:Program) (t:TypeId) (x i:AV) (K:AV->Prop):Prop:=match i with
  | .pv (.int _ i)=>match P.underlying t,x with
    | some (.slice e),.msl id off n _=>(inf P e).isSome=true/\0 <= i/\i < (n:Int)/\K (.addr id (off + i.toNat * szOf P e))
    | some (.slice e),.pv (.lst n cs)=>(inf P e).isSome=true/\n * szOf P e <= cs.length/\0 < szOf P e/\0 <= i/\i < (n:Int)/\K (.elemP cs (i.toNat * szOf P e))
    | some (.slice e),.grow _ n cs=>(inf P e).isSome=true/\n * szOf P e <= cs.length/\0 < szOf P e/\0 <= i/\i < (n:Int)/\K (.elemP cs (i.toNat * szOf P e))
    | some (.slice e),.full n cs=>(inf P e).isSome=true/\n * szOf P e <= cs.length/\0 < szOf P e/\0 <= i/\i < (n:Int)/\K (.elemP cs (i.toNat * szOf P e))
    | some (.array n e),.addr id off=>(inf P e).isSome=true/\0 <= i/\i < (n:Int)/\K (.addr id (off + i.toNat * szOf P e))
    | some (.array n e),.elemP cs off=>(inf P e).isSome=true/\0 <= i/\i < (n:Int)/\K (.elemP cs (off + i.toNat * szOf P e))
    | some (.array n e),.glob g off=>(inf P e).isSome=true/\0 <= i/\i < (n:Int)/\K (.glob g (off + i.toNat * szOf P e))
    | _,_=>False
  | _=>False
def indexD (P:Program) (t:TypeId) (x i:AV) (K:AV->Prop):Prop:=match x,i with
  | .pv (.str s),.pv (.int _ i)=>P.underlying t=some .string/\0 <= i/\match s[i.toNat]? with
    | some b=>K (.pv (.int .u8 b.toNat))
    | none=>False
  | .agg cs,.pv (.int _ i)=>(match P.underlying t with
    | some (.array n e)=>(inf P e).isSome=true/\0 <= i/\i < (n:Int)/\partD P e cs (i.toNat * szOf P e) K
    | _=>False)
  | _,_=>False
def cutAt (n:Nat) (lo hi:Option AV) (K:Nat->Nat->Prop):Prop :=
  match hi with
  | none=>match lo with
    | none=>K 0 n
    | some (.pv (.int _ l))=>0 <= l/\l <= (n:Int)/\K l.toNat n
    | _=>False
  | some (.pv (.int _ h))=>match lo with
    | none=>0 <= h/\h <= (n:Int)/\K 0 h.toNat
    | some (.pv (.int _ l))=>0 <= h/\h <= (n:Int)/\0 <= l/\l <= h/\K l.toNat h.toNat
    | _=>False
  | _=>False
def sliceD (P:Program) (t:TypeId) (x:AV) (lo hi:Option AV) (K:AV->Prop):Prop:=match x with
  | .pv (.str s)=>P.underlying t=some .string/\cutAt s.length lo hi fun l h=>K (.pv (.str ((s.take h).drop l)))
  | .pv (.lst n cs)=>match elOf P t with
    | some e=>(inf P e).isSome=true/\cutAt n lo hi fun l h=>K (.pv (.lst (h - l) ((cs.take (h * szOf P e)).drop (l * szOf P e))))
    | none=>False
  | .grow _ n cs=>match elOf P t with
    | some e=>(inf P e).isSome=true/\cutAt n lo hi fun l h=>K (.pv (.lst (h - l) ((cs.take (h * szOf P e)).drop (l * szOf P e))))
    | none=>False
  | .full n cs=>match elOf P t with
    | some e=>(inf P e).isSome=true/\cutAt n lo hi fun l h=>K (.pv (.lst (h - l) ((cs.take (h * szOf P e)).drop (l * szOf P e))))
    | none=>False
  | .nilS=>match elOf P t with
    | some e=>(inf P e).isSome=true/\cutAt 0 lo hi fun _ _=>K .nilS
    | none=>False
  | .msl id off n sz=>match elOf P t with
    | some e=>(inf P e).isSome=true/\sz=szOf P e/\cutAt n lo hi fun l h=>if l=h then K (.pv (.lst 0 [])) else K (.msl id (off + l * szOf P e) (h - l) sz)
    | none=>False
  | _=>False
def cutD (P:Program) (t:TypeId) (x h m:AV) (K:AV->Prop):Prop:=match h,m with
  | .pv (.int _ h),.pv (.int _ m)=>h=m/\(match elOf P t with
    | some e=>(inf P e).isSome=true/\(match x with
      | .pv (.lst n cs)=>h=(n:Int)/\K (.cut n cs)
      | .grow _ n cs=>h=(n:Int)/\K (.cut n cs)
      | .full n cs=>h=(n:Int)/\K (.cut n cs)
      | .nilS=>h=0/\K .nilS
      | _=>False)
    | none=>False)
  | _,_=>False
def lenD (P:Program) (t:TypeId) (x:AV) (K:AV->Prop):Prop:=match P.underlying t,x with
  | some .string,.pv (.str s)=>K (.pv (.int .i64 s.length))
  | some (.slice _),.pv (.lst n _)=>K (.pv (.int .i64 n))
  | some (.slice _),.grow _ n _=>K (.pv (.int .i64 n))
  | some (.slice _),.full n _=>K (.pv (.int .i64 n))
  | some (.slice _),.nilS=>K (.pv (.int .i64 0))
  | some (.slice _),.msl _ _ n _=>K (.pv (.int .i64 n))
  | some (.array n _),_=>K (.pv (.int .i64 n))
  | _,_=>False
def max2D (x y:AV) (K:AV->Prop):Prop:=match x,y with
  | .pv (.int k a),.pv (.int _ b)=>K (.pv (.int k (if b > a then b else a)))
  | _,_=>False
def min2D (x y:AV) (K:AV->Prop):Prop:=match x,y with
  | .pv (.int k a),.pv (.int _ b)=>K (.pv (.int k (if b < a then b else a)))
  | _,_=>False
def foldD (f:AV->AV->(AV->Prop)->Prop):AV->List AV->(AV->Prop)->Prop
  | x,[],K=>K x
  | x,y :: ys,K=>f x y fun z=>foldD f z ys K
def bytesOfPV:List PV->Option (List UInt8)
  | []=>some []
  | .int .u8 n :: ps=>(bytesOfPV ps).map fun l=>UInt8.ofNat n.toNat :: l
  | _ :: _=>none
def pvBytes (l:List UInt8):List PV:=l.map fun b=>.int .u8 b.toNat
def convD (P:Program) (σ:AS) (src dst:TypeId) (x:AV) (K:AV->Prop):Prop :=
  match P.underlying src,P.underlying dst,x with
  | some _,some (.int k),.pv (.int _ n)=>K (.pv (.int k (k.wrap n)))
  | some _,some (.float k),.pv (.int _ n)=>K (.pv (.float k (floatOfInt k n)))
  | some _,some (.int k),.pv (.float s b)=>(match floatToIntVal s b k with | some n=>K (.pv (.int k n)) | none=>False)
  | some _,some (.float k),.pv (.float s b)=>s=k/\K (.pv (.float k b))
  | some _,some .string,.pv (.int _ n)=>K (.pv (.str (Utf8.encode n).data.toList))
  | some _,some .string,.pv (.str s)=>K (.pv (.str s))
  | some (.slice e),some .string,x=>P.underlying e=some (.int .u8)/\szOf P e=1/\match shown P σ e x with
    | some (n,cs)=>n=cs.length/\(match bytesOfPV cs with | some l=>K (.pv (.str l)) | none=>False)
    | none=>False
  | _,_,_=>False
def buildFill (fs:Nat->Option (Nat × TypeId)) (P:Program):List AV->List (Nat × AV)->Option (List AV)
  | cs,[]=>some cs
  | cs,(i,v) :: rest=>match fs i with
    | some (o,t)=>if v.cells.length=szOf P t/\hasT P t=true/\o + v.cells.length <= cs.length/\v.cells.all AV.cellOk=true then buildFill fs P (setAll cs o v.cells) rest else none
    | none=>none
def buildD (P:Program) (t:TypeId) (parts:List (Nat × AV)) (K:AV->Prop):Prop:=match zeroOf P t,P.underlying t with
  | some z,some (.struct fs)=>(fs.all fun f=>hasT P f.type)=true/\(match buildFill (fieldOff P t) P z parts with | some cs=>K (.agg cs) | none=>False)
  | some z,some (.array _ e)=>(inf P e).isSome=true/\(match buildFill (fun i=>some (i * szOf P e,e)) P z parts with | some cs=>K (.agg cs) | none=>False)
  | _,_=>False
def elemsFill (sz:Nat):Nat->List (Nat × AV)->Option (List AV)
  | _,[]=>some []
  | i,(j,v) :: rest=>if i=j/\v.cells.length=sz/\v.cells.all AV.cellOk=true then (elemsFill sz (i + 1) rest).map (v.cells ++ ·) else none
def evs (fr:Fr) (l:List Operand):List AV:=l.map (ev fr)
def evo (fr:Fr):Option Operand->Option AV
  | none=>none
  | some x=>some (ev fr x)
def pickD (c a b:AV) (K:AV->Prop):Prop:=match c with
  | .pv (.bool t)=>K (if t=true then a else b)
  | _=>False
def nilD (x:AV) (K:AV->Prop):Prop:=match x with
  | .addr id off=>K (.addr id off)
  | .elemP cs off=>K (.elemP cs off)
  | .glob g off=>K (.glob g off)
  | _=>False
def extractD (x:AV) (i:Nat) (K:AV->Prop):Prop:=match x with
  | .tuple vs=>(match vs[i]? with
    | some v=>K v
    | none=>False)
  | _=>False
def ifaceD (P:Program) (t:TypeId) (x:AV) (K:AV->Prop):Prop:=(match P.underlying t with | some (.interface _)=>False | some _=>True | none=>False)/\match x with
    | .agg cs=>(match toPVs cs with | some ps=>K (.pv (.iface t true ps)) | none=>False)
    | .addr _ _=>K .any
    | v=>(match toPV v with | some p=>K (.pv (.iface t false [p])) | none=>False)
def zeroV (P:Program) (t:TypeId):Option AV:=match inf P t with
  | some (_,_,some z)=>some (ofConst z)
  | _=>none
def assertD (P:Program) (x:AV) (t':TypeId) (K:AV->Prop):Prop:=(match P.underlying t' with | some (.interface _)=>False | some _=>True | none=>False)/\match x with
    | .pv (.iface t b cs)=>if t=t' then (match b,cs with
      | false,[p]=>K (.tuple [.pv p,.pv (.bool true)])
      | true,cs=>K (.tuple [.agg (cs.map .pv),.pv (.bool true)])
      | _,_=>False) else (match zeroV P t' with | some z=>K (.tuple [z,.pv (.bool false)]) | none=>False)
    | .pv .nilIface=>(match zeroV P t' with | some z=>K (.tuple [z,.pv (.bool false)]) | none=>False)
    | _=>False
abbrev MK:=List (List UInt8)
abbrev ME:=MK × AV × Nat
def keyOf:AV->Option MK
  | .pv (.str a)=>some [a]
  | .agg [.pv (.str a),.pv (.str b)]=>some [a,b]
  | _=>none
def keyAV:MK->AV
  | [a]=>.pv (.str a)
  | l=>.agg (l.map fun a=>.pv (.str a))
def mapGet:List ME->MK->Option AV
  | [],_=>none
  | e :: es,k=>if e.1=k then some e.2.1 else mapGet es k
def mapSet:List ME->MK->AV->Option (List ME)
  | [],_,_=>none
  | e :: es,k,v=>if e.1=k then some ((k,v,e.2.2) :: es) else (mapSet es k v).map (e :: ·)
def strT (P:Program) (t:TypeId):Bool:=match P.underlying t with | some .string=>true | _=>false
def keyTy (P:Program) (t:TypeId):Option Nat:=if strT P t=true then some 1 else none
def mapTy (P:Program) (t:TypeId):Option (TypeId × TypeId):=match P.underlying t with | some (.map k e)=>some (k,e) | _=>none
def okV (ok:Bool) (v:AV) (b:Bool):AV:=if ok=true then .tuple [v,.pv (.bool b)] else v
def makeMapD (P:Program) (σ:AS) (t:TypeId) (r:Option AV) (K:AV->AS->Prop):Prop:=match mapTy P t with
  | some (kt,_)=>(match keyTy P kt with
    | some n=>(match r with | none=>True | some (.pv (.int _ _))=>True | _=>False)/\∀ id,σ id=none->K (.amap id) (σ.set id (.mapO n [] 0))
    | none=>False)
  | none=>False
def lookupD (P:Program) (σ:AS) (t:TypeId) (x k:AV) (ok:Bool) (K:AV->Prop):Prop:=match mapTy P t,x,keyOf k with
  | some (kt,et),.amap id,some k=>keyTy P kt=some k.length/\(match σ id with
    | some (.mapO n es _)=>n=k.length/\(match mapGet es k with
      | some v=>K (okV ok v true)
      | none=>(match zeroV P et with | some z=>K (okV ok z false) | none=>False))
    | _=>False)
  | _,_,_=>False
def mapUpdateD (P:Program) (σ:AS) (t:TypeId) (x k v:AV) (K:AS->Prop):Prop:=match mapTy P t,x,keyOf k with
  | some (kt,_),.amap id,some k=>keyTy P kt=some k.length/\(match σ id with
    | some (.mapO n es c)=>n=k.length/\(match mapSet es k v with
      | some es'=>K (σ.set id (.mapO n es' c))
      | none=>K (σ.set id (.mapO n (es ++ [(k,v,c)]) (c + 1))))
    | _=>False)
  | _,_,_=>False
def rangeMapD (P:Program) (σ:AS) (t:TypeId) (x:AV) (K:AV->AS->Prop):Prop:=match x with
  | .amap m=>(mapTy P t).isSome=true/\(match σ m with
    | some (.mapO _ es c)=>∀ id,σ id=none->K (.iter id) (σ.set id (.mapIt m c []))
    | _=>False)
  | _=>False
def nextMapD (σ:AS) (x:AV) (K:AV->AS->Prop):Prop:=match x with
  | .iter id=>(match σ id with
    | some (.mapIt m since seen)=>(match σ m with
      | some (.mapO _ es c)=>c=since/\(∀ e ∈ es,e.2.2 < since)/\(if es.filter (fun e=>!seen.contains e.2.2)=[] then K (.tuple [.pv (.bool false)]) σ
          else ∀ e ∈ es.filter (fun e=>!seen.contains e.2.2),K (.tuple [.pv (.bool true),keyAV e.1,e.2.1]) (σ.set id (.mapIt m since (seen ++ [e.2.2]))))
      | _=>False)
    | _=>False)
  | _=>False
def entryD (σ:AS) (x:AV) (K:AV->Prop):Prop:=match x with
  | .iter id=>(match σ id with
    | some (.mapIt m since seen)=>(match σ m,seen.getLast? with
      | some (.mapO _ es c),some st=>c=since/\(match es.find? (fun e=>e.2.2 == st) with
        | some e=>K (.tuple [keyAV e.1,e.2.1])
        | none=>False)
      | _,_=>False)
    | _=>False)
  | _=>False
def ptrArr (P:Program) (t:TypeId):Option (Nat × TypeId):=match P.underlying t with
  | some (.pointer a)=>(match P.underlying a with | some (.array n e)=>some (n,e) | _=>none)
  | some (.array n e)=>some (n,e)
  | _=>none
def arrS (P:Program) (σ:AS) (t:TypeId) (x:AV) (lo hi:Option AV) (K:AV->Prop):Prop:=match ptrArr P t,x with
  | some (n,e),.addr id off=>(inf P e).isSome=true/\n <= 1000000/\(match σ id with
    | some (.cells cs _)=>off + n * szOf P e <= cs.length/\cutAt n lo hi fun l h=>if l=h then K (.pv (.lst 0 [])) else K (.msl id (off + l * szOf P e) (h - l) (szOf P e))
    | _=>False)
  | _,_=>False
noncomputable def lock {α:Sort u} (a:α):α:=(Classical.choice (⟨⟨a,rfl⟩⟩:Nonempty {b:α // b=a})).1
theorem lock_eq {α:Sort u} (a:α):lock a=a:=(Classical.choice (⟨⟨a,rfl⟩⟩:Nonempty {b:α // b=a})).2
def stillD (P:Program) (fr:Fr) (σ:AS) (op:Op) (K:AV->Prop):Prop:=match op with
  | .move x | .assign x=>K (ev fr x)
  | .pick c a b=>pickD (ev fr c) (ev fr a) (ev fr b) K
  | .build t ps=>lock buildD P t (ps.toList.map fun (i,x)=>(i,ev fr x)) K
  | .load t a=>lock loadD P σ t (ev fr a) K
  | .nilCheck x=>lock nilD (ev fr x) K
  | .binOp op t x (.const .nilIface) _=>lock nilB P op t (ev fr x) K
  | .binOp op t x y _=>lock binD P op t (ev fr x) (ev fr y) K
  | .unOp op _ x=>unD op (ev fr x) K
  | .convert s d x=>lock convD P σ s d (ev fr x) K
  | .slice t x lo hi none=>if (ptrArr P t).isSome=true then lock arrS P σ t (ev fr x) (evo fr lo) (evo fr hi) K else lock sliceD P t (ev fr x) (evo fr lo) (evo fr hi) K
  | .slice t x none (some h) (some m)=>lock cutD P t (ev fr x) (ev fr h) (ev fr m) K
  | .fieldAddr s x f=>lock fieldAddrD P s (ev fr x) f K
  | .field t x f=>lock fieldD P t (ev fr x) f K
  | .indexAddr t x i=>lock indexAddrD P t (ev fr x) (ev fr i) K
  | .index t x i=>lock indexD P t (ev fr x) (ev fr i) K
  | .extract x i=>lock extractD (ev fr x) i K
  | .makeFunc (.func f) first captured=>K (.clo f (evs fr first.toList) (evs fr captured.toList))
  | .makeInterface t x=>lock ifaceD P t (ev fr x) K
  | .typeAssert x _ t' true=>lock assertD P (ev fr x) t' K
  | .lookup t x k ok=>lock lookupD P σ t (ev fr x) (ev fr k) ok K
  | .entry it=>lock entryD σ (ev fr it) K
  | .call { callee:=.builtin .len,args,argTypes }=>match args.toList,argTypes.toList with
    | x :: _,t :: _=>lock lenD P t (ev fr x) K
    | _,_=>False
  | .call { callee:=.builtin .max,args,.. }=>match args.toList with
    | x :: xs=>lock (foldD max2D) (ev fr x) (evs fr xs) K
    | []=>False
  | .call { callee:=.builtin .min,args,.. }=>match args.toList with
    | x :: xs=>lock (foldD min2D) (ev fr x) (evs fr xs) K
    | []=>False
  | _=>False
def stillU (P:Program) (fr:Fr) (σ:AS) (op:Op) (K:AV->Prop):Prop:=match op with
  | .move x | .assign x=>K (ev fr x)
  | .pick c a b=>pickD (ev fr c) (ev fr a) (ev fr b) K
  | .build t ps=>buildD P t (ps.toList.map fun (i,x)=>(i,ev fr x)) K
  | .load t a=>loadD P σ t (ev fr a) K
  | .nilCheck x=>nilD (ev fr x) K
  | .binOp op t x (.const .nilIface) _=>nilB P op t (ev fr x) K
  | .binOp op t x y _=>binD P op t (ev fr x) (ev fr y) K
  | .unOp op _ x=>unD op (ev fr x) K
  | .convert s d x=>convD P σ s d (ev fr x) K
  | .slice t x lo hi none=>if (ptrArr P t).isSome=true then arrS P σ t (ev fr x) (evo fr lo) (evo fr hi) K else sliceD P t (ev fr x) (evo fr lo) (evo fr hi) K
  | .slice t x none (some h) (some m)=>cutD P t (ev fr x) (ev fr h) (ev fr m) K
  | .fieldAddr s x f=>fieldAddrD P s (ev fr x) f K
  | .field t x f=>fieldD P t (ev fr x) f K
  | .indexAddr t x i=>indexAddrD P t (ev fr x) (ev fr i) K
  | .index t x i=>indexD P t (ev fr x) (ev fr i) K
  | .extract x i=>extractD (ev fr x) i K
  | .makeFunc (.func f) first captured=>K (.clo f (evs fr first.toList) (evs fr captured.toList))
  | .makeInterface t x=>ifaceD P t (ev fr x) K
  | .typeAssert x _ t' true=>assertD P (ev fr x) t' K
  | .lookup t x k ok=>lookupD P σ t (ev fr x) (ev fr k) ok K
  | .entry it=>entryD σ (ev fr it) K
  | .call { callee:=.builtin .len,args,argTypes }=>match args.toList,argTypes.toList with
    | x :: _,t :: _=>lenD P t (ev fr x) K
    | _,_=>False
  | .call { callee:=.builtin .max,args,.. }=>match args.toList with
    | x :: xs=>foldD max2D (ev fr x) (evs fr xs) K
    | []=>False
  | .call { callee:=.builtin .min,args,.. }=>match args.toList with
    | x :: xs=>foldD min2D (ev fr x) (evs fr xs) K
    | []=>False
  | _=>False
def isArith:BinOp->Bool
  | .add | .sub | .mul | .quo=>true
  | _=>false
def arrSliceD (P:Program) (σ:AS) (t:TypeId) (x:AV) (lo hi:Option AV) (K:AV->AS->Prop):Prop:=match ptrArr P t,x with
  | some (n,e),.addr id off=>(inf P e).isSome=true/\n <= 1000000/\(match σ id with
    | some (.cells cs _)=>off + n * szOf P e <= cs.length/\cutAt n lo hi fun l h=>if l=h then K (.pv (.lst 0 [])) σ else K (.msl id (off + l * szOf P e) (h - l) (szOf P e)) σ
    | _=>False)
  | _,_=>False
def isFlt (P:Program) (op:BinOp) (t:TypeId):Bool:=isArith op && (match P.underlying t with | some (.float _)=>true | _=>false)
def fbinD (σ:AS) (op:BinOp) (x y:AV) (K:AV->AS->Prop):Prop:=match x,y with
  | .pv (.float k a),.pv (.float k' b)=>k=k'/\match floatBits op k a b with
    | some r=>K (.pv (.float k r)) σ
    | none=>∀ r,(k.decode r).isNaN=true->K (.pv (.float k r)) σ
  | _,_=>False
def methOf (P:Program) (t:TypeId) (name:String):Option FuncId:=match P.info? t,P.underlying t with
  | some i,some d=>(match i.methods.find? (·.name == name),d with
    | some m,.pointer _=>none
    | some m,_=>if m.path.isEmpty=true then (match m.func with | some (f,false)=>some f | _=>none) else none
    | none,_=>none)
  | _,_=>none
def invokeD (P:Program) (env:Env) (x:AV) (name:String) (args:List AV) (σ:AS) (K:AV->AS->Prop) (X:PV->AS->Prop):Prop:=match x with
  | .pv (.iface t b cs)=>(match methOf P t name with
    | some f=>(match b,cs with
      | false,[p]=>env f (.pv p :: args) σ K X
      | true,cs=>env f (.agg (cs.map .pv) :: args) σ K X
      | _,_=>False)
    | none=>False)
  | _=>False
def isStill (mu:Option Nat->Bool) (P:Program) (dst:Option Nat):Op->Bool
  | .move _ | .assign _ | .pick .. | .build .. | .load .. | .nilCheck _ | .unOp .. | .fieldAddr .. | .field .. | .indexAddr .. | .index .. | .extract .. | .makeInterface ..=>true
  | .binOp op t _ _ _=>!isFlt P op t
  | .slice _ _ _ _ none=>!mu dst
  | .slice _ _ none (some _) (some _)=>true
  | .makeFunc (.func _) _ _=>true
  | .typeAssert _ _ _ true=>true
  | .lookup .. | .entry _=>true
  | .call { callee:=.builtin .len,.. } | .call { callee:=.builtin .max,.. } | .call { callee:=.builtin .min,.. }=>true
  | .convert _ d _=>match P.underlying d with | some (.slice _)=>false | _=>true
  | _=>false
def newRowD (mu:Bool) (σ:AS) (n size:Nat) (e:TypeId) (cs:List AV) (K:AV->AS->Prop):Prop :=
  if mu=true then cs.all AV.cellOk=true/\∀ id,σ id=none->K (.msl id 0 n size) (σ.set id (.cells cs none))
  else match toPVs cs with
    | some ps=>∀ id,σ id=none->K (.grow id n ps) (σ.set id (.front n size (some e)))
    | none=>False
def appendCore (P:Program) (mu:Bool) (σ:AS) (e:TypeId) (m:Nat) (ys:List PV) (s:AV) (K:AV->AS->Prop):Prop:=match s with
  | .nilS=>if m=0 then K .nilS σ else m * byOf P e <= 140737488355328/\m <= 9223372036854775807/\newRowD mu σ m (szOf P e) e (ys.map .pv) K
  | .full n cs=>if m=0 then K (.full n cs) σ else cs.length=n * szOf P e/\(n + m) * byOf P e <= 140737488355328/\n + m <= 9223372036854775807/\newRowD mu σ (n + m) (szOf P e) e ((cs ++ ys).map .pv) K
  | .cut n cs=>if m=0 then K (.pv (.lst n cs)) σ else cs.length=n * szOf P e/\(n + m) * byOf P e <= 140737488355328/\n + m <= 9223372036854775807/\newRowD mu σ (n + m) (szOf P e) e ((cs ++ ys).map .pv) K
  | .grow id n cs=>if m=0 then K (.grow id n cs) σ else match σ id with
    | some (.front n' sz mk)=>n'=n/\sz=szOf P e/\cs.length=n * szOf P e/\(n + m) * byOf P e <= 140737488355328/\n + m <= 9223372036854775807/\K (.grow id (n + m) (cs ++ ys)) (σ.set id (.front (n + m) (szOf P e) (if mk=some e then mk else none)))
    | _=>False
  | .msl id off n sz=>match σ id with
    | some (.cells cs _)=>sz=szOf P e/\cs.length=off + n * szOf P e/\(n + m) * byOf P e <= 140737488355328/\n + m <= 9223372036854775807/\0 < m /\
      ∀ id2,σ id2=none->K (.msl id2 0 (n + m) sz) ((σ.del id).set id2 (.cells (cs.drop off ++ ys.map .pv) none))
    | _=>False
  | _=>False
def appendA (P:Program) (σ:AS) (e:TypeId) (x s:AV) (K:AV->AS->Prop):Prop:=match x with
  | .msl idx offx m _=>match σ idx with
    | some (.cells cx _)=>offx + m * szOf P e <= cx.length/\0 < m/\(match s with
      | .nilS=>m * byOf P e <= 140737488355328/\m <= 9223372036854775807/\newRowD true σ m (szOf P e) e ((cx.drop offx).take (m * szOf P e)) K
      | .msl id off n sz=>(match σ id with
        | some (.cells cs _)=>sz=szOf P e/\cs.length=off + n * szOf P e/\(n + m) * byOf P e <= 140737488355328/\n + m <= 9223372036854775807 /\
          ∀ id2,σ id2=none->K (.msl id2 0 (n + m) sz) ((σ.del id).set id2 (.cells (cs.drop off ++ (cx.drop offx).take (m * szOf P e)) none))
        | _=>False)
      | _=>False)
    | _=>False
  | _=>False
def appendD (P:Program) (mu:Bool) (σ:AS) (t:TypeId) (s x:AV) (K:AV->AS->Prop):Prop:=match elOf P t with
  | none=>False
  | some e=>0 < szOf P e/\(match zeroOf P e with | some z=>z.length=szOf P e | none=>False) /\
    match shown P σ e x with
    | none=>mu=true/\appendA P σ e x s K
    | some (m,ys)=>ys.length=m * szOf P e/\appendCore P mu σ e m ys s K
def appendStrD (P:Program) (mu:Bool) (σ:AS) (t t':TypeId) (s x:AV) (K:AV->AS->Prop):Prop:=match elOf P t,x with
  | some e,.pv (.str l)=>szOf P e=1/\(match zeroOf P e with | some z=>z.length=1 | none=>False)/\P.underlying t'=some .string/\appendCore P mu σ e l.length (pvBytes l) s K
  | _,_=>False
def takeOverD (P:Program) (σ:AS) (t:TypeId) (x:AV) (lo hi:Option AV) (K:AV->AS->Prop):Prop:=match x,lo,hi,elOf P t with
  | .grow id n cs,some (.pv (.int _ l)),none,some e=>(inf P e).isSome=true/\(∃ mk,σ id=some (.front n (szOf P e) mk))/\cs.length=n * szOf P e/\0 <= l/\l <= (n:Int) /\
      ∀ id2,σ id2=none->K (.grow id2 (n - l.toNat) (cs.drop (l.toNat * szOf P e))) ((σ.del id).set id2 (.front (n - l.toNat) (szOf P e) none))
  | .msl id off n size,none,some (.pv (.int _ h)),some e=>(inf P e).isSome=true/\size=szOf P e/\0 <= h/\h <= (n:Int)/\(match σ id with
    | some (.cells cs _)=>off + n * szOf P e <= cs.length/\K (.msl id off h.toNat size) (σ.set id (.cells (cs.take (off + h.toNat * szOf P e)) none))
    | _=>False)
  | _,_,_,_=>False
def allocD (P:Program) (σ:AS) (t:TypeId) (K:AV->AS->Prop):Prop:=match zeroOf P t with
  | some z=>z.all AV.cellOk=true/\∀ id,σ id=none->K (.addr id 0) (σ.set id (.cells z (some t)))
  | none=>False
def boxD (σ:AS) (x:AV) (K:AV->AS->Prop):Prop:=x.cells.all AV.cellOk=true/\∀ id,σ id=none->K (.addr id 0) (σ.set id (.cells x.cells none))
def buildSliceD (P:Program) (mu:Bool) (σ:AS) (t:TypeId) (n m:Nat) (ps:List (Nat × AV)) (K:AV->AS->Prop):Prop:=match elOf P t with
  | some e=>hasT P e=true/\0 < szOf P e/\(zeroOf P e).isSome=true/\n * szOf P e <= 16777216/\m=n/\(match elemsFill (szOf P e) 0 ps with
    | some cs=>if mu=true then newRowD true σ n (szOf P e) e cs K else (match toPVs cs with | some ys=>K (.full n ys) σ | none=>False)
    | none=>False)
  | none=>False
def makeSliceD (P:Program) (mu:Bool) (σ:AS) (t:TypeId) (l c:AV) (K:AV->AS->Prop):Prop:=match elOf P t,l,c with
  | some e,.pv (.int .i64 l),.pv (.int .i64 c)=>hasT P e=true/\0 < szOf P e/\0 <= l/\l <= c/\c * byOf P e <= 281474976710656/\c <= 9223372036854775807/\(match zeroOf P e with
    | some z=>z.length=szOf P e/\newRowD mu σ l.toNat (szOf P e) e (List.flatten (List.replicate l.toNat z)) K
    | none=>False)
  | _,_,_=>False
def bytesD (P:Program) (mu:Bool) (σ:AS) (s d:TypeId) (x:AV) (K:AV->AS->Prop):Prop:=match elOf P d,x with
  | some e,.pv (.str l)=>P.underlying s=some .string/\P.underlying e=some (.int .u8)/\szOf P e=1/\l.length <= 9223372036854775807/\newRowD mu σ l.length 1 e ((pvBytes l).map .pv) K
  | _,_=>False
def rangeD (P:Program) (σ:AS) (t:TypeId) (x:AV) (K:AV->AS->Prop):Prop:=match x with
  | .pv (.str s)=>P.underlying t=some .string/\∀ id,σ id=none->K (.iter id) (σ.set id (.strIter s 0))
  | _=>False
def nextD (σ:AS) (x:AV) (K:AV->AS->Prop):Prop:=match x with
  | .iter id=>(match σ id with
    | some (.strIter s pos)=>if pos < s.length then
        K (.tuple [.pv (.bool true),.pv (.int .i64 pos),.pv (.int .i32 (Utf8.decode ⟨s.toArray⟩ pos).1)]) (σ.set id (.strIter s (pos + (Utf8.decode ⟨s.toArray⟩ pos).2)))
      else K (.tuple [.pv (.bool false)]) σ
    | _=>False)
  | _=>False
def panicD (σ:AS) (x:AV) (X:PV->AS->Prop):Prop:=match x with
  | .pv (.iface t b cs)=>X (.iface t b cs) σ
  | _=>False
def callD (env:Env) (f:AV) (args:List AV) (σ:AS) (K:AV->AS->Prop) (X:PV->AS->Prop):Prop:=match f with
  | .pv (.func f)=>env f args σ K X
  | .clo f first cap=>env f (first ++ args ++ cap) σ K X
  | _=>False
def opD (P:Program) (env:Env) (mu:Option Nat->Bool) (fr:Fr) (σ:AS) (dst:Option Nat) (op:Op) (K:AV->AS->Prop) (X:PV->AS->Prop):Prop :=
  if isStill mu P dst op=true then stillD P fr σ op fun v=>K v σ else
  match op with
  | .alloc t=>lock allocD P σ t K
  | .box t x=>lock boxD σ (ev fr x) K
  | .buildSlice t n ps=>lock buildSliceD P (mu dst) σ t n ps.size (ps.toList.map fun (i,x)=>(i,ev fr x)) K
  | .makeSlice t l c=>lock makeSliceD P (mu dst) σ t (ev fr l) (ev fr c) K
  | .store t a x=>lock storeD P σ t (ev fr a) (ev fr x) fun σ=>K .undef σ
  | .convert s d x=>lock bytesD P (mu dst) σ s d (ev fr x) K
  | .slice t x lo hi none=>if (ptrArr P t).isSome=true then lock arrSliceD P σ t (ev fr x) (evo fr lo) (evo fr hi) K else lock takeOverD P σ t (ev fr x) (evo fr lo) (evo fr hi) K
  | .range t x=>if (mapTy P t).isSome=true then lock rangeMapD P σ t (ev fr x) K else lock rangeD P σ t (ev fr x) K
  | .next it true=>lock nextD σ (ev fr it) K
  | .next it false=>lock nextMapD σ (ev fr it) K
  | .makeMap t r=>lock makeMapD P σ t (evo fr r) K
  | .mapUpdate t x k v=>lock mapUpdateD P σ t (ev fr x) (ev fr k) (ev fr v) fun σ=>K .undef σ
  | .insert t x k v=>lock mapUpdateD P σ t (ev fr x) (ev fr k) (ev fr v) fun σ=>K .undef σ
  | .panic x=>lock panicD σ (ev fr x) X
  | .binOp op _ x y _=>lock fbinD σ op (ev fr x) (ev fr y) K
  | .call { callee:=.invoke r name,args,.. }=>invokeD P env (ev fr r) name (evs fr args.toList) σ K X
  | .call { callee:=.builtin .append,args,argTypes }=>match args.toList,argTypes.toList with
    | [s,x],[t,t']=>if t=t' then lock appendD P (mu dst) σ t (ev fr s) (ev fr x) K else lock appendStrD P (mu dst) σ t t' (ev fr s) (ev fr x) K
    | _,_=>False
  | .call { callee:=.value f,args,.. }=>callD env (ev fr f) (evs fr args.toList) σ K X
  | _=>False
def opU (P:Program) (env:Env) (mu:Option Nat->Bool) (fr:Fr) (σ:AS) (dst:Option Nat) (op:Op) (K:AV->AS->Prop) (X:PV->AS->Prop):Prop :=
  if isStill mu P dst op=true then stillU P fr σ op fun v=>K v σ else
  match op with
  | .alloc t=>allocD P σ t K
  | .box t x=>boxD σ (ev fr x) K
  | .buildSlice t n ps=>buildSliceD P (mu dst) σ t n ps.size (ps.toList.map fun (i,x)=>(i,ev fr x)) K
  | .makeSlice t l c=>makeSliceD P (mu dst) σ t (ev fr l) (ev fr c) K
  | .store t a x=>storeD P σ t (ev fr a) (ev fr x) fun σ=>K .undef σ
  | .convert s d x=>bytesD P (mu dst) σ s d (ev fr x) K
  | .slice t x lo hi none=>if (ptrArr P t).isSome=true then arrSliceD P σ t (ev fr x) (evo fr lo) (evo fr hi) K else takeOverD P σ t (ev fr x) (evo fr lo) (evo fr hi) K
  | .range t x=>if (mapTy P t).isSome=true then rangeMapD P σ t (ev fr x) K else rangeD P σ t (ev fr x) K
  | .next it true=>nextD σ (ev fr it) K
  | .next it false=>nextMapD σ (ev fr it) K
  | .makeMap t r=>makeMapD P σ t (evo fr r) K
  | .mapUpdate t x k v=>mapUpdateD P σ t (ev fr x) (ev fr k) (ev fr v) fun σ=>K .undef σ
  | .insert t x k v=>mapUpdateD P σ t (ev fr x) (ev fr k) (ev fr v) fun σ=>K .undef σ
  | .panic x=>panicD σ (ev fr x) X
  | .binOp op _ x y _=>fbinD σ op (ev fr x) (ev fr y) K
  | .call { callee:=.invoke r name,args,.. }=>invokeD P env (ev fr r) name (evs fr args.toList) σ K X
  | .call { callee:=.builtin .append,args,argTypes }=>match args.toList,argTypes.toList with
    | [s,x],[t,t']=>if t=t' then appendD P (mu dst) σ t (ev fr s) (ev fr x) K else appendStrD P (mu dst) σ t t' (ev fr s) (ev fr x) K
    | _,_=>False
  | .call { callee:=.value f,args,.. }=>callD env (ev fr f) (evs fr args.toList) σ K X
  | _=>False
theorem stillU_bin (P:Program) (fr:Fr) (σ:AS) (op:BinOp) (t:TypeId) (x y:Operand) (ty:TypeId) (K:AV->Prop):stillU P fr σ (.binOp op t x y ty) K=bif isNilC y then nilB P op t (ev fr x) K else binD P op t (ev fr x) (ev fr y) K:=by
  cases y with
  | const v=>cases v <;> rfl
  | _=>rfl
theorem stillD_eq (P:Program) (fr:Fr) (σ:AS) (op:Op) (K:AV->Prop):stillD P fr σ op K=stillU P fr σ op K:=by
  unfold stillD stillU
  simp only [lock_eq]
theorem opD_eq (P:Program) (env:Env) (mu:Option Nat->Bool) (fr:Fr) (σ:AS) (dst:Option Nat) (op:Op) (K:AV->AS->Prop) (X:PV->AS->Prop):opD P env mu fr σ dst op K X=opU P env mu fr σ dst op K X:=by
  unfold opD opU
  simp only [lock_eq,stillD_eq]
inductive AEx where
  | normal | exit (id:Nat) | goto (l:Nat) | ret | panic (p:PV)
structure An where
  mu:List Nat:=[]
  cut:List (Nat × List Nat):=[]
  loop:List (Nat × List Nat):=[]
  any:List Nat:=[]
  inv:List Nat:=[]
def An.isMu (an:An):Option Nat->Bool
  | some d=>an.mu.contains d
  | none=>false
def firstR:Code->Option Nat
  | .region id _ _=>some id
  | .seq a b=>match firstR a with | some i=>some i | none=>firstR b
  | .cond _ a b=>match firstR a with | some i=>some i | none=>firstR b
  | .block _ b=>firstR b
  | .loop b=>firstR b
  | .scope b=>firstR b
  | _=>none
def keptAt:List (Nat × List Nat)->Option Nat->Option (List Nat)
  | [],_=>none
  | (i,l) :: rest,some j=>if i=j then some l else keptAt rest (some j)
  | _ :: _,none=>none
def guardD (x:AV) (want:Bool) (A B:Prop):Prop:=match x with
  | .pv (.bool b)=>if b=want then A else B
  | _=>False
def condD (x:AV) (A B:Prop):Prop:=match x with
  | .pv (.bool t)=>if t=true then A else B
  | _=>False
def cutK (k:Fr->AS->Prop) (fr:Fr) (σ:AS):Prop:=k fr σ
theorem cutK_of {p:Prop} {k:Fr->AS->Prop} {fr:Fr} {σ:AS} (h:p=k fr σ):p=cutK k fr σ:=h
def seqQ (l:Option (List Nat)) (nb:Fr->AS->Prop) (Q:AEx->Fr->AS->Prop):AEx->Fr->AS->Prop:=fun e fr σ=>match e with
  | .normal=>(match l with | some l=>cutK nb (fr.keep l) σ | none=>nb fr σ)
  | e=>Q e fr σ
def blockQ (id:Nat) (Q:AEx->Fr->AS->Prop):AEx->Fr->AS->Prop:=fun e fr σ=>match e with
  | .exit i=>if i=id then Q .normal fr σ else Q (.exit i) fr σ
  | e=>Q e fr σ
def loopQ (l:List Nat) (I:Nat->List AV->AS->Prop) (m:Nat) (Q:AEx->Fr->AS->Prop):AEx->Fr->AS->Prop:=fun e fr σ=>match e with
  | .normal=>∃ m',m' < m/\I m' (l.map fr.get) σ
  | e=>Q e fr σ
def opsD (P:Program) (env:Env) (an:An) (ops:Array Oper) (Q:AEx->Fr->AS->Prop):List Oper->Nat->List Nat->Option ((Nat × Bool) × Bool)->Fr->AS->Prop
  | [],_,_,_,fr,σ=>Q .normal fr σ
  | o :: rest,k,sk,g,fr,σ=>match o.guard with
    | none=>opD P env an.isMu fr σ o.dst o.op (fun v σ=>opsD P env an ops Q rest (k + 1) sk g (fr.put o.dst v) σ) (fun p σ=>Q (.panic p) fr σ)
    | some gd=>if sk.contains gd.1=true then opsD P env an ops Q rest (k + 1) (k :: sk) g (fr.put o.dst .undef) σ else
      let decide:=match (ops[gd.1]?).bind (·.dst) with
        | some d=>guardD (fr.get d) gd.2 (opD P env an.isMu ((d,.pv (.bool gd.2)) :: fr) σ o.dst o.op (fun v σ=>opsD P env an ops Q rest (k + 1) sk (some (gd,true)) (Fr.put ((d,.pv (.bool gd.2)) :: fr) o.dst v) σ) (fun p σ=>Q (.panic p) ((d,.pv (.bool gd.2)) :: fr) σ))
            (opsD P env an ops Q rest (k + 1) (k :: sk) (some (gd,false)) (Fr.put ((d,.pv (.bool (!gd.2))) :: fr) o.dst .undef) σ)
        | none=>False
      match g with
      | some (gd',r)=>if gd=gd' then (if r=true then opD P env an.isMu fr σ o.dst o.op (fun v σ=>opsD P env an ops Q rest (k + 1) sk g (fr.put o.dst v) σ) (fun p σ=>Q (.panic p) fr σ) else opsD P env an ops Q rest (k + 1) (k :: sk) g (fr.put o.dst .undef) σ) else decide
      | none=>decide
def isCalm (P:Program):Op->Bool
  | .move _ | .assign _ | .pick .. | .nilCheck _ | .unOp .. | .fieldAddr .. | .field .. | .indexAddr .. | .index .. | .extract ..=>true
  | .binOp _ t _ _ _=>match P.underlying t with | some (.int _) | some .string=>true | _=>false
  | .slice t _ _ _ none=>match P.underlying t with | some .string=>true | _=>false
  | .call { callee:=.builtin .len,.. }=>true
  | _=>false
def isCalmAt (P:Program) (mu:Option Nat->Bool) (ops:Array Oper) (i:Nat):Bool:=match ops[i]? with
  | some o=>isCalm P o.op && isStill mu P o.dst o.op
  | none=>false
def allP:List Nat->(Nat->Prop)->Prop
  | [],_=>True
  | i :: is,k=>k i/\allP is k
def atP (ops:Array Oper) (i:Nat) (k:Oper->Prop):Prop:=match ops[i]? with
  | some o=>k o
  | none=>False
def oneD (P:Program) (env:Env) (mu:Option Nat->Bool) (ops:Array Oper) (X:PV->AS->Prop) (sk:List Nat) (i:Nat) (fr:Fr) (σ:AS) (k:List Nat->Fr->AS->Prop):Prop :=
  atP ops i fun o=>match o.guard with
    | none=>opD P env mu fr σ o.dst o.op (fun v σ=>k sk (fr.put o.dst v) σ) X
    | some gd=>if sk.contains gd.1=true then k (i :: sk) (fr.put o.dst .undef) σ else
      match (ops[gd.1]?).bind (·.dst) with
      | some d=>guardD (fr.get d) gd.2 (opD P env mu ((d,.pv (.bool gd.2)) :: fr) σ o.dst o.op (fun v σ=>k sk (Fr.put ((d,.pv (.bool gd.2)) :: fr) o.dst v) σ) X)
          (k (i :: sk) (Fr.put ((d,.pv (.bool (!gd.2))) :: fr) o.dst .undef) σ)
      | none=>False
def anyD (P:Program) (env:Env) (an:An) (ops:Array Oper) (Q:AEx->Fr->AS->Prop):Nat->Array Bool->List Nat->Fr->AS->Prop
  | 0,_,_,_,_=>False
  | f + 1,listed,sk,fr,σ=>match Region.ready .any ops listed with
    | []=>Q .normal fr σ
    | i0 :: rs=>match (i0 :: rs).find? (fun i=>isCalmAt P an.isMu ops i && Region.free .any ops listed i) with
      | some i=>oneD P env an.isMu ops (fun p σ=>Q (.panic p) [] σ) sk i fr σ fun sk fr σ=>anyD P env an ops Q f (listed.setIfInBounds i true) sk fr σ
      | none=>allP (i0 :: rs) fun i=>oneD P env an.isMu ops (fun p σ=>Q (.panic p) [] σ) sk i fr σ fun sk fr σ=>anyD P env an ops Q f (listed.setIfInBounds i true) sk fr σ
def allV:List Nat->(Fr->Prop)->Prop
  | [],k=>k []
  | t :: l,k=>∀ v,allV l fun fr=>k ((t,v) :: fr)
def allB:Nat->(List Bool->Prop)->Prop
  | 0,k=>k []
  | n + 1,k=>∀ b:Bool,allB n fun l=>k (b :: l)
def depsB (bs:List Bool):List Edge->Prop
  | []=>True
  | e :: es=>(if Region.binds .any e=true then bs.getD e.on false=true else True)/\depsB bs es
def invSteps (P:Program) (env:Env) (mu:Option Nat->Bool) (X:PV->AS->Prop) (I:List Bool->List AV->AS->Prop) (ds:List Nat) (bs:List Bool) (fr:Fr) (σ:AS):List Oper->Nat->Prop
  | [],_=>True
  | o :: rest,i=>(bs.getD i true=false->depsB bs o.after.toList->opD P env mu fr σ o.dst o.op (fun v σ=>I (bs.set i true) (ds.map (fr.put o.dst v).get) σ) X)/\invSteps P env mu X I ds bs fr σ rest (i + 1)
def invD (P:Program) (env:Env) (an:An) (ops:Array Oper) (ds:List Nat) (Q:AEx->Fr->AS->Prop) (fr:Fr) (σ:AS):Prop :=
  ∃ I:List Bool->List AV->AS->Prop,I (List.replicate ops.size false) (ds.map fr.get) σ /\
    allB ops.size fun bs=>allV ds fun frv=>∀ σ,I bs (ds.map (Fr.get (frv ++ fr))) σ ->
      invSteps P env an.isMu (fun p σ=>Q (.panic p) [] σ) I ds bs (frv ++ fr) σ ops.toList 0/\(bs.all id=true->Q .normal (frv ++ fr) σ)
def dstsOf (ops:Array Oper):List Nat:=ops.toList.filterMap (·.dst)
def gtQ (J:Nat->Fr->AS->Prop) (Q:AEx->Fr->AS->Prop):AEx->Fr->AS->Prop:=fun e fr σ=>match e with
  | .goto l=>J l fr σ
  | e=>Q e fr σ
mutual
def wpD (P:Program) (env:Env) (an:An):Code->(AEx->Fr->AS->Prop)->Fr->AS->Prop
  | .skip,Q,fr,σ=>Q .normal fr σ
  | .region id ops _,Q,fr,σ=>if an.inv.contains id=true then invD P env an ops (dstsOf ops) Q fr σ else if an.any.contains id=true then anyD P env an ops Q (ops.size + 1) (Array.replicate ops.size false) [] fr σ else opsD P env an ops Q ops.toList 0 [] none fr σ
  | .seq a b,Q,fr,σ=>wpD P env an a (seqQ (keptAt an.cut (firstR b)) (fun fr σ=>wpD P env an b Q fr σ) Q) fr σ
  | .cond c x y,Q,fr,σ=>condD (ev fr c) (wpD P env an x Q fr σ) (wpD P env an y Q fr σ)
  | .block id b,Q,fr,σ=>wpD P env an b (blockQ id Q) fr σ
  | .loop b,Q,fr,σ=>match keptAt an.loop (firstR b) with
    | some l=>∃ I:Nat->List AV->AS->Prop,(∃ m,I m (l.map fr.get) σ)/\∀ m,allV l fun fr=>∀ σ,I m (l.map fr.get) σ->wpD P env an b (loopQ l I m Q) fr σ
    | none=>False
  | .exit id,Q,fr,σ=>Q (.exit id) fr σ
  | .label _,Q,fr,σ=>Q .normal fr σ
  | .goto l,Q,fr,σ=>Q (.goto l) fr σ
  | .scope c,Q,fr,σ=>wpD P env an c (gtQ (fun l fr σ=>wpL P env an c l (gtQ (fun l fr σ=>wpL P env an c l (gtQ (fun _ _ _=>False) Q) fr σ) Q) fr σ) Q) fr σ
  | .ret,Q,fr,σ=>Q .ret fr σ
  | _,_,_,_=>False
def wpL (P:Program) (env:Env) (an:An):Code->Nat->(AEx->Fr->AS->Prop)->Fr->AS->Prop
  | .seq a b,l,Q,fr,σ=>if (findLabel a l).isSome=true then wpL P env an a l (seqQ (keptAt an.cut (firstR b)) (fun fr σ=>wpD P env an b Q fr σ) Q) fr σ else wpL P env an b l Q fr σ
  | .label l',l,Q,fr,σ=>if l' == l then Q .normal fr σ else False
  | _,_,_,_,_=>False
end
def scopeQ (P:Program) (env:Env) (an:An) (c:Code) (Q:AEx->Fr->AS->Prop):AEx->Fr->AS->Prop:=gtQ (fun l fr σ=>wpL P env an c l (gtQ (fun l fr σ=>wpL P env an c l (gtQ (fun _ _ _=>False) Q) fr σ) Q) fr σ) Q
def subC:Code->List Nat->Code
  | c,[]=>c
  | .seq a b,i :: p=>if i=0 then subC a p else subC b p
  | .cond _ a b,i :: p=>if i=0 then subC a p else subC b p
  | .block _ b,_ :: p=>subC b p
  | .loop b,_ :: p=>subC b p
  | .scope b,_ :: p=>subC b p
  | c,_ :: _=>c
def contQ (P:Program) (env:Env) (an:An):Code->List Nat->List ((Nat->List AV->AS->Prop) × Nat)->(AEx->Fr->AS->Prop)->AEx->Fr->AS->Prop
  | _,[],_,Q=>Q
  | .seq a b,i :: p,ls,Q=>if i=0 then contQ P env an a p ls (seqQ (keptAt an.cut (firstR b)) (fun fr σ=>wpD P env an b Q fr σ) Q) else contQ P env an b p ls Q
  | .cond _ a b,i :: p,ls,Q=>if i=0 then contQ P env an a p ls Q else contQ P env an b p ls Q
  | .block id b,_ :: p,ls,Q=>contQ P env an b p ls (blockQ id Q)
  | .scope b,_ :: p,ls,Q=>contQ P env an b p ls (scopeQ P env an b Q)
  | .loop b,_ :: p,(I,m) :: ls,Q=>(match keptAt an.loop (firstR b) with
    | some l=>contQ P env an b p ls (loopQ l I m Q)
    | none=>Q)
  | _,_ :: _,_,Q=>Q
def wk1 (r r':AV):Prop:=r'=r \/ ∃ p,toPV r=some p/\r'=.pv p
def wkL:List AV->List AV->Prop
  | [],[]=>True
  | a :: az,b :: bs=>wk1 a b/\wkL az bs
  | _,_=>False
def wk (r r':AV):Prop:=wk1 r r' \/ match r,r' with
  | .tuple az,.tuple bs=>wkL az bs
  | .agg az,.agg bs=>wkL az bs
  | _,_=>False
def resultsD (P:Program) (fr:Fr) (σ:AS):List ResultVar->(List AV->Prop)->Prop
  | [],K=>K []
  | .tmp t :: rs,K=>resultsD P fr σ rs fun vs=>K (fr.get t :: vs)
  | .cell a t :: rs,K=>lock loadD P σ t (fr.get a) fun v=>resultsD P fr σ rs fun vs=>K (v :: vs)
def retV (v:AV) (σ:AS) (K:AV->AS->Prop):Prop:=∃ r σ',wk v r/\σ'.sub σ/\K r σ'
def panV (X:PV->AS->Prop):PV->AS->Prop:=fun p σ=>∃ σ',σ'.sub σ/\X p σ'
def retD (P:Program) (fn:Func) (K:AV->AS->Prop) (fr:Fr) (σ:AS):Prop :=
  resultsD P fr σ fn.results.toList fun vs=>retV (match vs with | [v]=>v | _=>.tuple vs) σ K
def rootQ (P:Program) (fn:Func) (K:AV->AS->Prop) (X:PV->AS->Prop):AEx->Fr->AS->Prop:=fun e fr σ=>match e with
  | .normal | .ret=>retD P fn K fr σ
  | .panic p=>panV X p σ
  | _=>False
def frOf:Nat->List AV->Fr
  | _,[]=>[]
  | i,v :: vs=>(i,v) :: frOf (i + 1) vs
def bodyC (fn:Func):Code:=fn.body.getD (.refuse "")
def bodyD (P:Program) (env:Env) (an:An) (fn:Func):Tr:=fun args σ K X=>if args.length <= fn.ntmps then wpD P env an (bodyC fn) (rootQ P fn K X) (frOf 0 args) σ else False
def headLen (mu:Option Nat->Bool) (P:Program):List Oper->Nat
  | []=>0
  | o :: rest=>if isStill mu P o.dst o.op then headLen mu P rest + 1 else 0
def guardsOk (ops:Array Oper):Bool:=ops.all fun o=>match o.guard with
  | none=>true
  | some (j,_)=>match (ops[j]?).bind (·.dst) with
    | some d=>(List.range ops.size).all fun k=>k == j || (match ops[k]? with | some o'=>o'.dst != some d | none=>true)
    | none=>false
def guardsBack (ops:Array Oper):Bool:=(List.range ops.size).all fun k=>match ops[k]? with
  | some o=>(match o.guard with | some (j,_)=>decide (j < k) | none=>true)
  | none=>true
def edgesBack (ops:Array Oper):Bool:=(List.range ops.size).all fun k=>match ops[k]? with
  | some o=>o.after.all fun e=>!Region.binds .any e || decide (e.on < k)
  | none=>true
def okCode (an:An) (P:Program) (n:Nat):Code->Bool
  | .region id ops draw=>if an.inv.contains id=true then draw && (ops.all fun o=>match o.dst with | some d=>d < n | none=>true) && (ops.all fun o=>o.guard.isNone) && edgesBack ops && Region.noSelect ops else if an.any.contains id=true then draw && (ops.all fun o=>match o.dst with | some d=>d < n | none=>true) && guardsOk ops && Region.noSelect ops else (ops.all fun o=>match o.dst with | some d=>d < n | none=>true) && guardsOk ops && guardsBack ops &&
      (!draw || (Region.lexB .any ops && headLen an.isMu P ops.toList == ops.size) || Region.lexTailB .any ops (headLen an.isMu P ops.toList))
  | .seq a b=>okCode an P n a && okCode an P n b
  | .cond _ a b=>okCode an P n a && okCode an P n b
  | .block _ b=>okCode an P n b
  | .loop b=>okCode an P n b
  | .scope b=>okCode an P n b
  | _=>true
end Go.AD
