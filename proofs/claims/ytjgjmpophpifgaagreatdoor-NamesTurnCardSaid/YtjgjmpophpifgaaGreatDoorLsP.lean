import Derived.Test.YtjgjmpophpifgaaGreatDoorM7
import Derived.Test.YtjgjmpophpifgaaGreatDoorM10
import Derived.Test.YtjgjmpophpifgaaGreatDoorM9
import Derived.Test.YtjgjmpophpifgaaGreatDoorM11
set_option linter.unusedVariables false
set_option linter.unusedSimpArgs false
namespace Go.AD.Lx
inductive NTree where
  | mk (op text:Bytes) (kids:List NTree)
namespace NTree
def op:NTree->Bytes | mk a _ _=>a
def text:NTree->Bytes | mk _ a _=>a
def kids:NTree->List NTree | mk _ _ a=>a
end NTree
inductive R (α:Type) where
  | out
  | wrong
  | ok (a:α) (ts:List Tok)
def bnd {α β:Type} (m:R α) (k:α->List Tok->R β):R β:=match m with
  | .out=>.out
  | .wrong=>.wrong
  | .ok a ts=>k a ts
abbrev Ps (α:Type):=List Tok->R α
def atS (k:Nat) (ts:List Tok):Tok:=ts.getD k ([],[])
def opT (t:Bytes):Tok:=(kOp,t)
def wordT (t:Bytes):Tok:=(kWord,t)
def needS (t:Tok):Ps Unit:=fun ts=>if atS 0 ts=t then .ok () (ts.drop 1) else .wrong
def kindS (ks:List Bytes):Ps Bytes:=fun ts=>if (atS 0 ts).1 ∈ ks then .ok (atS 0 ts).2 (ts.drop 1) else .wrong
def nlsS:List Tok->List Tok
  | []=>[]
  | t :: ts=>if t.1=kNl then nlsS ts else t :: ts
def endB (t:Tok):Bool:=decide (t.1=kNl) || decide (t=opT [59])
def endsS:List Tok->List Tok
  | []=>[]
  | t :: ts=>if endB t=true then endsS ts else t :: ts
def wIn:Bytes:=[105,110]
def oVar:Bytes:=[118,97,114]
def oElem:Bytes:=[101,108,101,109]
def oField:Bytes:=[102,105,101,108,100]
def oNone:Bytes:=[110,111,110,101]
def oPre:Bytes:=[112,114,101]
def oPost:Bytes:=[112,111,115,116]
def oBin:Bytes:=[98,105,110]
def oUnary:Bytes:=[117,110,97,114,121]
def oAssign:Bytes:=[97,115,115,105,103,110]
def oCond:Bytes:=[99,111,110,100]
def oCat:Bytes:=[99,97,116]
def oCall:Bytes:=[99,97,108,108]
def oGroup:Bytes:=[103,114,111,117,112]
def oList:Bytes:=[108,105,115,116]
def oExpr:Bytes:=[101,120,112,114]
def oIf:Bytes:=[105,102]
def oWhile:Bytes:=[119,104,105,108,101]
def oDo:Bytes:=[100,111]
def oFor:Bytes:=[102,111,114]
def oForin:Bytes:=[102,111,114,105,110]
def oElse:Bytes:=[101,108,115,101]
def oDelete:Bytes:=[100,101,108,101,116,101]
def oPrint:Bytes:=[112,114,105,110,116]
def oPrintf:Bytes:=[112,114,105,110,116,102]
def oNext:Bytes:=[110,101,120,116]
def oBreak:Bytes:=[98,114,101,97,107]
def oContinue:Bytes:=[99,111,110,116,105,110,117,101]
def oExit:Bytes:=[101,120,105,116]
def oReturn:Bytes:=[114,101,116,117,114,110]
def oBlock:Bytes:=[98,108,111,99,107]
def oParams:Bytes:=[112,97,114,97,109,115]
def oBegin:Bytes:=[66,69,71,73,78]
def oEnd:Bytes:=[69,78,68]
def oFunction:Bytes:=[102,117,110,99,116,105,111,110]
def oRule:Bytes:=[114,117,108,101]
def oRange:Bytes:=[114,97,110,103,101]
def noneN:NTree:=.mk oNone [] []
def placeB (n:NTree):Bool:=decide (n.op=oVar) || (decide (n.op=oElem) || decide (n.op=oField))
def beginsB (t:Tok):Bool:=decide (t.1 ∈ [kNum,kStr,kEre,kName,kFunc,kBuilt]) || (decide (t.1=kOp) && decide (t.2 ∈ [[36],[40],[43,43],[45,45]]))
def startsB (t:Tok):Bool:=beginsB t || decide (t=opT [33] \/ t=opT [43] \/ t=opT [45])
def levelS (pr:Bool) (t:Tok):Nat :=
  if t=wordT wIn then 5
  else if beginsB t=true then 8
  else if t.1 ≠ kOp then 0
  else if t.2 ∈ [[61],[43,61],[45,61],[42,61],[47,61],[37,61],[94,61]] then 1
  else if t.2=[63] then 2
  else if t.2=[124,124] then 3
  else if t.2=[38,38] then 4
  else if t.2 ∈ [[126],[33,126]] then 6
  else if t.2=[62] then (if pr=true then 0 else 7)
  else if t.2 ∈ [[60],[60,61],[61,61],[33,61],[62,61]] then 7
  else if t.2 ∈ [[43],[45]] then 9
  else if t.2 ∈ [[42],[47],[37]] then 10
  else 0
structure Rec where
  fuel:Nat
  expr:Nat->Bool->Ps NTree
  unary:Ps NTree
  exponent:Ps NTree
  operand:Ps NTree
  statement:Ps (NTree × Bool)
def steppedS (ts:List Tok):Option Bytes:=if atS 0 ts=opT [43,43] then some [43,43] else if atS 0 ts=opT [45,45] then some [45,45] else none
def aheadS (r:Rec):Ps (Option NTree):=fun ts=>match steppedS ts with
  | none=>.ok none ts
  | some s=>bnd (r.operand (ts.drop 1)) fun e ts=>if placeB e=true then .ok (some (.mk oPre s [e])) ts else .wrong
def stepS (r:Rec):Ps NTree:=fun ts=>bnd (aheadS r ts) fun o ts=>match o with
  | some e=>.ok e ts
  | none=>bnd (r.operand ts) fun e ts=>if placeB e=true then (match steppedS ts with
    | some s=>.ok (.mk oPost s [e]) (ts.drop 1)
    | none=>.ok e ts) else .ok e ts
def powerS (r:Rec):Ps NTree:=fun ts=>bnd (stepS r ts) fun e ts=>if atS 0 ts=opT [94] then bnd (r.exponent (ts.drop 1)) fun x ts=>.ok (.mk oBin [94] [e,x]) ts else .ok e ts
def listL (r:Rec) (pr:Bool):Nat->List NTree->Ps (List NTree)
  | 0,_,_=>.out
  | f + 1,l,ts=>if atS 0 ts=opT [44] then bnd (r.expr 1 pr (nlsS (ts.drop 1))) fun e ts=>listL r pr f (l ++ [e]) ts else .ok l ts
def listS (r:Rec) (pr:Bool):Ps (List NTree):=fun ts=>bnd (r.expr 1 pr ts) fun e ts=>listL r pr r.fuel [e] ts
def argsS (r:Rec):Ps (List NTree):=fun ts=>if atS 0 ts=opT [41] then .ok [] (ts.drop 1) else bnd (listS r false ts) fun l ts=>bnd (needS (opT [41]) ts) fun _ ts=>.ok l ts
def subsS (r:Rec):Ps (List NTree):=fun ts=>bnd (listS r false ts) fun l ts=>bnd (needS (opT [93]) ts) fun _ ts=>.ok l ts
def exprL (r:Rec) (least:Nat) (pr:Bool):Nat->NTree->Nat->Ps NTree
  | 0,_,_,_=>.out
  | f + 1,left,bound,ts =>
    if levelS pr (atS 0 ts) < least \/ bound < levelS pr (atS 0 ts) \/ levelS pr (atS 0 ts)=0 then .ok left ts
    else if levelS pr (atS 0 ts)=1 then (if placeB left=true then bnd (r.expr 1 pr (ts.drop 1)) fun e ts'=>.ok (.mk oAssign (atS 0 ts).2 [left,e]) ts' else .wrong)
    else if levelS pr (atS 0 ts)=2 then bnd (r.expr 1 pr (nlsS (ts.drop 1))) fun a ts=>bnd (needS (opT [58]) ts) fun _ ts=>bnd (r.expr 1 pr (nlsS ts)) fun b ts=>.ok (.mk oCond [] [left,a,b]) ts
    else if levelS pr (atS 0 ts)=5 then bnd (kindS [kName] (ts.drop 1)) fun x ts=>exprL r least pr f (.mk wIn x [left]) 5 ts
    else if levelS pr (atS 0 ts)=8 then bnd (r.expr 9 pr ts) fun e ts=>exprL r least pr f (.mk oBin oCat [left,e]) 8 ts
    else bnd (r.expr (levelS pr (atS 0 ts) + 1) pr (if levelS pr (atS 0 ts) <= 4 then nlsS (ts.drop 1) else ts.drop 1)) fun e ts'=>exprL r least pr f (.mk oBin (atS 0 ts).2 [left,e]) (if levelS pr (atS 0 ts)=7 then 6 else levelS pr (atS 0 ts)) ts'
def exprS (r:Rec) (least:Nat) (pr:Bool):Ps NTree:=fun ts=>bnd (r.unary ts) fun e ts=>exprL r least pr r.fuel e 10 ts
def signS (l:List Bytes) (ts:List Tok):Option Bytes:=match l with
  | []=>none
  | s :: l=>if atS 0 ts=opT s then some s else signS l ts
def unaryS (r:Rec):Ps NTree:=fun ts=>match signS [[33],[43],[45]] ts with
  | some s=>bnd (r.unary (ts.drop 1)) fun e ts=>.ok (.mk oUnary s [e]) ts
  | none=>powerS r ts
def exponentS (r:Rec):Ps NTree:=fun ts=>match signS [[43],[45]] ts with
  | some s=>bnd (r.exponent (ts.drop 1)) fun e ts=>.ok (.mk oUnary s [e]) ts
  | none=>powerS r ts
def opndS (r:Rec):Ps NTree:=fun ts =>
  if atS 0 ts=([],[]) then .wrong
  else if (atS 0 ts).1 ∈ [kNum,kStr,kEre] then .ok (.mk (atS 0 ts).1 (atS 0 ts).2 []) (ts.drop 1)
  else if (atS 0 ts).1=kName then (if atS 1 ts=opT [91] then bnd (subsS r (ts.drop 2)) fun l ts'=>.ok (.mk oElem (atS 0 ts).2 l) ts' else .ok (.mk oVar (atS 0 ts).2 []) (ts.drop 1))
  else if (atS 0 ts).1=kFunc then bnd (argsS r (ts.drop 2)) fun l ts'=>.ok (.mk oCall (atS 0 ts).2 l) ts'
  else if (atS 0 ts).1=kBuilt then (if atS 1 ts=opT [40] then bnd (argsS r (ts.drop 2)) fun l ts'=>.ok (.mk kBuilt (atS 0 ts).2 l) ts' else if (atS 0 ts).2=sLength then .ok (.mk kBuilt (atS 0 ts).2 []) (ts.drop 1) else .wrong)
  else if atS 0 ts=opT [40] then bnd (listS r false (ts.drop 1)) fun l ts=>bnd (needS (opT [41]) ts) fun _ ts=>if l.length=1 then .ok (.mk oGroup [] l) ts else if atS 0 ts=wordT wIn then bnd (kindS [kName] (ts.drop 1)) fun x ts=>.ok (.mk wIn x l) ts else .ok (.mk oList [] l) ts
  else if atS 0 ts=opT [36] then bnd (aheadS r (ts.drop 1)) fun o ts=>match o with
    | some e=>.ok (.mk oField [] [e]) ts
    | none=>bnd (r.operand ts) fun e ts=>.ok (.mk oField [] [e]) ts
  else .wrong
def unlist (l:List NTree):List NTree:=match l with
  | [.mk op _ ks]=>if op=oList then ks else l
  | _=>l
def printTail (r:Rec) (w:Bytes) (l:List NTree):Ps NTree:=fun ts=>match signS [[62],[62,62]] ts with
  | some s=>bnd (r.expr 8 true (ts.drop 1)) fun e ts=>.ok (.mk w s (l ++ [e])) ts
  | none=>.ok (.mk w [] l) ts
def printedS (r:Rec) (w:Bytes):Ps NTree:=fun ts=>if startsB (atS 0 ts)=true then bnd (listS r true ts) fun l ts=>printTail r w (unlist l) ts else if w=oPrintf then .wrong else printTail r w [] ts
def simpleS (r:Rec):Ps NTree:=fun ts =>
  if (atS 0 ts).1 ≠ kWord then bnd (r.expr 1 false ts) fun e ts=>.ok (.mk oExpr [] [e]) ts
  else if (atS 0 ts).2 ∈ [oPrint,oPrintf] then printedS r (atS 0 ts).2 (ts.drop 1)
  else if (atS 0 ts).2 ∈ [oNext,oBreak,oContinue] then .ok (.mk (atS 0 ts).2 [] []) (ts.drop 1)
  else if (atS 0 ts).2 ∈ [oExit,oReturn] then (if startsB (atS 1 ts)=true then bnd (r.expr 1 false (ts.drop 1)) fun e ts'=>.ok (.mk (atS 0 ts).2 [] [e]) ts' else .ok (.mk (atS 0 ts).2 [] []) (ts.drop 1))
  else if (atS 0 ts).2=oDelete then bnd (kindS [kName] (ts.drop 1)) fun a ts=>bnd (needS (opT [91]) ts) fun _ ts=>bnd (subsS r ts) fun l ts=>.ok (.mk oDelete a l) ts
  else .wrong
def parenS (r:Rec):Ps NTree:=fun ts=>bnd (needS (opT [40]) ts) fun _ ts=>bnd (r.expr 1 false ts) fun e ts=>bnd (needS (opT [41]) ts) fun _ ts=>.ok e ts
def bodyS (r:Rec):Ps (NTree × Bool):=fun ts=>r.statement (nlsS ts)
def choiceS (r:Rec):Ps (NTree × Bool):=fun ts=>bnd (parenS r ts) fun c ts=>bnd (bodyS r ts) fun a ts =>
  if (endB (atS 0 ts)=true \/ a.2=false)/\atS 0 (endsS ts)=wordT oElse then bnd (bodyS r ((endsS ts).drop 1)) fun b ts=>.ok (.mk oIf [] [c,a.1,b.1],b.2) ts
  else .ok (.mk oIf [] [c,a.1],a.2) ts
def partS (u:Bytes) (p:Ps NTree):Ps NTree:=fun ts=>bnd (if atS 0 ts=opT u then .ok noneN ts else p ts) fun e ts=>bnd (needS (opT u) ts) fun _ ts=>.ok e (nlsS ts)
def loopS (r:Rec):Ps (NTree × Bool):=fun ts=>bnd (needS (opT [40]) ts) fun _ ts =>
  if (atS 0 ts).1=kName/\atS 1 ts=wordT wIn/\(atS 2 ts).1=kName/\atS 3 ts=opT [41] then bnd (bodyS r (ts.drop 4)) fun s ts'=>.ok (.mk oForin (atS 0 ts).2 [.mk oVar (atS 2 ts).2 [],s.1],s.2) ts'
  else bnd (partS [59] (simpleS r) ts) fun a ts=>bnd (partS [59] (r.expr 1 false) ts) fun b ts=>bnd (partS [41] (simpleS r) ts) fun c ts=>bnd (r.statement ts) fun s ts=>.ok (.mk oFor [] [a,b,c,s.1],s.2) ts
def blockL (r:Rec):Nat->List NTree->Ps NTree
  | 0,_,_=>.out
  | f + 1,l,ts=>if atS 0 ts=opT [125] then .ok (.mk oBlock [] l) (ts.drop 1) else bnd (r.statement ts) fun s ts=>if endB (atS 0 ts)=true \/ s.2=false \/ atS 0 (endsS ts)=opT [125] then blockL r f (l ++ [s.1]) (endsS ts) else .wrong
def blockS (r:Rec):Ps NTree:=fun ts=>bnd (needS (opT [123]) ts) fun _ ts=>blockL r r.fuel [] (endsS ts)
def statementS (r:Rec):Ps (NTree × Bool):=fun ts =>
  if atS 0 ts=opT [123] then bnd (blockS r ts) fun b ts=>.ok (b,false) ts
  else if atS 0 ts=opT [59] then .ok (noneN,false) (ts.drop 1)
  else if atS 0 ts=wordT oIf then choiceS r (ts.drop 1)
  else if atS 0 ts=wordT oWhile then bnd (parenS r (ts.drop 1)) fun c ts=>bnd (bodyS r ts) fun s ts=>.ok (.mk oWhile [] [c,s.1],s.2) ts
  else if atS 0 ts=wordT oDo then bnd (bodyS r (ts.drop 1)) fun s ts=>if endB (atS 0 ts)=true \/ s.2=false then bnd (needS (wordT oWhile) (endsS ts)) fun _ ts=>bnd (parenS r ts) fun c ts=>.ok (.mk oDo [] [s.1,c],true) ts else .wrong
  else if atS 0 ts=wordT oFor then loopS r (ts.drop 1)
  else bnd (simpleS r ts) fun e ts=>.ok (e,true) ts
def stepR (r:Rec):Rec where
  fuel:=r.fuel + 1
  expr:=exprS r
  unary:=unaryS r
  exponent:=exponentS r
  operand:=opndS r
  statement:=statementS r
def recN:Nat->Rec
  | 0=>⟨0,fun _ _ _=>.out,fun _=>.out,fun _=>.out,fun _=>.out,fun _=>.out⟩
  | n + 1=>stepR (recN n)
def paramsL:Nat->List NTree->Ps (List NTree)
  | 0,_,_=>.out
  | f + 1,l,ts=>bnd (kindS [kName] (if l=[] then ts else nlsS ts)) fun x ts=>if atS 0 ts=opT [44] then paramsL f (l ++ [.mk oVar x []]) (ts.drop 1) else bnd (needS (opT [41]) ts) fun _ ts=>.ok (l ++ [.mk oVar x []]) ts
def functionS (r:Rec):Ps NTree:=fun ts=>bnd (kindS [kName,kFunc] ts) fun name ts=>bnd (needS (opT [40]) ts) fun _ ts =>
  bnd (if atS 0 ts=opT [41] then .ok [] (ts.drop 1) else paramsL r.fuel [] ts) fun l ts=>bnd (blockS r (nlsS ts)) fun b ts=>.ok (.mk kFunc name [.mk oParams [] l,b]) ts
def blkS (r:Rec):Ps (NTree × Bool):=fun ts=>if atS 0 ts=opT [123] then bnd (blockS r ts) fun b ts=>.ok (b,false) ts else .ok (noneN,true) ts
def itemS (r:Rec):Ps (NTree × Bool):=fun ts =>
  if atS 0 ts=wordT oBegin then bnd (blockS r (ts.drop 1)) fun b ts=>.ok (.mk oBegin [] [b],false) ts
  else if atS 0 ts=wordT oEnd then bnd (blockS r (ts.drop 1)) fun b ts=>.ok (.mk oEnd [] [b],false) ts
  else if atS 0 ts=wordT oFunction then bnd (functionS r (ts.drop 1)) fun f ts=>.ok (f,false) ts
  else if atS 0 ts=opT [123] then bnd (blockS r ts) fun b ts=>.ok (.mk oRule [] [noneN,b],false) ts
  else bnd (r.expr 1 false ts) fun a ts=>if atS 0 ts=opT [44] then bnd (r.expr 1 false (nlsS (ts.drop 1))) fun b ts=>bnd (blkS r ts) fun c ts=>.ok (.mk oRange [] [a,b,c.1],c.2) ts
    else bnd (blkS r ts) fun c ts=>.ok (.mk oRule [] [a,c.1],c.2) ts
structure WhereS where
  next:Bool
  result:Bool
  loop:Bool
def countsS (n:Bytes):Nat × Nat :=
  if n=sLength then (0,1)
  else if n ∈ [[115,117,98,115,116,114],[115,112,108,105,116],[115,117,98],[103,115,117,98]] then (2,3)
  else if n ∈ [[105,110,100,101,120],[109,97,116,99,104]] then (2,2)
  else if n=[115,112,114,105,110,116,102] then (1,20000)
  else (1,1)
def sSub:Bytes:=[115,117,98]
def builtS (n:NTree):Bool :=
  if n.kids.length < (countsS n.text).1 \/ (countsS n.text).2 < n.kids.length then false
  else if n.text=[115,112,108,105,116] then decide ((n.kids.getD 1 noneN).op=oVar)
  else decide (n.kids.length < 3) || (!(sSub.isSuffixOf n.text) || placeB (n.kids.getD 2 noneN))
def loopedS (n:NTree):Int:=if n.op ∈ [oWhile,oForin] then 1 else if n.op=oDo then 0 else if n.op=oFor then 3 else -1
def headBad (n:NTree) (w:WhereS):Bool:=decide (n.op=oList) || (decide (n.op=oNext) && !w.next) || (decide (n.op=oReturn) && !w.result) || (decide (n.op=oBreak \/ n.op=oContinue) && !w.loop) || (decide (n.op=kBuilt) && !builtS n)
mutual
def fineS:NTree->Nat->WhereS->Bool
  | .mk op text kids,d,w=>if 200 < d \/ headBad (.mk op text kids) w=true then false else finesS kids 0 (loopedS (.mk op text kids)) d w
def finesS:List NTree->Nat->Int->Nat->WhereS->Bool
  | [],_,_,_,_=>true
  | k :: ks,i,lp,d,w=>if fineS k (d + 1) { w with loop:=w.loop || decide ((i:Int)=lp) }=true then finesS ks (i + 1) lp d w else false
end
def whereOf (n:NTree):WhereS:=⟨decide (n.op=oRule) || decide (n.op=oRange),decide (n.op=kFunc),false⟩
def itemsL (r:Rec):Nat->List NTree->Ps (List NTree)
  | 0,_,_=>.out
  | f + 1,l,ts=>if ts=[] then .ok l [] else bnd (itemS r ts) fun n ts=>if fineS n.1 1 (whereOf n.1)=true then (if endB (atS 0 ts)=true \/ n.2=false \/ endsS ts=[] then itemsL r f (l ++ [n.1]) (endsS ts) else .wrong) else .wrong
def tokensS (n:Nat) (ts:List Tok):R (List NTree):=itemsL (recN n) n [] (endsS ts)
end Go.AD.Lx
set_option linter.unusedVariables false
set_option linter.unusedSimpArgs false
set_option maxRecDepth 100000
namespace Go.AD.Lx
open Go.Proofs RowKit
mutual
def nodeCells:NTree->List PV
  | .mk op text kids=>[.str op,.str text,.lst kids.length (flatN kids)]
def flatN:List NTree->List PV
  | []=>[]
  | n :: l=>nodeCells n ++ flatN l
end
theorem nodeCells_eq (n:NTree):nodeCells n=[.str n.op,.str n.text,.lst n.kids.length (flatN n.kids)]:=by cases n; rw [nodeCells]; rfl
theorem nodeCells_len (n:NTree):(nodeCells n).length=3:=by rw [nodeCells_eq]; rfl
theorem flatN_app (a b:List NTree):flatN (a ++ b)=flatN a ++ flatN b:=by
  induction a with
  | nil=>rw [flatN]; rfl
  | cons s a ih=>rw [List.cons_append,flatN,flatN,ih,List.append_assoc]
theorem flatN_one (n:NTree):flatN [n]=nodeCells n:=by rw [flatN,flatN,List.append_nil]
theorem flatN_len (a:List NTree):(flatN a).length=a.length * 3:=by
  induction a with
  | nil=>rw [flatN]; rfl
  | cons s a ih=>rw [flatN,List.length_append,nodeCells_len,ih,List.length_cons]; omega
theorem flatN_get:∀ (l:List NTree) (i:Nat) (h:i < l.length),((flatN l).drop (i * 3)).take 3=nodeCells l[i]
  | s :: l,0,_=>by
    have:=nodeCells_len s
    simp [flatN,<- this]
  | s :: l,i + 1,h=>by
    have e:(i + 1) * 3=3 + i * 3:=by omega
    rw [e,<- List.drop_drop]
    have h3:(flatN (s :: l)).drop 3=flatN l:=by
      have:=nodeCells_len s
      rw [flatN,<- this,List.drop_left]
    rw [h3]
    exact flatN_get l i (by simpa using h)
def nodeAV (n:NTree):AV:=.agg ((nodeCells n).map .pv)
theorem nodeAV_eq (n:NTree):nodeAV n=.agg [.pv (.str n.op),.pv (.str n.text),.pv (.lst n.kids.length (flatN n.kids))]:=by rw [nodeAV,nodeCells_eq]; rfl
def tokAV (t:Tok):AV:=.agg [.pv (.str t.1),.pv (.str t.2)]
def zeroN:List AV:=[.pv (.str []),.pv (.str []),.nilS]
section
variable {env:Env} {args:List AV} {σ0 σ τ:AS} {K:AV->AS->Prop} {X:PV->AS->Prop} {l:Nat} {ts:List Tok} {L Y:Objs}
theorem rowTN:RowT PS 23 50:=⟨T.el23,by rw [T.sz50]; decide,_,T.zo50,by rw [T.sz50]; rfl⟩
theorem upS {L:Objs} {σ':AS} (h:Sep σ0 σ L) (hs:σ.sub σ'):Sep σ0 σ' L:=⟨AS.sub_trans h.sub hs,h.nodup,h.new,fun p hp=>hs _ _ (h.here p hp)⟩
theorem Sep.at {A B:Objs} {i:Nat} {o:AObj} (h:Sep σ0 σ (A ++ (i,o) :: B)):σ i=some o:=h.get (by simp)
def FuncOk (ts:List Tok):Prop:=∀ i,(ts.getD i ([],[])).1=kFunc->i + 1 < ts.length
theorem FuncOk.drop {ts:List Tok} (h:FuncOk ts) (k:Nat):FuncOk (ts.drop k):=by
  intro i hi
  have e:(ts.drop k).getD i ([],[])=ts.getD (k + i) ([],[]):=by simp [List.getD_eq_getElem?_getD,List.getElem?_drop]
  rw [e] at hi
  have:=h (k + i) hi
  rw [List.length_drop]; omega
structure PsAt (σ0 σ:AS) (l:Nat) (ts:List Tok) (L:Objs):Prop where
  sep:Sep σ0 σ ((l,.cells [.pv (.lst ts.length (flatT ts))] none) :: L)
  len:ts.length <= 70000
  fok:FuncOk ts
theorem PsAt.get (h:PsAt σ0 σ l ts L):σ l=some (.cells [.pv (.lst ts.length (flatT ts))] none):=Sep.get h.sep (by simp)
theorem PsAt.sub (h:PsAt σ0 σ l ts L):σ0.sub σ:=h.sep.sub
theorem PsAt.objs (h:PsAt σ0 σ l ts L):Sep σ0 σ L:=h.sep.drop
theorem PsAt.dropN (k:Nat) (h:PsAt σ0 σ l ts L):PsAt σ0 σ l ts (L.drop k):=⟨h.sep.sublist (List.Sublist.cons_cons _ (List.drop_sublist k L)),h.len,h.fok⟩
theorem PsAt.part {L':Objs} (h:PsAt σ0 σ l ts L) (hs:L'.Sublist L):PsAt σ0 σ l ts L':=⟨h.sep.sublist (List.Sublist.cons_cons _ hs),h.len,h.fok⟩
theorem PsAt.up (h:PsAt σ0 σ l ts L) {σ':AS} (hs:σ.sub σ'):PsAt σ0 σ' l ts L:=⟨upS h.sep hs,h.len,h.fok⟩
theorem PsAt.at (h:PsAt σ0 σ l ts L) {k i:Nat} {o:AObj} (hk:L[k]?=some (i,o)):σ i=some o:=h.objs.get (List.mem_of_getElem? hk)
theorem PsAt.alloc (h:PsAt σ0 σ l ts L) {t:Nat} (ht:σ t=none) (o:AObj):PsAt σ0 (σ.set t o) l ts ((t,o) :: L):=⟨(h.sep.alloc ht o).perm (List.Perm.swap _ _ _),h.len,h.fok⟩
theorem PsAt.put (h:PsAt σ0 σ l ts L) {ts':List Tok} (h2:ts'.length <= 70000) (h3:FuncOk ts'):PsAt σ0 (σ.set l (.cells [.pv (.lst ts'.length (flatT ts'))] none)) l ts' L:=⟨h.sep.set1 _,h2,h3⟩
theorem PsAt.turn {A B:Objs} {t:Nat} {o o':AObj} (h:PsAt σ0 σ l ts (A ++ (t,o) :: B)):PsAt σ0 (σ.set t o') l ts (A ++ (t,o') :: B) :=
  ⟨Sep.set (l1:=_ :: A) h.sep o',h.len,h.fok⟩
def VarN (v:Option TypeId) (t:Nat) (n:NTree):Nat × AObj:=(t,.cells ((nodeCells n).map .pv) v)
def VarT (t:Nat) (k:Tok):Nat × AObj:=(t,.cells [.pv (.str k.1),.pv (.str k.2)] (some 53))
def VarZ (t:Nat):Nat × AObj:=(t,.cells zeroN (some 50))
theorem allocN (h:PsAt σ0 σ l ts L) (hK:∀ t σ',PsAt σ0 σ' l ts (VarZ t :: L)->K (.addr t 0) σ'):allocD PS σ 50 K :=
  alloc_of T.zo50 rfl fun t ht=>hK t _ (h.alloc ht _)
theorem allocT (h:PsAt σ0 σ l ts L) (hK:∀ t σ',PsAt σ0 σ' l ts (VarT t ([],[]) :: L)->K (.addr t 0) σ'):allocD PS σ 53 K :=
  alloc_of T.zo53 rfl fun t ht=>hK t _ (h.alloc ht _)
theorem storeN3 {A B:Objs} {t:Nat} {v:Option TypeId} {a b c x y z:AV} {KS:AS->Prop} (h:PsAt σ0 σ l ts (A ++ (t,.cells [a,b,c] v) :: B)) (hok:[x,y,z].all AV.cellOk=true)
    (hK:∀ σ',PsAt σ0 σ' l ts (A ++ (t,.cells [x,y,z] v) :: B)->KS σ'):storeD PS σ 50 (.addr t 0) (.agg [x,y,z]) KS:=by
  have hg:σ t=some (.cells [a,b,c] v):=h.objs.get (by simp)
  rw [storeD]
  simp only [hg]
  refine ⟨T.hT50,by rw [T.sz50]; rfl,hok,Nat.le_refl _,?_⟩
  exact hK _ h.turn
theorem storeN {A B:Objs} {t:Nat} {v:Option TypeId} {n n0:NTree} {KS:AS->Prop} (h:PsAt σ0 σ l ts (A ++ VarN v t n0 :: B))
    (hK:∀ σ',PsAt σ0 σ' l ts (A ++ VarN v t n :: B)->KS σ'):storeD PS σ 50 (.addr t 0) (nodeAV n) KS:=by
  unfold VarN at h hK
  rw [nodeCells_eq] at h hK
  rw [nodeAV_eq]
  exact storeN3 h rfl hK
theorem storeZ {A B:Objs} {t:Nat} {n:NTree} {KS:AS->Prop} (h:PsAt σ0 σ l ts (A ++ VarZ t :: B))
    (hK:∀ σ',PsAt σ0 σ' l ts (A ++ VarN (some 50) t n :: B)->KS σ'):storeD PS σ 50 (.addr t 0) (nodeAV n) KS:=by
  unfold VarN at hK
  rw [nodeCells_eq] at hK
  rw [nodeAV_eq]
  exact storeN3 h rfl hK
theorem storeT {A B:Objs} {t:Nat} {k0 k:Tok} {KS:AS->Prop} (h:PsAt σ0 σ l ts (A ++ VarT t k0 :: B))
    (hK:∀ σ',PsAt σ0 σ' l ts (A ++ VarT t k :: B)->KS σ'):storeD PS σ 53 (.addr t 0) (tokAV k) KS:=by
  have hg:σ t=some (.cells [.pv (.str k0.1),.pv (.str k0.2)] (some 53)):=h.objs.get (by simp [VarT])
  rw [storeD]
  simp only [hg]
  refine ⟨T.hT53,by rw [T.sz53]; rfl,rfl,Nat.le_refl _,?_⟩
  exact hK _ h.turn
theorem ldN' {t:Nat} {v:Option TypeId} {n:NTree} {K:AV->Prop} (hg:σ t=some (.cells ((nodeCells n).map .pv) v)):loadD PS σ 50 (.addr t 0) K=K (nodeAV n):=by
  rw [load_addrA T.hT50 T.ag50 hg,T.sz50]
  have h3:((nodeCells n).map AV.pv).length=3:=by rw [List.length_map,nodeCells_len]
  rw [h3,List.drop_zero,List.take_of_length_le (by rw [h3]; exact Nat.le_refl _)]
  exact propext ⟨fun h=>h.2,fun h=>⟨by decide,h⟩⟩
theorem ldT' {t:Nat} {v:Option TypeId} {k:Tok} {K:AV->Prop} (hg:σ t=some (.cells [.pv (.str k.1),.pv (.str k.2)] v)):loadD PS σ 53 (.addr t 0) K=K (tokAV k):=by
  rw [load_addrA T.hT53 T.ag53 hg,T.sz53]
  exact propext ⟨fun h=>h.2,fun h=>⟨Nat.le_refl _,h⟩⟩
theorem ldN (k:Nat) {t:Nat} {v:Option TypeId} {n:NTree} {K:AV->Prop} (h:PsAt σ0 σ l ts L) (hk:L[k]?=some (VarN v t n)) (hK:K (nodeAV n)):loadD PS σ 50 (.addr t 0) K:=by
  rw [ldN' (h.at hk)]; exact hK
theorem ldT (k:Nat) {t:Nat} {x:Tok} {K:AV->Prop} (h:PsAt σ0 σ l ts L) (hk:L[k]?=some (VarT t x)) (hK:K (tokAV x)):loadD PS σ 53 (.addr t 0) K:=by
  rw [ldT' (h.at hk)]; exact hK
theorem ldT0 (k:Nat) {t:Nat} {x:Tok} {K:AV->Prop} (h:PsAt σ0 σ l ts L) (hk:L[k]?=some (VarT t x)) (hK:K (.pv (.str x.1))):fieldAddrD PS 53 (.addr t 0) 0 fun a=>loadD PS σ 9 a K:=by
  have hg:=h.at hk
  simp only [T.fa53_0,T.ld9,hg,ldM_cells,Nat.zero_add,List.getElem?_cons_zero,someEx]
  exact hK
theorem ldT1 (k:Nat) {t:Nat} {x:Tok} {K:AV->Prop} (h:PsAt σ0 σ l ts L) (hk:L[k]?=some (VarT t x)) (hK:K (.pv (.str x.2))):fieldAddrD PS 53 (.addr t 0) 1 fun a=>loadD PS σ 9 a K:=by
  have hg:=h.at hk
  simp only [T.fa53_1,T.ld9,hg,ldM_cells,Nat.zero_add,List.getElem?_cons_zero,List.getElem?_cons_succ,someEx]
  exact hK
theorem ldT1' (k:Nat) {t:Nat} {x:Tok} {K:AV->Prop} (h:PsAt σ0 σ l ts L) (hk:L[k]?=some (VarT t x)) (hK:K (.pv (.str x.2))):loadD PS σ 9 (.addr t (0 + 1)) K:=by
  have hg:=h.at hk
  simp only [T.ld9,hg,ldM_cells,Nat.zero_add,List.getElem?_cons_zero,List.getElem?_cons_succ,someEx]
  exact hK
theorem fld0 {x:Tok} {K:AV->Prop}:fieldD PS 53 (tokAV x) 0 K=K (.pv (.str x.1)):=by
  simp [fieldD,T.fo53_0,tokAV,partD,T.hT9,T.ag9]
theorem fld1 {x:Tok} {K:AV->Prop}:fieldD PS 53 (tokAV x) 1 K=K (.pv (.str x.2)):=by
  simp [fieldD,T.fo53_1,tokAV,partD,T.hT9,T.ag9]
theorem tokEq {a b:Tok} {K:AV->Prop}:binD PS .eql 53 (tokAV a) (tokAV b) K=K (.pv (.bool (decide (a=b)))):=by
  have h1:PS.stoodInHeld 53=false:=by kernel_rfl
  have h2:PS.eqGuardType PS.depth 53=false:=by kernel_rfl
  have e:(a.1 == b.1 && a.2 == b.2)=decide (a=b):=by
    rw [Bool.eq_iff_iff]
    simp [Prod.ext_iff]
  simp [tokAV,binD,eqD,h1,h2,Tryz.underlying53,sameFields,sameAt,Tryz.underlying9]
  rw [<- e]
theorem tokNe {a b:Tok} {K:AV->Prop}:binD PS .neq 53 (tokAV a) (tokAV b) K=K (.pv (.bool (!decide (a=b)))):=by
  have h1:PS.stoodInHeld 53=false:=by kernel_rfl
  have h2:PS.eqGuardType PS.depth 53=false:=by kernel_rfl
  have e:(a.1 == b.1 && a.2 == b.2)=decide (a=b):=by
    rw [Bool.eq_iff_iff]
    simp [Prod.ext_iff]
  simp [tokAV,binD,eqD,h1,h2,Tryz.underlying53,sameFields,sameAt,Tryz.underlying9]
  rw [<- e,Bool.not_and]
theorem node_cells (n:NTree):(nodeAV n).cells=(nodeCells n).map .pv:=rfl
theorem node_toPVs (n:NTree):toPVs (nodeAV n).cells=some (nodeCells n):=toPVs_pv _
theorem node_ok (n:NTree):(nodeAV n).cells.all AV.cellOk=true:=all_pv_ok _
theorem node_len (n:NTree):(nodeAV n).cells.length=3:=by rw [node_cells,List.length_map,nodeCells_len]
theorem rowN1 {a:NTree} {K:AV->AS->Prop}:buildSliceD PS false σ 23 1 1 [(0,nodeAV a)] K=K (.full 1 (flatN [a])) σ:=by
  rw [build1 rowTN T.hT50 (by rw [node_len,T.sz50]) (node_toPVs a) (node_ok a) (by rw [T.sz50]; decide),flatN_one]
theorem nodeCellsD (n:NTree):(nodeAV n).cells=[.pv (.str n.op),.pv (.str n.text),.pv (.lst n.kids.length (flatN n.kids))]:=by rw [nodeAV_eq]; rfl
theorem toPVp (p:PV):toPV (.pv p)=some p:=rfl
theorem rowN2 {a b:NTree} {K:AV->AS->Prop}:buildSliceD PS false σ 23 2 2 [(0,nodeAV a),(1,nodeAV b)] K=K (.full 2 (flatN [a,b])) σ:=by
  simp [buildSliceD,T.el23,T.sz50,T.zo50,T.hT50,elemsFill,nodeCellsD,toPVs,toPVp,AV.cellOk,flatN,nodeCells_eq]
theorem rowN3 {a b c:NTree} {K:AV->AS->Prop}:buildSliceD PS false σ 23 3 3 [(0,nodeAV a),(1,nodeAV b),(2,nodeAV c)] K=K (.full 3 (flatN [a,b,c])) σ:=by
  simp [buildSliceD,T.el23,T.sz50,T.zo50,T.hT50,elemsFill,nodeCellsD,toPVs,toPVp,AV.cellOk,flatN,nodeCells_eq]
theorem rowN4 {a b c d:NTree} {K:AV->AS->Prop}:buildSliceD PS false σ 23 4 4 [(0,nodeAV a),(1,nodeAV b),(2,nodeAV c),(3,nodeAV d)] K=K (.full 4 (flatN [a,b,c,d])) σ:=by
  simp [buildSliceD,T.el23,T.sz50,T.zo50,T.hT50,elemsFill,nodeCellsD,toPVs,toPVp,AV.cellOk,flatN,nodeCells_eq]
theorem rowS1 {a:Bytes} {K:AV->AS->Prop}:buildSliceD PS false σ 26 1 1 [(0,.pv (.str a))] K=K (.full 1 ([a].map .str)) σ:=by
  simp [buildSliceD,T.el26,T.sz9,T.zo9,T.hT9,elemsFill,AV.cells,toPVs,toPVp,AV.cellOk]
theorem rowS2 {a b:Bytes} {K:AV->AS->Prop}:buildSliceD PS false σ 26 2 2 [(0,.pv (.str a)),(1,.pv (.str b))] K=K (.full 2 ([a,b].map .str)) σ:=by
  simp [buildSliceD,T.el26,T.sz9,T.zo9,T.hT9,elemsFill,AV.cells,toPVs,toPVp,AV.cellOk]
theorem rowS3 {a b c:Bytes} {K:AV->AS->Prop}:buildSliceD PS false σ 26 3 3 [(0,.pv (.str a)),(1,.pv (.str b)),(2,.pv (.str c))] K=K (.full 3 ([a,b,c].map .str)) σ:=by
  simp [buildSliceD,T.el26,T.sz9,T.zo9,T.hT9,elemsFill,AV.cells,toPVs,toPVp,AV.cellOk]
def wrongV:PV:=.iface 80 true []
theorem wrong_go {X:PV->AS->Prop} (h:X wrongV σ):buildD PS 80 [] fun t=>ifaceD PS 80 t fun t=>panicD σ t X:=by
  have hu:PS.underlying 80=some (.struct #[]):=Tryz.underlying80
  simp [buildD,T.zo80,hu,buildFill,ifaceD,toPVs,AV.cellOk,panicD]
  exact h
def okR {α:Type} (m:R α) (A:α->List Tok->Prop) (x:Prop):Prop:=match m with
  | .out=>False
  | .wrong=>x
  | .ok a ts=>A a ts
theorem okR_bnd {α β:Type} {m:R α} {k:α->List Tok->R β} {A:β->List Tok->Prop} {x:Prop}:okR (bnd m k) A x=okR m (fun a ts=>okR (k a ts) A x) x:=by cases m <;> rfl
theorem okR_mono {α:Type} {m:R α} {A B:α->List Tok->Prop} {x y:Prop} (h:okR m A x) (h1:∀ a ts,A a ts->B a ts) (h2:x->y):okR m B y:=by
  cases m with
  | out=>exact h
  | wrong=>exact h2 h
  | ok a ts=>exact h1 a ts h
theorem panX {X:PV->AS->Prop} (h:∀ σ',σ0.sub σ'->X wrongV σ'):∀ σ',σ0.sub σ'->panV X wrongV σ':=fun σ' hs=>⟨σ',sub_refl σ',h σ' hs⟩
end
end Go.AD.Lx
set_option linter.unusedVariables false
set_option linter.unusedSimpArgs false
set_option maxRecDepth 100000
namespace Go.AD.Lx
open Go.Proofs RowKit
section
variable {env:Env} {args:List AV} {σ0 σ τ:AS} {K:AV->AS->Prop} {X:PV->AS->Prop} {l:Nat} {ts:List Tok} {L Y:Objs}
theorem beqD (a b:Bytes):(a == b)=decide (a=b):=by
  rw [Bool.eq_iff_iff]; simp
def T_yAt:Tr:=fun args σ K _=>∃ (σ0:AS) (l:Nat) (ts:List Tok) (L:Objs) (k:Nat),args=[.addr l 0,.pv (.int .i64 (k:Nat))]/\k <= 1000/\PsAt σ0 σ l ts L/\K (tokAV (atS k ts)) σ
theorem retB {v:AV} {σ':AS} (hs:σ.sub σ') (hK:K v σ):retV v σ' K:=⟨v,σ,.inl (.inl rfl),hs,hK⟩
theorem glob_ld {K:AV->Prop}:loadD PS σ 53 (.glob 0) K=K (tokAV ([],[])):=by
  have hk:known PS 0=some [.str [],.str []]:=by kernel_rfl
  have hs:szOf PS 53=2:=T.sz53
  simp only [loadD,hk,T.hT53,T.ag53,hs,true_and,List.length_cons,List.length_nil]
  rfl
theorem T_yAt_ok (h:T_yAt args σ K X):bodyD PS env an74 Tryz.f74 args σ K X:=by
  obtain ⟨σ0,l,ts,L,k,rfl,hk,hP,hK⟩:=h
  rw [<- S74_eq env,S74]
  simp only [lock_eq]
  have hlen:=hP.len
  refine alloc_of T.zo53 rfl (fun t ht=>?_)
  have hS1:Sep σ (σ.set t (.cells [.pv (.str []),.pv (.str [])] (some 53))) [VarT t ([],[])]:=(Sep.start σ).alloc ht _
  generalize (σ.set t (.cells [.pv (.str []),.pv (.str [])] (some 53)))=σ1 at hS1
  have hg:=hS1.sub _ _ hP.get
  have fin:∀ (x:Tok),K (tokAV x) σ->storeD PS σ1 53 (.addr t 0) (tokAV x) fun σ2=>loadD PS σ2 53 (.addr t 0) fun r0=>retV r0 σ2 K:=by
    intro x hx
    have hgt:σ1 t=some (.cells [.pv (.str []),.pv (.str [])] (some 53)):=hS1.get (by simp [VarT])
    rw [storeD]
    simp only [hgt]
    refine ⟨T.hT53,by rw [T.sz53]; rfl,rfl,Nat.le_refl _,?_⟩
    have e1:setAll [.pv (.str []),.pv (.str [])] 0 (tokAV x).cells=[.pv (.str x.1),.pv (.str x.2)]:=rfl
    rw [e1,ldT' (set_same _ _ _)]
    exact retB (hS1.set1 (.cells [.pv (.str x.1),.pv (.str x.2)] (some 53))).sub hx
  simp (disch:=omega) only [go_sem,hg,ldM_cells,Nat.zero_add,List.getElem?_cons_zero,someEx]
  refine iteI (fun g1=>?_) (fun g1=>?_)
  · have e:∀ K:AV->Prop,indexAddrD PS 42 (.pv (.lst ts.length (flatT ts))) (.pv (.int .i64 (k:Nat))) K=K (.elemP (flatT ts) (k * 2)):=fun K=>T.ixl42 g1 (flatT_len ts)
    have hld:loadD PS σ1 53 (.elemP (flatT ts) (k * 2))=fun K=>K (tokAV ts[k]):=by
      funext K
      rw [load_elemA T.hT53 T.ag53,T.sz53,flatT_get ts k g1]
      exact propext ⟨fun h=>h.2,fun h=>⟨by rw [flatT_len]; omega,h⟩⟩
    have ea:atS k ts=ts[k]:=by unfold atS; rw [List.getD_eq_getElem?_getD,List.getElem?_eq_getElem g1]; rfl
    rw [ea] at hK
    simp only [e,hld]
    exact fin _ hK
  · have ea:atS k ts=([],[]):=by unfold atS; rw [List.getD_eq_getElem?_getD,List.getElem?_eq_none (by omega)]; rfl
    rw [ea] at hK
    rw [glob_ld]
    exact fin _ hK
theorem ret_T {x:Tok} (hK:K (tokAV x) σ):allocD PS σ 53 fun t σ1=>storeD PS σ1 53 t (tokAV x) fun σ2=>loadD PS σ2 53 t fun r0=>retV r0 σ2 K:=by
  refine alloc_of T.zo53 rfl (fun t ht=>?_)
  have hS1:Sep σ (σ.set t (.cells [.pv (.str []),.pv (.str [])] (some 53))) [VarT t ([],[])]:=(Sep.start σ).alloc ht _
  rw [storeD]
  simp only [set_same]
  refine ⟨T.hT53,by rw [T.sz53]; rfl,rfl,Nat.le_refl _,?_⟩
  have e1:setAll [.pv (.str []),.pv (.str [])] 0 (tokAV x).cells=[.pv (.str x.1),.pv (.str x.2)]:=rfl
  rw [e1,ldT' (set_same _ _ _)]
  exact retB (hS1.set1 (.cells [.pv (.str x.1),.pv (.str x.2)] (some 53))).sub hK
theorem toPV_cell {v:AV} {n:Nat} {cs:List PV} (h:toPV v=some (.lst n cs)):v.cells=[v]/\v.cellOk=true:=by
  cases v with
  | clo f a b=>cases a <;> cases b <;> simp [toPV] at h
  | agg cs=>simp [toPV] at h
  | undef=>simp [toPV] at h
  | tuple cs=>simp [toPV] at h
  | _=>exact ⟨rfl,rfl⟩
theorem ret_N {x y v:AV} {n:NTree} (hv:[x,y,v].all AV.cellOk=true) (hw:wk (.agg [x,y,v]) (nodeAV n)) (hK:K (nodeAV n) σ):allocD PS σ 50 fun t σ1=>storeD PS σ1 50 t (.agg [x,y,v]) fun σ2=>loadD PS σ2 50 t fun r0=>retV r0 σ2 K:=by
  refine alloc_of T.zo50 rfl (fun t ht=>?_)
  have hS1:Sep σ (σ.set t (.cells zeroN (some 50))) [VarZ t]:=(Sep.start σ).alloc ht _
  show storeD PS (σ.set t (.cells zeroN (some 50))) 50 (.addr t 0) (.agg [x,y,v]) _
  rw [storeD]
  simp only [set_same]
  refine ⟨T.hT50,by rw [T.sz50]; rfl,hv,Nat.le_refl _,?_⟩
  have e1:setAll zeroN 0 (AV.agg [x,y,v]).cells=[x,y,v]:=rfl
  rw [e1,load_addrA T.hT50 T.ag50 (set_same _ _ _),T.sz50]
  refine ⟨Nat.le_refl _,?_⟩
  exact ⟨nodeAV n,σ,hw,(hS1.set1 (.cells [x,y,v] (some 50))).sub,hK⟩
def T_yOp:Tr:=fun args σ K _=>∃ t:Bytes,args=[.pv (.str t)]/\K (tokAV (opT t)) σ
theorem bldT {a b:Bytes} {K:AV->Prop}:buildD PS 53 [(0,.pv (.str a)),(1,.pv (.str b))] K=K (tokAV (a,b)):=by
  simp [buildD,buildFill,go_sem,AV.cells,AV.cellOk,setAll,tokAV]
theorem T_yOp_ok (h:T_yOp args σ K X):bodyD PS env an75 Tryz.f75 args σ K X:=by
  obtain ⟨t,rfl,hK⟩:=h
  rw [<- S75_eq env,S75]
  simp only [lock_eq,bldT]
  exact ret_T hK
def T_yWord:Tr:=fun args σ K _=>∃ t:Bytes,args=[.pv (.str t)]/\K (tokAV (wordT t)) σ
theorem T_yWord_ok (h:T_yWord args σ K X):bodyD PS env an81 Tryz.f81 args σ K X:=by
  obtain ⟨t,rfl,hK⟩:=h
  rw [<- S81_eq env,S81]
  simp only [lock_eq,bldT]
  exact ret_T hK
def T_yNode:Tr:=fun args σ K _=>∃ (op text:Bytes) (kids:List NTree) (v:AV),args=[.pv (.str op),.pv (.str text),v]/\toPV v=some (.lst kids.length (flatN kids))/\K (nodeAV (.mk op text kids)) σ
theorem bldN {a b:Bytes} {v:AV} {n:Nat} {cs:List PV} (hv:toPV v=some (.lst n cs)) {K:AV->Prop}:buildD PS 50 [(0,.pv (.str a)),(1,.pv (.str b)),(2,v)] K=K (.agg [.pv (.str a),.pv (.str b),v]):=by
  cases v with
  | clo f a b=>cases a <;> cases b <;> simp [toPV] at hv
  | pv p=>simp [buildD,buildFill,go_sem,AV.cells,AV.cellOk,setAll]
  | nilS=>simp [buildD,buildFill,go_sem,AV.cells,AV.cellOk,setAll]
  | grow i n cs=>simp [buildD,buildFill,go_sem,AV.cells,AV.cellOk,setAll]
  | full n cs=>simp [buildD,buildFill,go_sem,AV.cells,AV.cellOk,setAll]
  | _=>simp [toPV] at hv
theorem T_yNode_ok (h:T_yNode args σ K X):bodyD PS env an82 Tryz.f82 args σ K X:=by
  obtain ⟨op,text,kids,v,rfl,hv,hK⟩:=h
  rw [<- S82_eq env,S82]
  simp only [lock_eq,bldN hv]
  refine ret_N ?_ (.inr ?_) hK
  · show (true && (true && (v.cellOk && true)))=true
    rw [(toPV_cell hv).2]; rfl
  · rw [nodeAV_eq]
    exact wkS (wkS (wkP hv wkN))
theorem ynode_call (h:env 82=T_yNode) {op text:Bytes} {kids:List NTree} {v:AV} (hv:toPV v=some (.lst kids.length (flatN kids))) (hK:K (nodeAV (.mk op text kids)) σ):env 82 [.pv (.str op),.pv (.str text),v] σ K X:=by
  rw [h]; exact ⟨op,text,kids,v,rfl,hv,hK⟩
theorem flatN_nil:flatN []=[]:=by rw [flatN]
theorem nil_row:toPV .nilS=some (.lst ([]:List NTree).length (flatN [])):=by rw [flatN_nil]; rfl
def T_yNone:Tr:=fun args σ K _=>args=[]/\K (nodeAV noneN) σ
theorem T_yNone_ok (h1:env 82=T_yNode) (h:T_yNone args σ K X):bodyD PS env an79 Tryz.f79 args σ K X:=by
  obtain ⟨rfl,hK⟩:=h
  rw [<- S79_eq env,S79]
  simp only [lock_eq]
  refine alloc_of T.zo50 rfl (fun t ht=>?_)
  have hS1:Sep σ (σ.set t (.cells zeroN (some 50))) [VarZ t]:=(Sep.start σ).alloc ht _
  refine ynode_call h1 nil_row ?_
  have hg:(σ.set t (.cells zeroN (some 50))) t=some (.cells zeroN (some 50)):=set_same _ _ _
  show storeD PS (σ.set t (.cells zeroN (some 50))) 50 (.addr t 0) (nodeAV noneN) _
  have hc:=nodeCellsD noneN
  rw [storeD]
  simp only [hg]
  refine ⟨T.hT50,by rw [T.sz50]; exact node_len _,node_ok _,by rw [node_len]; exact Nat.le_refl _,?_⟩
  have e1:setAll zeroN 0 (nodeAV noneN).cells=(nodeCells noneN).map .pv:=by rw [hc,nodeCells_eq]; rfl
  rw [e1,ldN' (set_same _ _ _)]
  exact retB (hS1.set1 (.cells _ (some 50))).sub hK
def T_yPlace:Tr:=fun args σ K _=>∃ n:NTree,args=[nodeAV n]/\K (.pv (.bool (placeB n))) σ
theorem box_N {n:NTree} {KS:AV->AS->Prop} (h:∀ t σ',Sep σ σ' [(t,.cells [.pv (.str n.op),.pv (.str n.text),.pv (.lst n.kids.length (flatN n.kids))] none)]->KS (.addr t 0) σ'):boxD σ (nodeAV n) KS:=by
  rw [nodeAV_eq]
  refine ⟨rfl,fun t ht=>?_⟩
  exact h t _ ((Sep.start σ).alloc ht _)
theorem T_yPlace_ok (h:T_yPlace args σ K X):bodyD PS env an131 Tryz.f131 args σ K X:=by
  obtain ⟨n,rfl,hK⟩:=h
  rw [<- S131_eq env,S131]
  simp only [lock_eq]
  refine box_N ?_
  intro t σ1 hS
  have hg:=hS.get (i:=t) (List.mem_singleton.2 rfl)
  simp (disch:=omega) only [go_sem,hg,ldM_cells,Nat.zero_add,List.getElem?_cons_zero,someEx]
  unfold placeB at hK
  refine iteI (fun g1=>?_) (fun g1=>?_)
  · rw [decide_eq_true (show n.op=oVar from eq_of_beq g1),Bool.true_or] at hK
    exact retB hS.sub hK
  rw [decide_eq_false (show ¬ n.op=oVar from fun e=>g1 (beq_iff_eq.2 e)),Bool.false_or] at hK
  refine iteI (fun g2=>?_) (fun g2=>?_)
  · rw [decide_eq_true (show n.op=oElem from eq_of_beq g2),Bool.true_or] at hK
    exact retB hS.sub hK
  rw [decide_eq_false (show ¬ n.op=oElem from fun e=>g2 (beq_iff_eq.2 e)),Bool.false_or] at hK
  refine retB hS.sub ?_
  rw [beqD]; exact hK
def T_yMust:Tr:=fun args σ K X=>∃ b:Bool,args=[.pv (.bool b)]/\(b=true->K (.tuple []) σ)/\(b=false->X wrongV σ)
theorem T_yMust_ok (h:T_yMust args σ K X):bodyD PS env an35 Tryz.f35 args σ K X:=by
  obtain ⟨b,rfl,h1,h2⟩:=h
  rw [<- S35_eq env,S35]
  simp only [lock_eq,un_not,cond_bool]
  cases b with
  | true=>exact retB (sub_refl σ) (h1 rfl)
  | false=>exact wrong_go ⟨σ,sub_refl σ,h2 rfl⟩
def T_yBegins:Tr:=fun args σ K _=>∃ (σ0:AS) (l:Nat) (ts:List Tok) (L:Objs),args=[.addr l 0]/\PsAt σ0 σ l ts L/\K (.pv (.bool (beginsB (atS 0 ts)))) σ
def T_yDrop:Tr:=fun args σ K _=>∃ (σ0:AS) (l:Nat) (ts:List Tok) (L:Objs) (k:Nat),args=[.addr l 0,.pv (.int .i64 (k:Nat))]/\PsAt σ0 σ l ts L/\k <= ts.length/\∀ σ',PsAt σ0 σ' l (ts.drop k) L->K (.tuple []) σ'
theorem flatT_drop:∀ (ts:List Tok) (k:Nat),(flatT ts).drop (k * 2)=flatT (ts.drop k)
  | ts,0=>by simp
  | [],k + 1=>by simp [flatT]
  | t :: ts,k + 1=>by
    have e:(k + 1) * 2=2 + k * 2:=by omega
    rw [e,<- List.drop_drop]
    have:(flatT (t :: ts)).drop 2=flatT ts:=rfl
    rw [this,flatT_drop ts k]
    rfl
theorem T_yDrop_ok (h:T_yDrop args σ K X):bodyD PS env an76 Tryz.f76 args σ K X:=by
  obtain ⟨σ0,l,ts,L,k,rfl,hP,hk,hK⟩:=h
  rw [<- S76_eq env,S76]
  have hg:=hP.get
  have hlen:=hP.len
  have hsl:∀ K:AV->Prop,sliceD PS 42 (.pv (.lst ts.length (flatT ts))) (some (.pv (.int .i64 (k:Nat)))) none K=K (.pv (.lst (ts.drop k).length (flatT (ts.drop k)))):=by
    intro K
    have e1:(flatT ts).take (ts.length * 2)=flatT ts:=List.take_of_length_le (by rw [flatT_len]; exact Nat.le_refl _)
    simp only [sliceD,T.el42,T.sz53,cutAt,T.iS53,true_and,e1,flatT_drop,List.length_drop,Int.toNat_natCast]
    exact propext ⟨fun h=>h.2.2,fun h=>⟨by omega,by omega,h⟩⟩
  simp (disch:=omega) only [lock_eq,go_sem,hg,ldM_cells,stM_cells,Nat.zero_add,Nat.add_zero,List.getElem?_cons_zero,someEx,hsl,List.set_cons_zero]
  refine ⟨by simp,retV_self (hK _ (hP.put ?_ (hP.fok.drop k)))⟩
  rw [List.length_drop]; omega
structure PE0 (env:Env):Prop where
  at':env 74=T_yAt
  op:env 75=T_yOp
  word:env 81=T_yWord
  drop:env 76=T_yDrop
theorem at_call (E:PE0 env) (hP:PsAt σ0 σ l ts L) (k:Nat) (hk:k <= 1000) (hK:K (tokAV (atS k ts)) σ):env 74 [.addr l 0,.pv (.int .i64 (k:Nat))] σ K X:=by
  rw [E.at']; exact ⟨σ0,l,ts,L,k,rfl,hk,hP,hK⟩
theorem at0 (E:PE0 env) (hP:PsAt σ0 σ l ts L) (hK:K (tokAV (atS 0 ts)) σ):env 74 [.addr l 0,.pv (.int .i64 0)] σ K X:=at_call E hP 0 (by decide) hK
theorem at1 (E:PE0 env) (hP:PsAt σ0 σ l ts L) (hK:K (tokAV (atS 1 ts)) σ):env 74 [.addr l 0,.pv (.int .i64 1)] σ K X:=at_call E hP 1 (by decide) hK
theorem at2 (E:PE0 env) (hP:PsAt σ0 σ l ts L) (hK:K (tokAV (atS 2 ts)) σ):env 74 [.addr l 0,.pv (.int .i64 2)] σ K X:=at_call E hP 2 (by decide) hK
theorem at3 (E:PE0 env) (hP:PsAt σ0 σ l ts L) (hK:K (tokAV (atS 3 ts)) σ):env 74 [.addr l 0,.pv (.int .i64 3)] σ K X:=at_call E hP 3 (by decide) hK
theorem op_call (E:PE0 env) {t:Bytes} (hK:K (tokAV (opT t)) σ):env 75 [.pv (.str t)] σ K X:=by
  rw [E.op]; exact ⟨t,rfl,hK⟩
theorem word_call (E:PE0 env) {t:Bytes} (hK:K (tokAV (wordT t)) σ):env 81 [.pv (.str t)] σ K X:=by
  rw [E.word]; exact ⟨t,rfl,hK⟩
theorem drop1 (E:PE0 env) (hP:PsAt σ0 σ l ts L) (h1:1 <= ts.length) (hK:∀ σ',PsAt σ0 σ' l (ts.drop 1) L->K (.tuple []) σ'):env 76 [.addr l 0,.pv (.int .i64 1)] σ K X:=by
  rw [E.drop]; exact ⟨σ0,l,ts,L,1,rfl,hP,h1,hK⟩
theorem drop4 (E:PE0 env) (hP:PsAt σ0 σ l ts L) (h1:4 <= ts.length) (hK:∀ σ',PsAt σ0 σ' l (ts.drop 4) L->K (.tuple []) σ'):env 76 [.addr l 0,.pv (.int .i64 4)] σ K X:=by
  rw [E.drop]; exact ⟨σ0,l,ts,L,4,rfl,hP,h1,hK⟩
theorem at_pos {k:Nat} {t:Tok} (h:atS k ts=t) (ht:t ≠ ([],[])):k + 1 <= ts.length:=by
  rcases Nat.lt_or_ge k ts.length with h1 | h1
  · exact h1
  · refine absurd ?_ ht
    rw [<- h]
    unfold atS
    rw [List.getD_eq_getElem?_getD,List.getElem?_eq_none h1]; rfl
theorem at_kind {k:Nat} {t:Bytes} (h:(atS k ts).1=t) (ht:t ≠ []):k + 1 <= ts.length:=at_pos rfl (fun e=>ht (by rw [<- h,e]))
def T_yTake:Tr:=fun args σ K _=>∃ (σ0:AS) (l:Nat) (ts:List Tok) (L:Objs) (t:Tok),args=[.addr l 0,tokAV t]/\t ≠ ([],[])/\PsAt σ0 σ l ts L /\
  (atS 0 ts=t->∀ σ',PsAt σ0 σ' l (ts.drop 1) L->K (.pv (.bool true)) σ')/\(atS 0 ts ≠ t->∀ σ',PsAt σ0 σ' l ts L->K (.pv (.bool false)) σ')
theorem box_T {x:Tok} (h:PsAt σ0 σ l ts L) {KS:AV->AS->Prop} (hK:∀ t σ',PsAt σ0 σ' l ts ((t,.cells [.pv (.str x.1),.pv (.str x.2)] none) :: L)->KS (.addr t 0) σ'):boxD σ (tokAV x) KS :=
  ⟨rfl,fun t ht=>hK t _ (h.alloc ht _)⟩
theorem T_yTake_ok (E:PE0 env) (h:T_yTake args σ K X):bodyD PS env an80 Tryz.f80 args σ K X:=by
  obtain ⟨σ0,l,ts,L,t,rfl,hne,hP,h1,h2⟩:=h
  rw [<- S80_eq env,S80]
  simp only [lock_eq]
  refine box_T hP ?_
  intro b σ1 hP1
  have hgb:=hP1.at (k:=0) rfl
  have fin:condD (.pv (.bool (decide (atS 0 ts=t)))) (env 76 [.addr l 0,.pv (.int .i64 1)] σ1 (fun _ σ'=>retV (.pv (.bool (decide (atS 0 ts=t)))) σ' K) (panV X)) (retV (.pv (.bool (decide (atS 0 ts=t)))) σ1 K):=by
    rw [cond_bool]
    refine iteI (fun g=>?_) (fun g=>?_)
    · have g':=of_decide_eq_true g
      refine drop1 E hP1 (at_pos g' hne) ?_
      intro σ2 hP2
      rw [g]
      exact retV_self (h1 g' σ2 (hP2.dropN 1))
    · have g':atS 0 ts ≠ t:=fun e=>g (decide_eq_true e)
      rw [decide_eq_false g']
      exact retV_self (h2 g' σ1 (hP1.dropN 1))
  refine ⟨at0 E hP1 ⟨?_,trivial⟩,?_,trivial⟩
  · rw [ldT' hgb]
    refine ⟨?_,trivial⟩
    rw [tokEq]
    exact fin
  · rw [ldT' hgb]
    refine ⟨at0 E hP1 ⟨?_,trivial⟩,trivial⟩
    rw [tokEq]
    exact fin
theorem ytake_call (h:env 80=T_yTake) {t:Tok} (hP:PsAt σ0 σ l ts L) (hne:t ≠ ([],[])) (h1:atS 0 ts=t->∀ σ',PsAt σ0 σ' l (ts.drop 1) L->K (.pv (.bool true)) σ') (h2:atS 0 ts ≠ t->∀ σ',PsAt σ0 σ' l ts L->K (.pv (.bool false)) σ'):env 80 [.addr l 0,tokAV t] σ K X:=by
  rw [h]; exact ⟨σ0,l,ts,L,t,rfl,hne,hP,h1,h2⟩
theorem opT_ne (t:Bytes):opT t ≠ ([],[]):=fun e=>absurd (show kOp=[] from congrArg Prod.fst e) (by decide)
theorem wordT_ne (t:Bytes):wordT t ≠ ([],[]):=fun e=>absurd (show kWord=[] from congrArg Prod.fst e) (by decide)
def T_yNeed:Tr:=fun args σ K X=>∃ (σ0:AS) (l:Nat) (ts:List Tok) (L:Objs) (t:Tok),args=[.addr l 0,tokAV t]/\t ≠ ([],[])/\PsAt σ0 σ l ts L /\
  okR (needS t ts) (fun _ r=>∀ σ',PsAt σ0 σ' l r L->K (.tuple []) σ') (∀ σ',σ0.sub σ'->X wrongV σ')
theorem T_yNeed_ok (h1:env 80=T_yTake) (h:T_yNeed args σ K X):bodyD PS env an126 Tryz.f126 args σ K X:=by
  obtain ⟨σ0,l,ts,L,t,rfl,hne,hP,hK⟩:=h
  rw [<- S126_eq env,S126]
  simp only [lock_eq]
  refine box_T hP ?_
  intro b σ1 hP1
  rw [ldT' (hP1.at (k:=0) rfl)]
  unfold needS at hK
  refine ytake_call h1 hP1 hne (fun g σ2 hP2=>?_) (fun g σ2 hP2=>?_)
  · rw [if_pos g] at hK
    simp only [un_not,cond_bool,Bool.not_true,Bool.false_eq_true,if_false]
    exact retV_self (hK σ2 (hP2.dropN 1))
  · rw [if_neg g] at hK
    simp only [un_not,cond_bool,Bool.not_false,if_true]
    exact wrong_go (panX hK σ2 hP2.sub)
theorem yneed_call (h:env 126=T_yNeed) {t:Tok} (hP:PsAt σ0 σ l ts L) (hne:t ≠ ([],[])) (hK:okR (needS t ts) (fun _ r=>∀ σ',PsAt σ0 σ' l r L->K (.tuple []) σ') (∀ σ',σ0.sub σ'->X wrongV σ')):env 126 [.addr l 0,tokAV t] σ K X:=by
  rw [h]; exact ⟨σ0,l,ts,L,t,rfl,hne,hP,hK⟩
def T_yKind:Tr:=fun args σ K X=>∃ (σ0:AS) (l:Nat) (ts:List Tok) (L:Objs) (ks:List Bytes) (v:AV),args=[.addr l 0,v]/\toPV v=some (.lst ks.length (ks.map .str))/\ks.length <= 100/\[] ∉ ks/\PsAt σ0 σ l ts L /\
  okR (kindS ks ts) (fun a r=>∀ σ',PsAt σ0 σ' l r L->K (.pv (.str a)) σ') (∀ σ',σ0.sub σ'->X wrongV σ')
theorem T_yKind_ok (E:PE0 env) (h:T_yKind args σ K X):bodyD PS env an128 Tryz.f128 args σ K X:=by
  obtain ⟨σ0,l,ts,L,ks,v,rfl,hv,hks,hno,hP,hK⟩:=h
  rw [<- S128_eq env,S128]
  simp only [lock_eq]
  refine at0 E hP ?_
  refine allocT hP ?_
  intro t5 σ2 hP2
  refine storeT (A:=[]) hP2 ?_
  intro σ3 hP3
  have hP3:PsAt σ0 σ3 l ts (VarT t5 (atS 0 ts) :: L):=hP3
  rw [len_of (by rw [T.el26]; rfl) hv]
  refine lp128_3 (fun (i:Nat) _=>ks.length - i) (fun i τ=>PsAt σ0 τ l ts (VarT t5 (atS 0 ts) :: L)/\i <= ks.length/\∀ j,j < i->ks.getD j [] ≠ (atS 0 ts).1) (fun _=>.pv (.str [])) (fun i=>.pv (.int .i64 ((i:Nat):Int))) 0 ⟨hP3,Nat.zero_le _,fun j hj=>absurd hj (Nat.not_lt_zero j)⟩ ?_
  rintro i τ ⟨hPi,hi,hall⟩
  unfold L128_3
  simp (disch:=omega) only [lock_eq,go_sem]
  refine iteI (fun g1=>?_) (fun g1=>?_)
  · refine ix_of (by rw [T.el26]; rfl) hv (by rw [T.el26]; exact T.iS9) (by rw [T.el26]; simp [T.sz9]) (by rw [T.el26]; simp [T.sz9]) (by omega) (by omega) ?_
    have e1:((i:Nat):Int).toNat * szOf PS ((elOf PS 26).getD 0)=i:=by rw [T.el26]; simp [T.sz9]
    rw [e1]
    have hgi:(ks.map PV.str)[i]?=some (.str (ks.getD i [])):=by
      rw [List.getElem?_map,List.getElem?_eq_getElem g1,List.getD_eq_getElem?_getD,List.getElem?_eq_getElem g1]; rfl
    have hg5:=hPi.at (k:=0) rfl
    simp (disch:=omega) only [T.le9,hgi,someEx,go_sem,hg5,ldM_cells,Nat.zero_add,List.getElem?_cons_zero]
    refine iteI (fun g2=>?_) (fun g2=>?_)
    · have g2':(atS 0 ts).1=ks.getD i []:=eq_of_beq g2
      have hmem:ks.getD i [] ∈ ks:=by
        rw [List.getD_eq_getElem?_getD,List.getElem?_eq_getElem g1]; exact List.getElem_mem g1
      unfold kindS at hK
      rw [if_pos (by rw [g2']; exact hmem)] at hK
      refine drop1 E hPi (at_kind g2' (fun e=>hno (by rw [<- e]; exact hmem))) ?_
      intro σ5 hP5
      have hg6:=hP5.at (k:=0) rfl
      simp (disch:=omega) only [go_sem,hg6,ldM_cells,Nat.zero_add,List.getElem?_cons_zero,List.getElem?_cons_succ,someEx]
      exact retV_self (hK σ5 (hP5.dropN 1))
    · refine back (i + 1) rfl (by omega) ⟨hPi,g1,fun j hj=>?_⟩
      rcases Nat.lt_or_ge j i with h | h
      · exact hall j h
      · have:j=i:=by omega
        subst this
        exact fun e=>g2 (by rw [e]; exact beq_self_eq_true _)
  · unfold kindS at hK
    rw [if_neg (fun hm=>by
      obtain ⟨j,hj,e⟩:=List.getElem_of_mem hm
      refine hall j (by omega) ?_
      rw [List.getD_eq_getElem?_getD,List.getElem?_eq_getElem hj]; exact e)] at hK
    exact wrong_go (panX hK τ hPi.sub)
theorem ykind_call (h:env 128=T_yKind) {ks:List Bytes} {v:AV} (hP:PsAt σ0 σ l ts L) (hv:toPV v=some (.lst ks.length (ks.map .str))) (hks:ks.length <= 100) (hno:[] ∉ ks) (hK:okR (kindS ks ts) (fun a r=>∀ σ',PsAt σ0 σ' l r L->K (.pv (.str a)) σ') (∀ σ',σ0.sub σ'->X wrongV σ')):env 128 [.addr l 0,v] σ K X:=by
  rw [h]; exact ⟨σ0,l,ts,L,ks,v,rfl,hv,hks,hno,hP,hK⟩
def T_yNls:Tr:=fun args σ K _=>∃ (σ0:AS) (l:Nat) (ts:List Tok) (L:Objs),args=[.addr l 0]/\PsAt σ0 σ l ts L/\∀ σ',PsAt σ0 σ' l (nlsS ts) L->K (.tuple []) σ'
theorem nls_step (ts:List Tok):nlsS ts=if (atS 0 ts).1=kNl then nlsS (ts.drop 1) else ts:=by
  cases ts with
  | nil=>rfl
  | cons t ts=>rw [nlsS]; rfl
theorem T_yNls_ok (E:PE0 env) (h:T_yNls args σ K X):bodyD PS env an85 Tryz.f85 args σ K X:=by
  obtain ⟨σ0,l,ts,L,rfl,hP,hK⟩:=h
  rw [<- S85_eq env,S85]
  refine lp85_0 (fun (a:List Tok) _=>a.length) (fun a τ=>PsAt σ0 τ l a L/\nlsS a=nlsS ts) ts ⟨hP,rfl⟩ ?_
  rintro a τ ⟨hPa,ha⟩
  unfold L85_0
  simp only [lock_eq]
  refine at0 E hPa ?_
  rw [fld0,bin_seql,cond_bool]
  rw [nls_step] at ha
  refine iteI (fun g=>?_) (fun g=>?_)
  · have g':(atS 0 a).1=kNl:=eq_of_beq g
    rw [if_pos g'] at ha
    have hl:=at_kind g' (by decide)
    refine drop1 E hPa hl ?_
    intro σ2 hP2
    exact back (a.drop 1) rfl (by rw [List.length_drop]; omega) ⟨hP2,ha⟩
  · have g':¬ (atS 0 a).1=kNl:=fun e=>g (by rw [e]; rfl)
    rw [if_neg g'] at ha
    refine retV_self (hK τ ?_)
    rw [<- ha]; exact hPa
theorem ynls_call (h:env 85=T_yNls) (hP:PsAt σ0 σ l ts L) (hK:∀ σ',PsAt σ0 σ' l (nlsS ts) L->K (.tuple []) σ'):env 85 [.addr l 0] σ K X:=by
  rw [h]; exact ⟨σ0,l,ts,L,rfl,hP,hK⟩
def T_yEnds:Tr:=fun args σ K _=>∃ (σ0:AS) (l:Nat) (ts:List Tok) (L:Objs),args=[.addr l 0]/\PsAt σ0 σ l ts L/\∀ σ',PsAt σ0 σ' l (endsS ts) L->K (.pv (.bool (endB (atS 0 ts)))) σ'
theorem ends_step (ts:List Tok):endsS ts=if endB (atS 0 ts)=true then endsS (ts.drop 1) else ts:=by
  cases ts with
  | nil=>rfl
  | cons t ts=>rw [endsS]; rfl
theorem T_yEnds_ok (E:PE0 env) (h:T_yEnds args σ K X):bodyD PS env an36 Tryz.f36 args σ K X:=by
  obtain ⟨σ0,l,ts,L,rfl,hP,hK⟩:=h
  rw [<- S36_eq env,S36]
  refine lp36_2 (fun (a:List Tok × Bool) _=>a.1.length) (fun a τ=>PsAt σ0 τ l a.1 L/\endsS a.1=endsS ts/\endB (atS 0 ts)=(a.2 || endB (atS 0 a.1))) (fun a=>.pv (.bool a.2)) (ts,false) ⟨hP,rfl,by simp⟩ ?_
  rintro ⟨a,b⟩ τ ⟨hPa,ha,hb⟩
  simp only at hPa ha hb
  unfold L36_2
  simp only [lock_eq]
  refine at0 E hPa ?_
  rw [fld0,bin_seql,guard_false]
  rw [ends_step] at ha
  have more:endB (atS 0 a)=true->1 <= a.length->env 76 [.addr l 0,.pv (.int .i64 1)] τ (fun _ σ'=>∃ m',m' < a.length/\Inv (fun a:List Tok × Bool=>[AV.addr l 0,.pv (.bool a.2)]) (fun a _=>a.1.length) (fun a τ=>PsAt σ0 τ l a.1 L/\endsS a.1=endsS ts/\endB (atS 0 ts)=(a.2 || endB (atS 0 a.1))) m' [.addr l 0,.pv (.bool true)] σ') (panV X):=by
    intro g hl
    rw [if_pos g] at ha
    refine drop1 E hPa hl ?_
    intro σ2 hP2
    refine back (a.drop 1,true) rfl (by simp only [List.length_drop]; omega) ⟨hP2,ha,?_⟩
    rw [hb,g]; simp
  refine iteI (fun g=>?_) (fun g=>?_)
  · have g':(atS 0 a).1=kNl:=eq_of_beq g
    exact more (by unfold endB; rw [decide_eq_true g',Bool.true_or]) (at_kind g' (by decide))
  · have g':¬ (atS 0 a).1=kNl:=fun e=>g (by rw [e]; rfl)
    refine at0 E hPa ?_
    refine op_call E ?_
    rw [tokEq,cond_bool]
    refine iteI (fun g2=>?_) (fun g2=>?_)
    · have g2':=of_decide_eq_true g2
      exact more (by unfold endB; rw [decide_eq_true g2',Bool.or_true]) (at_pos g2' (opT_ne _))
    · have e:endB (atS 0 a)=false:=by
        unfold endB
        rw [decide_eq_false g',Bool.false_or]
        simpa using g2
      rw [e,Bool.or_false] at hb
      rw [if_neg (by rw [e]; decide)] at ha
      refine retV_self ?_
      rw [<- hb]
      refine hK τ ?_
      rw [<- ha]; exact hPa
theorem yends_call (h:env 36=T_yEnds) (hP:PsAt σ0 σ l ts L) (hK:∀ σ',PsAt σ0 σ' l (endsS ts) L->K (.pv (.bool (endB (atS 0 ts)))) σ'):env 36 [.addr l 0] σ K X:=by
  rw [h]; exact ⟨σ0,l,ts,L,rfl,hP,hK⟩
end
end Go.AD.Lx
set_option linter.unusedVariables false
set_option linter.unusedSimpArgs false
set_option maxRecDepth 100000
namespace Go.AD.Lx
open Go.Proofs RowKit
section
variable {env:Env} {args:List AV} {σ0 σ τ:AS} {K:AV->AS->Prop} {X:PV->AS->Prop} {l:Nat} {ts:List Tok} {L Y:Objs}
theorem var_T {x:Tok} {KS:AV->AS->Prop} (h:∀ t σ',Sep σ σ' [VarT t x]->KS (.addr t 0) σ'):allocD PS σ 53 fun t σ1=>storeD PS σ1 53 t (tokAV x) fun σ2=>KS t σ2:=by
  refine alloc_of T.zo53 rfl (fun t ht=>?_)
  have hS1:Sep σ (σ.set t (.cells [.pv (.str []),.pv (.str [])] (some 53))) [VarT t ([],[])]:=(Sep.start σ).alloc ht _
  rw [storeD]
  simp only [set_same]
  refine ⟨T.hT53,by rw [T.sz53]; rfl,rfl,Nat.le_refl _,?_⟩
  have e1:setAll [.pv (.str []),.pv (.str [])] 0 (tokAV x).cells=[.pv (.str x.1),.pv (.str x.2)]:=rfl
  rw [e1]
  exact h t _ (hS1.set1 (.cells [.pv (.str x.1),.pv (.str x.2)] (some 53)))
theorem T_yBegins_ok (E:PE0 env) (h:T_yBegins args σ K X):bodyD PS env an164 Tryz.f164 args σ K X:=by
  obtain ⟨σ0,l,ts,L,rfl,hP,hK⟩:=h
  rw [<- S164_eq env,S164]
  simp only [lock_eq]
  refine at0 E hP ?_
  refine var_T ?_
  intro t σ1 hS
  generalize atS 0 ts=x at hK hS
  obtain ⟨k,x⟩:=x
  have hg:σ1 t=some (.cells [.pv (.str k),.pv (.str x)] (some 53)):=hS.get (List.mem_singleton.2 rfl)
  have fin:∀ b,b=beginsB (k,x)->retV (.pv (.bool b)) σ1 K:=by rintro _ rfl; exact retB hS.sub hK
  have j:k ∉ [kNum,kStr,kEre,kName,kFunc,kBuilt]->J164_10 env (.addr t 0) σ1 K X:=by
    intro hn
    have e:beginsB (k,x)=(decide (k=kOp) && decide (x ∈ [[36],[40],[43,43],[45,45]])):=by unfold beginsB; rw [decide_eq_false hn,Bool.false_or]
    rw [e] at fin
    unfold J164_10
    simp (disch:=omega) only [lock_eq,go_sem,hg,ldM_cells,Nat.zero_add,List.getElem?_cons_zero,List.getElem?_cons_succ,someEx]
    refine iteI (fun g=>?_) (fun g=>?_)
    · rw [decide_eq_true (show k=kOp from eq_of_beq g),Bool.true_and] at fin
      refine iteI (fun g=>fin true (by rw [eq_of_beq g]; rfl)) (fun g1=>?_)
      refine iteI (fun g=>fin true (by rw [eq_of_beq g]; rfl)) (fun g2=>?_)
      refine iteI (fun g=>fin true (by rw [eq_of_beq g]; rfl)) (fun g3=>?_)
      refine fin _ ?_
      rw [beqD]
      have n1:x ≠ [36]:=fun e=>g1 (by rw [e]; rfl)
      have n2:x ≠ [40]:=fun e=>g2 (by rw [e]; rfl)
      have n3:x ≠ [43,43]:=fun e=>g3 (by rw [e]; rfl)
      simp [n1,n2,n3]
    · exact fin false (by rw [decide_eq_false (fun e=>g (by rw [e]; rfl)),Bool.false_and])
  simp (disch:=omega) only [lock_eq,go_sem,hg,ldM_cells,Nat.zero_add,List.getElem?_cons_zero,List.getElem?_cons_succ,someEx]
  refine iteI (fun g=>by rw [if_pos g]; exact fin true (by rw [eq_of_beq g]; rfl)) (fun g1=>?_)
  refine iteI (fun g=>by rw [if_pos g]; exact fin true (by rw [eq_of_beq g]; rfl)) (fun g2=>?_)
  refine iteI (fun g=>by rw [if_pos g]; exact fin true (by rw [eq_of_beq g]; rfl)) (fun g3=>?_)
  refine iteI (fun g=>by rw [if_pos g]; exact fin true (by rw [eq_of_beq g]; rfl)) (fun g4=>?_)
  refine iteI (fun g=>by rw [if_pos g]; exact fin true (by rw [eq_of_beq g]; rfl)) (fun g5=>?_)
  refine iteI (fun g=>fin true (by rw [eq_of_beq g]; rfl)) (fun g6=>?_)
  refine j ?_
  simp only [beq_iff_eq] at g1 g2 g3 g4 g5 g6
  simp [kNum,kStr,kEre,kName,kFunc,kBuilt,g1,g2,g3,g4,g5,g6]
structure PE1 (env:Env):Prop extends PE0 env where
  begins:env 164=T_yBegins
theorem ybegins_call (E:PE1 env) (hP:PsAt σ0 σ l ts L) (hK:K (.pv (.bool (beginsB (atS 0 ts)))) σ):env 164 [.addr l 0] σ K X:=by
  rw [E.begins]; exact ⟨σ0,l,ts,L,rfl,hP,hK⟩
def T_yLevel:Tr:=fun args σ K _=>∃ (σ0:AS) (l:Nat) (ts:List Tok) (L:Objs) (pr:Bool),args=[.addr l 0,.pv (.bool pr)]/\PsAt σ0 σ l ts L/\K (.pv (.int .i64 (levelS pr (atS 0 ts):Nat))) σ
theorem T_yLevel_ok (E:PE1 env) (h:T_yLevel args σ K X):bodyD PS env an130 Tryz.f130 args σ K X:=by
  obtain ⟨σ0,l,ts,L,pr,rfl,hP,hK⟩:=h
  rw [<- S130_eq env,S130]
  simp only [lock_eq]
  refine at0 E.toPE0 hP ?_
  refine var_T ?_
  intro t σ1 hS
  have hP1:=hP.up hS.sub
  generalize hx:atS 0 ts=tk at hK hS
  obtain ⟨k,x⟩:=tk
  have hg:σ1 t=some (.cells [.pv (.str k),.pv (.str x)] (some 53)):=hS.get (List.mem_singleton.2 rfl)
  have fin:∀ n:Nat,n=levelS pr (k,x)->retV (.pv (.int .i64 (n:Nat))) σ1 K:=by rintro _ rfl; exact retB hS.sub hK
  have hl:∀ K,loadD PS σ1 53 (.addr t 0) K=K (tokAV (k,x)):=fun K=>ldT' (k:=(k,x)) hg
  clear hK
  repeat' first
    | exact trivial
    | with_reducible refine And.intro ?_ ?_
    | refine word_call E.toPE0 ?_
    | rw [hl]
    | rw [tokEq]
  all_goals
    rw [cond_bool]
    refine iteI (fun g=>fin 5 (by rw [of_decide_eq_true g]; rfl)) (fun g0=>?_)
    have g0:¬ (k,x)=wordT wIn:=fun e=>g0 (decide_eq_true e)
    rw [levelS,if_neg g0] at fin
    refine ybegins_call E hP1 ?_
    rw [hx,cond_bool]
    refine iteI (fun g=>fin 8 (by rw [if_pos g])) (fun g1=>?_)
    rw [if_neg g1] at fin
    simp (disch:=omega) only [go_sem,hg,ldM_cells,Nat.zero_add,List.getElem?_cons_zero,List.getElem?_cons_succ,someEx,bne]
    refine iteI (fun g=>fin 0 (by rw [if_pos (fun e=>by rw [show k=kOp from e] at g; exact absurd g (by decide))])) (fun g2=>?_)
    have g2:k=kOp:=by
      by_cases e:k=kOp
      · exact e
      · exact absurd (by rw [beqD,show decide (k=[111,112])=false from decide_eq_false e]; rfl) g2
    rw [if_neg (not_not_intro g2)] at fin
    clear g0 g1 hx hg hl
    have j38:∀ b,b=decide (x ∈ [[43],[45]])->x ∉ [[61],[43,61],[45,61],[42,61],[47,61],[37,61],[94,61]]->x ≠ [63]->x ≠ [124,124]->x ≠ [38,38]->x ∉ [[126],[33,126]]->x ≠ [62]->x ∉ [[60],[60,61],[61,61],[33,61],[62,61]]->J130_38 env (.pv (.str x)) (.pv (.bool b)) σ1 K X:=by
      intro b hb n1 n2 n3 n4 n5 n6 n7
      rw [if_neg n1,if_neg n2,if_neg n3,if_neg n4,if_neg n5,if_neg n6,if_neg n7] at fin
      unfold J130_38
      simp only [lock_eq,go_sem]
      refine iteI (fun g=>fin 9 (by rw [if_pos (of_decide_eq_true (by rw [<- hb]; exact g))])) (fun g8=>?_)
      rw [if_neg (fun e=>g8 (by rw [hb]; exact decide_eq_true e))] at fin
      refine iteI (fun g=>by rw [if_pos g]; exact fin 10 (by rw [eq_of_beq g]; rfl)) (fun g9=>?_)
      refine iteI (fun g=>by rw [if_pos g]; exact fin 10 (by rw [eq_of_beq g]; rfl)) (fun g10=>?_)
      refine iteI (fun g=>fin 10 (by rw [eq_of_beq g]; rfl)) (fun g11=>?_)
      simp only [beq_iff_eq] at g9 g10 g11
      exact fin 0 (by rw [if_neg (by simp [g9,g10,g11])])
    have j35:∀ b,b=decide (x ∈ [[60],[60,61],[61,61],[33,61],[62,61]])->x ∉ [[61],[43,61],[45,61],[42,61],[47,61],[37,61],[94,61]]->x ≠ [63]->x ≠ [124,124]->x ≠ [38,38]->x ∉ [[126],[33,126]]->x ≠ [62]->J130_35 env (.pv (.str x)) (.pv (.bool b)) σ1 K X:=by
      intro b hb n1 n2 n3 n4 n5 n6
      unfold J130_35
      simp only [lock_eq,go_sem]
      refine iteI (fun g=>fin 7 (by rw [if_neg n1,if_neg n2,if_neg n3,if_neg n4,if_neg n5,if_neg n6,if_pos (of_decide_eq_true (by rw [<- hb]; exact g))])) (fun g8=>?_)
      have n7:x ∉ [[60],[60,61],[61,61],[33,61],[62,61]]:=fun e=>g8 (by rw [hb]; exact decide_eq_true e)
      refine iteI (fun g=>j38 _ (by rw [eq_of_beq g]; rfl) n1 n2 n3 n4 n5 n6 n7) (fun g9=>?_)
      simp only [beq_iff_eq] at g9
      exact j38 _ (by rw [beqD]; simp [g9]) n1 n2 n3 n4 n5 n6 n7
    have j25:∀ b,b=decide (x ∈ [[126],[33,126]])->x ∉ [[61],[43,61],[45,61],[42,61],[47,61],[37,61],[94,61]]->x ≠ [63]->x ≠ [124,124]->x ≠ [38,38]->J130_25 env (.pv (.bool pr)) (.pv (.str x)) (.pv (.bool b)) σ1 K X:=by
      intro b hb n1 n2 n3 n4
      unfold J130_25
      simp only [lock_eq,go_sem]
      refine iteI (fun g=>fin 6 (by rw [if_neg n1,if_neg n2,if_neg n3,if_neg n4,if_pos (of_decide_eq_true (by rw [<- hb]; exact g))])) (fun g8=>?_)
      have n5:x ∉ [[126],[33,126]]:=fun e=>g8 (by rw [hb]; exact decide_eq_true e)
      refine iteI (fun g=>?_) (fun g9=>?_)
      · have e:x=[62]:=eq_of_beq g
        rw [if_neg n1,if_neg n2,if_neg n3,if_neg n4,if_neg n5,if_pos e] at fin
        refine iteI (fun g=>fin 0 (by rw [if_pos g])) (fun g=>fin 7 (by rw [if_neg g]))
      have n6:x ≠ [62]:=fun e=>g9 (by rw [e]; rfl)
      refine iteI (fun g=>j35 _ (by rw [eq_of_beq g]; rfl) n1 n2 n3 n4 n5 n6) (fun g10=>?_)
      refine iteI (fun g=>j35 _ (by rw [eq_of_beq g]; rfl) n1 n2 n3 n4 n5 n6) (fun g11=>?_)
      refine iteI (fun g=>j35 _ (by rw [eq_of_beq g]; rfl) n1 n2 n3 n4 n5 n6) (fun g12=>?_)
      refine iteI (fun g=>j35 _ (by rw [eq_of_beq g]; rfl) n1 n2 n3 n4 n5 n6) (fun g13=>?_)
      simp only [beq_iff_eq] at g10 g11 g12 g13
      exact j35 _ (by rw [beqD]; simp [g10,g11,g12,g13]) n1 n2 n3 n4 n5 n6
    have j16:∀ b,b=decide (x ∈ [[61],[43,61],[45,61],[42,61],[47,61],[37,61],[94,61]])->J130_16 env (.pv (.bool pr)) (.pv (.str x)) (.pv (.bool b)) σ1 K X:=by
      intro b hb
      unfold J130_16
      simp only [lock_eq,go_sem]
      refine iteI (fun g=>fin 1 (by rw [if_pos (of_decide_eq_true (by rw [<- hb]; exact g))])) (fun g8=>?_)
      have n1:x ∉ [[61],[43,61],[45,61],[42,61],[47,61],[37,61],[94,61]]:=fun e=>g8 (by rw [hb]; exact decide_eq_true e)
      refine iteI (fun g=>fin 2 (by rw [if_neg n1,if_pos (eq_of_beq g)])) (fun g9=>?_)
      have n2:x ≠ [63]:=fun e=>g9 (by rw [e]; rfl)
      refine iteI (fun g=>fin 3 (by rw [if_neg n1,if_neg n2,if_pos (eq_of_beq g)])) (fun g9=>?_)
      have n3:x ≠ [124,124]:=fun e=>g9 (by rw [e]; rfl)
      refine iteI (fun g=>fin 4 (by rw [if_neg n1,if_neg n2,if_neg n3,if_pos (eq_of_beq g)])) (fun g9=>?_)
      have n4:x ≠ [38,38]:=fun e=>g9 (by rw [e]; rfl)
      refine iteI (fun g=>j25 _ (by rw [eq_of_beq g]; rfl) n1 n2 n3 n4) (fun g10=>?_)
      simp only [beq_iff_eq] at g10
      exact j25 _ (by rw [beqD]; simp [g10]) n1 n2 n3 n4
    refine iteI (fun g=>j16 _ (by rw [eq_of_beq g]; rfl)) (fun g3=>?_)
    refine iteI (fun g=>j16 _ (by rw [eq_of_beq g]; rfl)) (fun g4=>?_)
    refine iteI (fun g=>j16 _ (by rw [eq_of_beq g]; rfl)) (fun g5=>?_)
    refine iteI (fun g=>j16 _ (by rw [eq_of_beq g]; rfl)) (fun g6=>?_)
    refine iteI (fun g=>j16 _ (by rw [eq_of_beq g]; rfl)) (fun g7=>?_)
    refine iteI (fun g=>j16 _ (by rw [eq_of_beq g]; rfl)) (fun g8=>?_)
    simp only [beq_iff_eq] at g3 g4 g5 g6 g7 g8
    exact j16 _ (by rw [beqD]; simp [g3,g4,g5,g6,g7,g8])
theorem ylevel_call (h:env 130=T_yLevel) {pr:Bool} (hP:PsAt σ0 σ l ts L) (hK:K (.pv (.int .i64 (levelS pr (atS 0 ts):Nat))) σ):env 130 [.addr l 0,.pv (.bool pr)] σ K X:=by
  rw [h]; exact ⟨σ0,l,ts,L,pr,rfl,hP,hK⟩
def T_yStarts:Tr:=fun args σ K _=>∃ (σ0:AS) (l:Nat) (ts:List Tok) (L:Objs),args=[.addr l 0]/\PsAt σ0 σ l ts L/\K (.pv (.bool (startsB (atS 0 ts)))) σ
theorem T_yStarts_ok (E:PE1 env) (h:T_yStarts args σ K X):bodyD PS env an182 Tryz.f182 args σ K X:=by
  obtain ⟨σ0,l,ts,L,rfl,hP,hK⟩:=h
  rw [<- S182_eq env,S182]
  simp only [lock_eq]
  refine at0 E.toPE0 hP ?_
  refine var_T ?_
  intro t σ1 hS
  have hP1:=hP.up hS.sub
  generalize hx:atS 0 ts=x at hK hS
  have hg:σ1 t=some (.cells [.pv (.str x.1),.pv (.str x.2)] (some 53)):=hS.get (List.mem_singleton.2 rfl)
  have fin:∀ b:Bool,b=startsB x->retV (.pv (.bool b)) σ1 K:=by rintro _ rfl; exact retB hS.sub hK
  have hl:∀ K,loadD PS σ1 53 (.addr t 0) K=K (tokAV x):=fun K=>ldT' hg
  refine ⟨ybegins_call E hP1 ?_,trivial⟩
  rw [hx]
  simp only [and_true,hl,tokEq,guard_false]
  repeat' first
    | with_reducible refine And.intro ?_ ?_
    | with_reducible refine op_call E.toPE0 ?_
    | rw [hl]
    | rw [tokEq]
    | rw [guard_false]
    | refine iteI (fun g=>?_) (fun g=>?_)
    | (refine fin true ?_; unfold startsB; simp_all; done)
    | (refine fin _ ?_; unfold startsB; simp_all; done)
theorem ystarts_call (h:env 182=T_yStarts) (hP:PsAt σ0 σ l ts L) (hK:K (.pv (.bool (startsB (atS 0 ts)))) σ):env 182 [.addr l 0] σ K X:=by
  rw [h]; exact ⟨σ0,l,ts,L,rfl,hP,hK⟩
end
end Go.AD.Lx
set_option linter.unusedVariables false
set_option linter.unusedSimpArgs false
set_option maxRecDepth 100000
namespace Go.AD.Lx
open Go.Proofs RowKit
section
variable {env:Env} {args:List AV} {σ0 σ τ:AS} {K:AV->AS->Prop} {X:PV->AS->Prop} {l:Nat} {ts:List Tok} {L Y:Objs}
def T_HasSuffix:Tr:=fun args σ K _=>∃ s p:List UInt8,args=[.pv (.str s),.pv (.str p)]/\s.length <= 70000/\K (.pv (.bool (Lib.hasSuffix s p))) σ
theorem F_HasSuffix:SoundF PS 133 T_HasSuffix:=by
  rintro w0 hS ρ σ w args us K X H hr ⟨s,p,rfl,hs,hK⟩
  obtain ⟨u,us',rfl,hu,hr⟩:=hr.uncons
  obtain ⟨v,us'',rfl,hv,hnil⟩:=hr.uncons
  obtain rfl:us''=[]:=hnil.nil_inv
  rw [relStr hu,relStr hv]
  refine ⟨Tryz.call133 _ w,?_⟩
  refine (Tryz.strings_HasSuffix ⟨s.toArray⟩ ⟨p.toArray⟩ w (by simp [ByteArray.size]; omega)).mono fun e W' ⟨he,hW⟩=>?_
  subst he hW
  exact ⟨ρ,σ,Gh.le_refl ρ,H,_,.pv (.bool _),hK⟩
def T_yCounts:Tr:=fun args σ K _=>∃ n:Bytes,args=[.pv (.str n)]/\K (.tuple [.pv (.int .i64 ((countsS n).1:Nat)),.pv (.int .i64 ((countsS n).2:Nat))]) σ
theorem T_yCounts_ok (h:T_yCounts args σ K X):bodyD PS env an132 Tryz.f132 args σ K X:=by
  obtain ⟨n,rfl,hK⟩:=h
  rw [<- S132_eq env,S132]
  have fin:∀ a b:Nat,(a,b)=countsS n->retV (.tuple [.pv (.int .i64 (a:Nat)),.pv (.int .i64 (b:Nat))]) σ K:=by
    intro a b h
    rw [<- h] at hK
    exact retV_self hK
  clear hK
  unfold countsS at fin
  have j11:∀ b,b=decide (n ∈ [[105,110,100,101,120],[109,97,116,99,104]])->n ≠ sLength->n ∉ [[115,117,98,115,116,114],[115,112,108,105,116],[115,117,98],[103,115,117,98]]->J132_11 env (.pv (.str n)) (.pv (.bool b)) σ K X:=by
    intro b hb n1 n2
    rw [if_neg n1,if_neg n2] at fin
    unfold J132_11
    simp only [lock_eq,go_sem]
    refine iteI (fun g=>fin 2 2 (by rw [if_pos (of_decide_eq_true (by rw [<- hb]; exact g))])) (fun g8=>?_)
    rw [if_neg (fun e=>g8 (by rw [hb]; exact decide_eq_true e))] at fin
    refine iteI (fun g=>fin 1 20000 (by rw [if_pos (eq_of_beq g)])) (fun g9=>?_)
    exact fin 1 1 (by rw [if_neg (fun e=>g9 (by rw [e]; rfl))])
  have j8:∀ b,b=decide (n ∈ [[115,117,98,115,116,114],[115,112,108,105,116],[115,117,98],[103,115,117,98]])->n ≠ sLength->J132_8 env (.pv (.str n)) (.pv (.bool b)) σ K X:=by
    intro b hb n1
    unfold J132_8
    simp only [lock_eq,go_sem]
    refine iteI (fun g=>fin 2 3 (by rw [if_neg n1,if_pos (of_decide_eq_true (by rw [<- hb]; exact g))])) (fun g8=>?_)
    have n2:n ∉ [[115,117,98,115,116,114],[115,112,108,105,116],[115,117,98],[103,115,117,98]]:=fun e=>g8 (by rw [hb]; exact decide_eq_true e)
    refine iteI (fun g=>j11 _ (by rw [eq_of_beq g]; rfl) n1 n2) (fun g9=>?_)
    simp only [beq_iff_eq] at g9
    exact j11 _ (by rw [beqD]; simp [g9]) n1 n2
  simp only [lock_eq,go_sem]
  refine iteI (fun g=>fin 0 1 (by rw [if_pos (show n=sLength from eq_of_beq g)])) (fun g1=>?_)
  have n1:n ≠ sLength:=fun e=>g1 (by rw [e]; rfl)
  refine iteI (fun g=>j8 _ (by rw [eq_of_beq g]; rfl) n1) (fun g2=>?_)
  refine iteI (fun g=>j8 _ (by rw [eq_of_beq g]; rfl) n1) (fun g3=>?_)
  refine iteI (fun g=>j8 _ (by rw [eq_of_beq g]; rfl) n1) (fun g4=>?_)
  simp only [beq_iff_eq] at g2 g3 g4
  exact j8 _ (by rw [beqD]; simp [g2,g3,g4]) n1
def T_yLooped:Tr:=fun args σ K _=>∃ n:NTree,args=[nodeAV n]/\K (.pv (.int .i64 (loopedS n))) σ
theorem T_yLooped_ok (h:T_yLooped args σ K X):bodyD PS env an87 Tryz.f87 args σ K X:=by
  obtain ⟨n,rfl,hK⟩:=h
  rw [<- S87_eq env,S87]
  simp only [lock_eq]
  refine box_N ?_
  intro t σ1 hS
  have hg:=hS.get (i:=t) (List.mem_singleton.2 rfl)
  have fin:∀ z:Int,z=loopedS n->retV (.pv (.int .i64 z)) σ1 K:=by rintro _ rfl; exact retB hS.sub hK
  unfold loopedS at fin
  generalize n.op=o at hg fin
  have j4:∀ b,b=decide (o ∈ [oWhile,oForin])->J87_4 env (.pv (.str o)) (.pv (.bool b)) σ1 K X:=by
    intro b hb
    unfold J87_4
    simp only [lock_eq,go_sem]
    refine iteI (fun g=>fin 1 (by rw [if_pos (of_decide_eq_true (by rw [<- hb]; exact g))])) (fun g8=>?_)
    rw [if_neg (fun e=>g8 (by rw [hb]; exact decide_eq_true e))] at fin
    refine iteI (fun g=>fin 0 (by rw [if_pos (show o=oDo from eq_of_beq g)])) (fun g9=>?_)
    rw [if_neg (show ¬ o=oDo from fun e=>g9 (by rw [e]; rfl))] at fin
    refine iteI (fun g=>fin 3 (by rw [if_pos (show o=oFor from eq_of_beq g)])) (fun g9=>?_)
    exact fin (-1) (by rw [if_neg (show ¬ o=oFor from fun e=>g9 (by rw [e]; rfl))])
  simp (disch:=omega) only [go_sem,hg,ldM_cells,Nat.zero_add,List.getElem?_cons_zero,someEx]
  refine iteI (fun g=>j4 _ (by rw [eq_of_beq g]; rfl)) (fun g2=>?_)
  simp only [beq_iff_eq] at g2
  exact j4 _ (by rw [beqD]; simp [oWhile,oForin,g2])
mutual
def okN:NTree->Prop
  | .mk _ _ kids=>kids.length <= 1000000/\okNs kids
def okNs:List NTree->Prop
  | []=>True
  | n :: l=>okN n/\okNs l
end
theorem okNs_mem:∀ {l:List NTree},okNs l->∀ (i:Nat) (h:i < l.length),okN l[i]
  | n :: l,h,0,_=>by rw [okNs] at h; exact h.1
  | n :: l,h,i + 1,hi=>by rw [okNs] at h; exact okNs_mem h.2 i (by simpa using hi)
theorem okN_kids {n:NTree} (h:okN n):n.kids.length <= 1000000/\okNs n.kids:=by cases n; rw [okN] at h; exact h
theorem node_ix {a:List NTree} {i:Nat} (h:i < a.length) {K:AV->Prop}:indexAddrD PS 23 (.pv (.lst a.length (flatN a))) (.pv (.int .i64 (i:Nat))) K=K (.elemP (flatN a) (i * 3)):=T.ixl23 h (flatN_len a)
def T_yBuilt:Tr:=fun args σ K _=>∃ n:NTree,args=[nodeAV n]/\n.kids.length <= 1000000/\K (.pv (.bool (builtS n))) σ
theorem counts3 {n:Bytes} (h:3 <= (countsS n).2):n.length <= 70000:=by
  unfold countsS at h
  by_cases h1:n=sLength
  · rw [h1]; decide
  rw [if_neg h1] at h
  by_cases h2:n ∈ [[115,117,98,115,116,114],[115,112,108,105,116],[115,117,98],[103,115,117,98]]
  · simp only [List.mem_cons,List.not_mem_nil,or_false] at h2
    rcases h2 with rfl | rfl | rfl | rfl <;> decide
  rw [if_neg h2] at h
  by_cases h3:n ∈ [[105,110,100,101,120],[109,97,116,99,104]]
  · rw [if_pos h3] at h; exact absurd h (by decide)
  rw [if_neg h3] at h
  by_cases h4:n=[115,112,114,105,110,116,102]
  · rw [h4]; decide
  rw [if_neg h4] at h
  exact absurd h (by decide)
theorem yplace_call0 (h:env 131=T_yPlace) {n:NTree} (hK:K (.pv (.bool (placeB n))) σ):env 131 [nodeAV n] σ K X:=by
  rw [h]; exact ⟨n,rfl,hK⟩
theorem T_yBuilt_ok (h1:env 132=T_yCounts) (h2:env 133=T_HasSuffix) (h3:env 131=T_yPlace) (h:T_yBuilt args σ K X):bodyD PS env an86 Tryz.f86 args σ K X:=by
  obtain ⟨n,rfl,hkl,hK⟩:=h
  rw [<- S86_eq env,S86]
  simp only [lock_eq]
  refine box_N ?_
  intro t σ1 hS
  have hg:=hS.get (i:=t) (List.mem_singleton.2 rfl)
  have fin:∀ b:Bool,b=builtS n->retV (.pv (.bool b)) σ1 K:=by rintro _ rfl; exact retB hS.sub hK
  unfold builtS at fin
  simp (disch:=omega) only [T.fa50_1,T.fa50_2,T.ld9,T.ld23,hg,ldM_cells,Nat.zero_add,List.getElem?_cons_zero,List.getElem?_cons_succ,someEx]
  rw [h1]
  refine ⟨n.text,rfl,?_⟩
  simp (disch:=omega) only [extractD,List.getElem?_cons_zero,List.getElem?_cons_succ,go_sem,hg,ldM_cells,Nat.zero_add,someEx]
  refine iteI (fun g=>fin false (by rw [if_pos (.inl g)])) (fun g1=>?_)
  refine iteI (fun g=>fin false (by rw [if_pos (.inr g)])) (fun g2=>?_)
  rw [if_neg (fun h=>h.elim g1 g2)] at fin
  unfold J86_5
  simp (disch:=omega) only [lock_eq,T.fa50_1,T.fa50_2,T.ld9,T.ld23,hg,ldM_cells,Nat.zero_add,List.getElem?_cons_zero,List.getElem?_cons_succ,someEx,bin_seql,cond_bool]
  have kid:∀ (i:Nat) (h:i < n.kids.length),n.kids.getD i noneN=n.kids[i]:=fun i h=>by rw [List.getD_eq_getElem?_getD,List.getElem?_eq_getElem h]; rfl
  refine iteI (fun g=>?_) (fun g3=>?_)
  · have e:n.text=[115,112,108,105,116]:=eq_of_beq g
    rw [if_pos e] at fin
    have hk:2 <= n.kids.length:=by
      have:(countsS n.text).1=2:=by rw [e]; rfl
      omega
    have hc:(flatN n.kids)[1 * 3]?=some (.str (n.kids[1]).op):=by
      have:=flatN_get n.kids 1 (by omega)
      rw [nodeCells_eq] at this
      have h0:=congrArg (fun l=>l[0]?) this
      simpa [List.getElem?_take,List.getElem?_drop] using h0
    have ix:∀ K:AV->Prop,indexAddrD PS 23 (.pv (.lst n.kids.length (flatN n.kids))) (.pv (.int .i64 1)) K=K (.elemP (flatN n.kids) (1 * 3)):=fun K=>node_ix (i:=1) (by omega)
    simp only [ix,T.fe50_0,T.le9,Nat.add_zero,hc,someEx]
    refine fin _ ?_
    rw [beqD,kid 1 (by omega)]; rfl
  rw [if_neg (fun e=>g3 (by rw [e]; rfl))] at fin
  simp (disch:=omega) only [go_sem]
  refine iteI (fun g=>fin true (by rw [decide_eq_true g]; rfl)) (fun g4=>?_)
  rw [decide_eq_false g4,Bool.false_or] at fin
  rw [h2]
  refine ⟨n.text,[115,117,98],rfl,counts3 (by omega),?_⟩
  have e:Lib.hasSuffix n.text [115,117,98]=sSub.isSuffixOf n.text:=rfl
  rw [e]
  simp (disch:=omega) only [go_sem]
  refine iteI (fun g=>fin true (by rw [g]; rfl)) (fun g5=>?_)
  have g5:(!sSub.isSuffixOf n.text)=false:=by simpa using g5
  rw [g5,Bool.false_or] at fin
  have ix:∀ K:AV->Prop,indexAddrD PS 23 (.pv (.lst n.kids.length (flatN n.kids))) (.pv (.int .i64 2)) K=K (.elemP (flatN n.kids) (2 * 3)):=fun K=>node_ix (i:=2) (by omega)
  have hld:∀ σ K,loadD PS σ 50 (.elemP (flatN n.kids) (2 * 3)) K=K (nodeAV n.kids[2]):=by
    intro σ K
    rw [load_elemA T.hT50 T.ag50,T.sz50,flatN_get n.kids 2 (by omega)]
    exact propext ⟨fun h=>h.2,fun h=>⟨by rw [flatN_len]; omega,h⟩⟩
  simp only [ix,hld,hg,ldM_cells,List.getElem?_cons_zero,List.getElem?_cons_succ,someEx]
  refine yplace_call0 h3 ?_
  exact fin _ (by rw [kid 2 (by omega)])
def whereAV (w:WhereS):AV:=.agg [.pv (.bool w.next),.pv (.bool w.result),.pv (.bool w.loop)]
def T_yFine (m:Nat):Tr:=fun args σ K _=>∃ (n:NTree) (d:Nat) (w:WhereS),args=[nodeAV n,.pv (.int .i64 (d:Nat)),whereAV w]/\okN n/\203 <= d + m/\d <= 201/\K (.pv (.bool (fineS n d w))) σ
theorem ldW {t:Nat} {v:Option TypeId} {w:WhereS} {K:AV->Prop} (hg:σ t=some (.cells [.pv (.bool w.next),.pv (.bool w.result),.pv (.bool w.loop)] v)):loadD PS σ 89 (.addr t 0) K=K (whereAV w):=by
  rw [load_addrA T.hT89 T.ag89 hg,T.sz89]
  exact propext ⟨fun h=>h.2,fun h=>⟨Nat.le_refl _,h⟩⟩
theorem var_N {x:NTree} {KS:AV->AS->Prop} (hS:Sep σ0 σ L) (h:∀ t σ',Sep σ0 σ' ((t,.cells ((nodeCells x).map .pv) (some 50)) :: L)->KS (.addr t 0) σ'):allocD PS σ 50 fun t σ1=>storeD PS σ1 50 t (nodeAV x) fun σ2=>KS t σ2:=by
  refine alloc_of T.zo50 rfl (fun t ht=>?_)
  have hS1:=hS.alloc ht (.cells [.pv (.str []),.pv (.str []),.nilS] (some 50))
  have hg:(σ.set t (.cells [.pv (.str []),.pv (.str []),.nilS] (some 50))) t=some (.cells [.pv (.str []),.pv (.str []),.nilS] (some 50)):=set_same _ _ _
  rw [storeD]
  simp only [hg]
  refine ⟨T.hT50,by rw [T.sz50]; exact node_len _,node_ok _,by rw [node_len]; exact Nat.le_refl _,?_⟩
  have e1:setAll [.pv (.str []),.pv (.str []),.nilS] 0 (nodeAV x).cells=(nodeCells x).map .pv:=by rw [nodeCellsD,nodeCells_eq]; rfl
  rw [e1]
  exact h t _ (hS1.set1 _)
theorem var_W {w:WhereS} {KS:AV->AS->Prop} (hS:Sep σ0 σ L) (h:∀ t σ',Sep σ0 σ' ((t,.cells [.pv (.bool w.next),.pv (.bool w.result),.pv (.bool w.loop)] (some 89)) :: L)->KS (.addr t 0) σ'):allocD PS σ 89 fun t σ1=>storeD PS σ1 89 t (whereAV w) fun σ2=>KS t σ2:=by
  refine alloc_of T.zo89 rfl (fun t ht=>?_)
  have hS1:=hS.alloc ht (.cells [.pv (.bool false),.pv (.bool false),.pv (.bool false)] (some 89))
  have hg:(σ.set t (.cells [.pv (.bool false),.pv (.bool false),.pv (.bool false)] (some 89))) t=some (.cells [.pv (.bool false),.pv (.bool false),.pv (.bool false)] (some 89)):=set_same _ _ _
  rw [storeD]
  simp only [hg]
  refine ⟨T.hT89,by rw [T.sz89]; rfl,rfl,Nat.le_refl _,?_⟩
  exact h t _ (hS1.set1 _)
theorem box_W {w:WhereS} {KS:AV->AS->Prop} (hS:Sep σ0 σ L) (h:∀ t σ',Sep σ0 σ' ((t,.cells [.pv (.bool w.next),.pv (.bool w.result),.pv (.bool w.loop)] none) :: L)->KS (.addr t 0) σ'):boxD σ (whereAV w) KS :=
  ⟨rfl,fun t ht=>h t _ (hS.alloc ht _)⟩
theorem fines_at {kids:List NTree} {i:Nat} {lp:Int} {d:Nat} {w:WhereS} (hi:i < kids.length):finesS (kids.drop i) i lp d w=if fineS kids[i] (d + 1) { w with loop:=w.loop || decide ((i:Int)=lp) }=true then finesS (kids.drop (i + 1)) (i + 1) lp d w else false:=by
  rw [List.drop_eq_getElem_cons hi,finesS]
theorem T_yFine_ok {m:Nat} (h1:env 86=T_yBuilt) (h2:env 87=T_yLooped) (h3:env 38=T_yFine m) (h:T_yFine (m + 1) args σ K X):bodyD PS env an38 Tryz.f38 args σ K X:=by
  obtain ⟨n,d,w,rfl,hok,hm,hd,hK⟩:=h
  rw [<- S38_eq env,S38]
  simp only [lock_eq]
  refine box_N ?_
  intro t σ1 hS
  have hok2:=okN_kids hok
  refine box_W hS ?_
  intro t5 σ2 hS2
  have fin:∀ (b:Bool) (τ:AS),σ.sub τ->b=fineS n d w->retV (.pv (.bool b)) τ K:=by rintro _ τ hs rfl; exact retB hs hK
  have e0:fineS n d w=if 200 < d \/ headBad n w=true then false else finesS n.kids 0 (loopedS n) d w:=by cases n; rw [fineS]; rfl
  clear hK
  have j8:∀ τ,¬ (200 < d \/ headBad n w=true)->Sep σ τ [(t5,.cells [.pv (.bool w.next),.pv (.bool w.result),.pv (.bool w.loop)] none),(t,.cells [.pv (.str n.op),.pv (.str n.text),.pv (.lst n.kids.length (flatN n.kids))] none)]->J38_8 env (.pv (.int .i64 (d:Nat))) (.addr t 0) (.addr t5 0) τ K X:=by
    intro τ hc hS
    rw [e0,if_neg hc] at fin
    have hd2:d <= 200:=by
      rcases Nat.lt_or_ge 200 d with h | h
      · exact absurd (.inl h) hc
      · exact h
    unfold J38_8
    have hg:=hS.get (i:=t) (List.mem_cons_of_mem _ (List.mem_singleton.2 rfl))
    simp (disch:=omega) only [lock_eq,T.fa50_2,T.ld23,hg,ldM_cells,Nat.zero_add,List.getElem?_cons_zero,List.getElem?_cons_succ,someEx,T.lnl23]
    refine lp38_9 (fun (i:Nat) _=>n.kids.length - i) (fun i τ=>Sep σ τ [(t5,.cells [.pv (.bool w.next),.pv (.bool w.result),.pv (.bool w.loop)] none),(t,.cells [.pv (.str n.op),.pv (.str n.text),.pv (.lst n.kids.length (flatN n.kids))] none)]/\i <= n.kids.length/\finesS n.kids 0 (loopedS n) d w=finesS (n.kids.drop i) i (loopedS n) d w) (fun i=>.pv (.int .i64 ((i:Nat):Int))) 0 ⟨hS,Nat.zero_le _,rfl⟩ ?_
    clear hS hg
    rintro i τ ⟨hS,hi,hq⟩
    have hkl:=hok2.1
    unfold L38_9
    simp (disch:=omega) only [lock_eq,go_sem]
    refine iteI (fun g1=>?_) (fun g1=>?_)
    · have hld:∀ σ K,loadD PS σ 50 (.elemP (flatN n.kids) (i * 3)) K=K (nodeAV n.kids[i]):=by
        intro σ K
        rw [load_elemA T.hT50 T.ag50,T.sz50,flatN_get n.kids i g1]
        exact propext ⟨fun h=>h.2,fun h=>⟨by rw [flatN_len]; omega,h⟩⟩
      rw [fines_at g1] at hq
      have hokk:=okNs_mem hok2.2 i g1
      simp only [node_ix g1,hld]
      generalize n.kids[i]=k at hq hokk
      refine var_N hS (fun t8 σ3 hS=>?_)
      have hgw:=hS.get (i:=t5) (List.mem_cons_of_mem _ (List.mem_cons.2 (.inl rfl)))
      rw [ldW hgw]
      refine var_W hS (fun t9 σ4 hS=>?_)
      have hgw:=hS.get (i:=t5) (List.mem_cons_of_mem _ (List.mem_cons_of_mem _ (List.mem_cons.2 (.inl rfl))))
      have hgn:=hS.get (i:=t) (List.mem_cons_of_mem _ (List.mem_cons_of_mem _ (List.mem_cons_of_mem _ (List.mem_singleton.2 rfl))))
      have hgn':σ4 t=some (.cells ((nodeCells n).map .pv) none):=by rw [hgn,nodeCells_eq]; rfl
      have hg9:=hS.get (i:=t9) (List.mem_cons.2 (.inl rfl))
      have j13:∀ (τ:AS) (b:Bool),b=(w.loop || decide ((i:Int)=loopedS n))->Sep σ τ [(t9,.cells [.pv (.bool w.next),.pv (.bool w.result),.pv (.bool b)] (some 89)),(t8,.cells ((nodeCells k).map .pv) (some 50)),(t5,.cells [.pv (.bool w.next),.pv (.bool w.result),.pv (.bool w.loop)] none),(t,.cells [.pv (.str n.op),.pv (.str n.text),.pv (.lst n.kids.length (flatN n.kids))] none)] ->
          J38_13 env (Inv (fun i:Nat=>[.pv (.int .i64 (d:Nat)),AV.addr t 0,.addr t5 0,.pv (.lst n.kids.length (flatN n.kids)),.pv (.int .i64 (n.kids.length:Nat)),.pv (.int .i64 ((i:Nat):Int))]) (fun (i:Nat) _=>n.kids.length - i) (fun i τ=>Sep σ τ [(t5,.cells [.pv (.bool w.next),.pv (.bool w.result),.pv (.bool w.loop)] none),(t,.cells [.pv (.str n.op),.pv (.str n.text),.pv (.lst n.kids.length (flatN n.kids))] none)]/\i <= n.kids.length/\finesS n.kids 0 (loopedS n) d w=finesS (n.kids.drop i) i (loopedS n) d w)) (n.kids.length - i) (.pv (.int .i64 (d:Nat))) (.addr t 0) (.addr t5 0) (.addr t8 0) (.addr t9 0) (.pv (.lst n.kids.length (flatN n.kids))) (.pv (.int .i64 (n.kids.length:Nat))) (.pv (.int .i64 (i:Nat))) τ K X:=by
        intro τ b hb hS
        unfold J38_13
        have hg8:=hS.get (i:=t8) (List.mem_cons_of_mem _ (List.mem_cons.2 (.inl rfl)))
        have hg9:=hS.get (i:=t9) (List.mem_cons.2 (.inl rfl))
        simp only [lock_eq]
        rw [ldN' hg8]
        simp (disch:=omega) only [bin_add,nAdd1,wrap64]
        rw [ldW (w:=⟨w.next,w.result,b⟩) hg9,h3]
        refine ⟨k,d + 1,⟨w.next,w.result,b⟩,rfl,hokk,by omega,by omega,?_⟩
        rw [hb]
        simp (disch:=omega) only [go_sem]
        refine iteI (fun g=>fin false τ hS.sub ?_) (fun g=>?_)
        · rw [hq,if_neg (by simpa using g)]
        · refine back (i + 1) rfl (by omega) ⟨hS.drop.drop,g1,?_⟩
          rw [hq,if_pos (by simpa using g)]
      simp only [T.fa89_2,T.ld4,hgw,hg9,ldM_cells,List.getElem?_cons_zero,List.getElem?_cons_succ,Nat.zero_add,someEx,guard_false,T.stp4,stM_cells,List.set_cons_zero,List.set_cons_succ,ldN' hgn']
      refine iteI (fun g2=>?_) (fun g2=>?_)
      · refine ⟨by simp,j13 _ true (by rw [g2]; rfl) ?_⟩
        exact hS.set1 _
      · rw [h2]
        refine ⟨n,rfl,?_⟩
        simp only [bin_eql,hg9,stM_cells,List.set_cons_zero,List.set_cons_succ,T.stp4]
        refine ⟨by simp,j13 _ _ (by rw [show w.loop=false by simpa using g2,Bool.false_or]) ?_⟩
        exact hS.set1 _
    · have e1:i=n.kids.length:=by omega
      subst e1
      rw [List.drop_length,finesS] at hq
      exact fin true τ hS.sub hq.symm
  have bad:∀ τ,σ.sub τ->(200 < d \/ headBad n w=true)->retV (.pv (.bool false)) τ K:=fun τ hs hc=>fin false τ hs (by rw [e0,if_pos hc])
  have hg:=hS2.get (i:=t) (List.mem_cons_of_mem _ (List.mem_singleton.2 rfl))
  have hgw:=hS2.get (i:=t5) (List.mem_cons.2 (.inl rfl))
  have hgn':σ2 t=some (.cells ((nodeCells n).map .pv) none):=by rw [hg,nodeCells_eq]; rfl
  have hs2:=hS2.sub
  have hb:headBad n w=(decide (n.op=oList) || (decide (n.op=oNext) && !w.next) || (decide (n.op=oReturn) && !w.result) || (decide (n.op=oBreak \/ n.op=oContinue) && !w.loop) || (decide (n.op=kBuilt) && !builtS n)):=rfl
  have j6:∀ b,¬ 200 < d->decide (n.op=oList)=false->(decide (n.op=oNext) && !w.next)=false->(decide (n.op=oReturn) && !w.result)=false->b=(decide (n.op=oBreak \/ n.op=oContinue) && !w.loop)->J38_6 env (.pv (.int .i64 (d:Nat))) (.addr t 0) (.addr t5 0) (.pv (.bool b)) σ2 K X:=by
    intro b h0 a1 a2 a3 hbq
    unfold J38_6
    simp only [lock_eq,cond_bool]
    refine iteI (fun g=>by rw [if_pos g]; exact bad σ2 hs2 (.inr (by rw [hb,a1,a2,a3,<- hbq,g]; rfl))) (fun g=>?_)
    have g:b=false:=by simpa using g
    have go:(decide (n.op=kBuilt) && !builtS n)=false->J38_8 env (.pv (.int .i64 (d:Nat))) (.addr t 0) (.addr t5 0) σ2 K X:=fun a5 =>
      j8 σ2 (fun h=>h.elim h0 (fun h=>by rw [hb,a1,a2,a3,<- hbq,g,a5] at h; exact absurd h (by decide))) hS2
    simp (disch:=omega) only [T.fa50_0,T.ld9,hg,ldM_cells,Nat.zero_add,List.getElem?_cons_zero,someEx,bin_seql,beqD,guard_true]
    refine iteI (fun g2=>?_) (fun g2=>?_)
    · rw [ldN' hgn',h1]
      refine ⟨n,rfl,hok2.1,?_⟩
      simp only [un_not,cond_bool]
      refine iteI (fun g3=>bad σ2 hs2 (.inr (by rw [hb,show decide (n.op=kBuilt)=true from g2,g3]; simp))) (fun g3=>?_)
      exact go (by rw [show (!builtS n)=false by simpa using g3,Bool.and_false])
    · exact go (by rw [show decide (n.op=kBuilt)=false from decide_eq_false (by simpa [kBuilt] using g2),Bool.false_and])
  have j5:∀ b,¬ 200 < d->decide (n.op=oList)=false->(decide (n.op=oNext) && !w.next)=false->b=(decide (n.op=oReturn) && !w.result)->J38_5 env (.pv (.int .i64 (d:Nat))) (.addr t 0) (.addr t5 0) (.pv (.bool b)) σ2 K X:=by
    intro b h0 a1 a2 hbq
    unfold J38_5
    simp only [lock_eq,cond_bool]
    refine iteI (fun g=>by rw [if_pos g]; exact bad σ2 hs2 (.inr (by rw [hb,a1,a2,<- hbq,g]; rfl))) (fun g=>?_)
    have g:b=false:=by simpa using g
    rw [g] at hbq
    simp (disch:=omega) only [T.fa50_0,T.ld9,hg,ldM_cells,Nat.zero_add,List.getElem?_cons_zero,someEx,bin_seql,beqD,guard_true,guard_false,T.fa89_2,T.ld4,hgw,List.getElem?_cons_succ,un_not]
    refine iteI (fun g2=>?_) (fun g2=>?_)
    · exact j6 _ h0 a1 a2 hbq.symm (by rw [decide_eq_true (show n.op=oBreak \/ n.op=oContinue from .inl (of_decide_eq_true g2)),Bool.true_and])
    · refine iteI (fun g3=>?_) (fun g3=>?_)
      · exact j6 _ h0 a1 a2 hbq.symm (by rw [decide_eq_true (show n.op=oBreak \/ n.op=oContinue from .inr (of_decide_eq_true g3)),Bool.true_and])
      · exact j6 _ h0 a1 a2 hbq.symm (by rw [decide_eq_false (show ¬ (n.op=oBreak \/ n.op=oContinue) from fun h=>h.elim (fun h=>g2 (decide_eq_true h)) (fun h=>g3 (decide_eq_true h))),Bool.false_and])
  have j4:∀ b,¬ 200 < d->decide (n.op=oList)=false->b=(decide (n.op=oNext) && !w.next)->J38_4 env (.pv (.int .i64 (d:Nat))) (.addr t 0) (.addr t5 0) (.pv (.bool b)) σ2 K X:=by
    intro b h0 a1 hbq
    unfold J38_4
    simp only [lock_eq,cond_bool]
    refine iteI (fun g=>by rw [if_pos g]; exact bad σ2 hs2 (.inr (by rw [hb,a1,<- hbq,g]; rfl))) (fun g=>?_)
    have g:b=false:=by simpa using g
    rw [g] at hbq
    simp (disch:=omega) only [T.fa50_0,T.ld9,hg,ldM_cells,Nat.zero_add,List.getElem?_cons_zero,someEx,bin_seql,beqD,guard_true,T.fa89_1,T.ld4,hgw,List.getElem?_cons_succ,un_not]
    refine iteI (fun g2=>?_) (fun g2=>?_)
    · exact j5 _ h0 a1 hbq.symm (by rw [show decide (n.op=oReturn)=true from g2,Bool.true_and])
    · exact j5 _ h0 a1 hbq.symm (by rw [show decide (n.op=oReturn)=false from decide_eq_false (by simpa [oReturn] using g2),Bool.false_and])
  simp (disch:=omega) only [go_sem]
  refine iteI (fun g=>by rw [if_pos g]; exact bad σ2 hs2 (.inl g)) (fun h0=>?_)
  simp (disch:=omega) only [T.fa50_0,T.ld9,hg,ldM_cells,Nat.zero_add,List.getElem?_cons_zero,someEx,bin_seql,beqD,cond_bool,guard_true,T.fa89_0,T.ld4,hgw,un_not]
  refine iteI (fun g=>by rw [if_pos g]; exact bad σ2 hs2 (.inr (by rw [hb,show decide (n.op=oList)=true from g]; rfl))) (fun g1=>?_)
  have a1:decide (n.op=oList)=false:=decide_eq_false (by simpa [oList] using g1)
  refine iteI (fun g2=>?_) (fun g2=>?_)
  · exact j4 _ h0 a1 (by rw [show decide (n.op=oNext)=true from g2,Bool.true_and])
  · exact j4 _ h0 a1 (by rw [show decide (n.op=oNext)=false from decide_eq_false (by simpa [oNext] using g2),Bool.false_and])
end
end Go.AD.Lx
