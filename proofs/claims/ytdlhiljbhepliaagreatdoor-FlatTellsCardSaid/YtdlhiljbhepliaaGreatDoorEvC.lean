/-
From a program's text to the small language (definitions alone): what can't be said in it is refused. No program is named here.
-/
import Derived.Test.YtdlhiljbhepliaaGreatDoorEvA
import GoSem.Core.Lib
import GoSem.Core.Code
import GoSem.Extern.Table
set_option linter.all false
namespace Go.Proofs.YtdlhiljbhepliaaGreatDoor.Ev
noncomputable section
open Go
def qGb:Value→Option AV
 | .bool x=>some (.b x)
 | .int k n=>some (.i k n)
 | .string s=>jOd s.data.toList.length (zQ s.data.toList)
 | .pointer none=>some .p0
 | .slice none 0 0=>some .sl0
 | .nilFunc=>some .f0
 | .nilIface=>some .ni
 | _=>none
def jZx:List Value→Option (List AV)
 | []=>some []
 | v::r=>match qGb v,jZx r with | some x,some l=>some (x::l) | _,_=>none
def qKu:Value→Option AV
 | .agg cs=>match jZx cs.toList with | some l=>some (.agg l) | none=>none
 | v=>qGb v
def xOf:Operand→Option X
 | .tmp t=>some (.t t)
 | .const v=>match qKu v with | some x=>some (.k x) | none=>none
 | .func f=>some (.k (.f f [] []))
 | .global _=>none
def jGh:List Operand→Option (List X)
 | []=>some []
 | x::r=>match xOf x,jGh r with | some x,some l=>some (x::l) | _,_=>none
def jZt:Option Operand→Option (Option X)
 | none=>some none
 | some x=>match xOf x with | some x=>some (some x) | none=>none
section
variable (P:Program)
def rF (e:Nat):Option (List AV):=match P.info? e with
 | some i=>match i.zero with
  | some z=>jZx z.cells.toList
  | none=>none
 | none=>none
def kF (t:Nat):Option Nat:=match P.info? t with | some i=>some i.size | none=>none
def qAa (t:Nat):Option Bool:=match P.underlying t with
 | some (.struct _)=>some true
 | some (.array _ _)=>some true
 | some _=>some false
 | none=>none
def jCm (t:Nat):Option (Option Nat):=match qAa P t,kF P t with
 | some true,some n=>some (some n)
 | some false,some _=>some none
 | _,_=>none
def iG (fs:List Field):List (Nat×Operand)→Option (List (Nat×Nat×X))
 | []=>some []
 | (i,x)::r=>match fs[i]? with
  | some f=>match kF P f.type,xOf x,iG fs r with | some n,some x,some l=>some ((f.offset,n,x)::l) | _,_,_=>none
  | none=>none
def mT (sz:Nat):List (Nat×Operand)→Option (List (Nat×Nat×X))
 | []=>some []
 | (i,x)::r=>match xOf x,mT sz r with | some x,some l=>some ((i*sz,sz,x)::l) | _,_=>none
def iR (fs:List Field):Bool:=fs.all fun f=>(kF P f.type).isSome
def jDs (t:Nat):Bool:=match P.underlying t with | some .bool=>true | some (.int _)=>true | some .string=>true | _=>false
def qLm (f:FuncId):Bool:=match P.funcs[f]? with
 | some fn=>fn.params.toList.all (jDs P)&&fn.resultTypes.toList.all (jDs P)
 | none=>false
def jXx (g:Bool) (op:BinOp) (t:Nat) (x y:X):Option C:=match P.underlying t with
 | some .bool=>some (.be g x y)
 | some (.pointer _)=>none
 | some (.interface _)=>none
 | some (.slice _)=>none
 | some (.struct _)=>none
 | _=>some (.bi op x y)
def qGu (o:Oper):Bool:=o.guard.isNone&&(match o.op with
 | .alloc _=>true | .move _=>true | .build .. => true | .store .. => true | _=>false)
def rM:Code→Bool
 | .region _ ops d => !d&&ops.toList.all qGu
 | .seq a b=>rM a&&rM b
 | .ret=>true
 | .skip=>true
 | .scope c=>rM c
 | _=>false
def jZh (ts:List TypeId):Bool:=match ts with
 | [t]=>(match P.underlying t with | some (.struct _)=>true | _=>false)
 | _=>false
def jXn (f:FuncId):Bool:=match P.funcs[f]? with
 | some fn=>(match fn.body with | some b=>rM b&&jZh P fn.resultTypes.toList | none=>false)
 | none=>false
def jQz (f:FuncId) (xs:List X):Option C:=
 if qLm P f then some (.cp f xs) else if jXn P f then some (.cq f xs) else some (.cf f xs)
def yH (o:Oper):Option C:=match o.op with
 | .move x=>match xOf x with | some x=>some (.mv x) | _=>none
 | .assign x=>match xOf x with | some x=>some (.mv x) | _=>none
 | .pick c a b=>match xOf c,xOf a,xOf b with | some c,some a,some b=>some (.pick c a b) | _,_,_=>none
 | .alloc e=>match rF P e with | some z=>some (.al e z) | none=>none
 | .box e x=>match xOf x with | some x=>some (.bx e x) | none=>none
 | .build t ps=>match rF P t,P.underlying t with
  | some z,some (.struct fs)=>if iR P fs.toList then (match iG P fs.toList ps.toList with | some ps=>some (.bd z ps) | none=>none) else none
  | some z,some (.array _ e)=>match kF P e with
   | some n=>match mT n ps.toList with | some ps=>some (.bd z ps) | none=>none
   | none=>none
  | _,_=>none
 | .buildSlice t len ps=>match P.underlying t with
  | some (.slice e)=>match kF P e,rF P e with
   | some n,some z=>if Nat.ble (len*n) 16777216&&xL n z&&Nat.blt 0 n then (match mT n ps.toList with | some ps=>some (.bs e n (jFa z len) len ps) | none=>none) else none
   | _,_=>none
  | _=>none
 | .load t a=>match jCm P t,xOf a with | some n,some a=>some (.ld n a) | _,_=>none
 | .store t a x=>match kF P t,xOf a,xOf x with | some n,some a,some x=>some (.st n a x) | _,_,_=>none
 | .nilCheck x=>match xOf x with | some x=>some (.nc x) | none=>none
 | .binOp op t x y _=>match xOf x,xOf y with
  | some x,some y=>(match op with
   | .eql=>jXx P false op t x y
   | .neq=>jXx P true op t x y
   | _=>some (.bi op x y))
  | _,_=>none
 | .unOp op _ x=>match xOf x with | some x=>some (.un op x) | none=>none
 | .convert src dst x=>match P.underlying src,P.underlying dst,xOf x with
  | some (.int _),some (.int k),some x=>some (.ci k x)
  | some (.slice e),some .string,some x=>(match P.underlying e with | some (.int .u8)=>some (.bt x) | _=>none)
  | _,_,_=>none
 | .makeFunc (.func f) a b=>match jGh a.toList,jGh b.toList with | some a,some b=>some (.mf f a b) | _,_=>none
 | .slice t x lo hi none=>match P.underlying t,xOf x,jZt lo,jZt hi with
  | some .string,some x,some lo,some hi=>some (.ss x lo hi)
  | some (.slice e),some x,some lo,some hi=>(match kF P e with | some n=>some (.sl n x lo hi) | none=>none)
  | _,_,_,_=>none
 | .fieldAddr s x f=>match P.underlying s,xOf x with
  | some (.struct fs),some x=>(match fs[f]? with
   | some f=>(match kF P f.type with | some n=>if Nat.beq n 0 then none else some (.fa f.offset x) | none=>none)
   | none=>none)
  | _,_=>none
 | .indexAddr t x i=>match P.underlying t,xOf x,xOf i with
  | some (.slice e),some x,some i=>(match kF P e with | some n=>some (.ia n x i) | none=>none)
  | _,_,_=>none
 | .index t x i=>match P.underlying t,xOf x,xOf i with
  | some .string,some x,some i=>some (.ix x i)
  | _,_,_=>none
 | .extract x i=>match xOf x with | some x=>some (.ex i x) | none=>none
 | .call c=>match c.callee with
  | .value (.func f)=>(match jGh c.args.toList with | some xs=>jQz P f xs | none=>none)
  | .value x=>(match xOf x,jGh c.args.toList with | some x,some xs=>some (.cv x xs) | _,_=>none)
  | .invoke _ _=>none
  | .builtin .len=>(match c.argTypes.toList,c.args.toList with
   | [t],[x]=>(match P.underlying t,xOf x with
    | some .string,some x=>some (.ln x)
    | some (.slice _),some x=>some (.lm x)
    | _,_=>none)
   | _,_=>none)
  | .builtin .append=>(match c.argTypes.toList,c.args.toList with
   | [t,t'],[s,x]=>if Nat.beq t t' then (match P.underlying t with
    | some (.slice e)=>(match P.info? e,rF P e,xOf s,xOf x with
     | some i,some z,some s,some x=>if xL i.size z&&Nat.blt 0 i.size then some (.ap e i.size i.bytes s x) else none
     | _,_,_,_=>none)
    | _=>none) else none
   | _,_=>none)
  | .builtin .max=>(match c.args.toList with
   | [x,y]=>(match xOf x,xOf y with | some x,some y=>some (.mx x y) | _,_=>none)
   | _=>none)
  | .builtin .min=>(match c.args.toList with
   | [x,y]=>(match xOf x,xOf y with | some x,some y=>some (.mn x y) | _,_=>none)
   | _=>none)
  | _=>none
 | _=>none
def cOp (o:Oper):C:=(yH P o).getD .no
def jKg (ops:Array Oper):Option (Nat×Bool)→Option (Option (Nat×Bool))
 | none=>some none
 | some (j,w)=>match ops[j]? with
  | some o=>match o.dst with | some d=>some (some (d,w)) | none=>none
  | none=>none
def aY (nt:Nat):Option Nat→Bool
 | none=>true
 | some d=>Nat.blt d nt&&Nat.blt d 1000000000
def jMp (nt:Nat) (ops:Array Oper) (o:Oper):Option O:=match jKg ops o.guard with
 | some g=>if aY nt o.dst then some ⟨o.dst,g,cOp P o,none⟩ else none
 | none=>none
def tQ (nt:Nat) (ops:Array Oper):List Oper→Option (List O)
 | []=>some []
 | o::r=>match jMp P nt ops o,tQ nt ops r with | some x,some l=>some (x::l) | _,_=>none
def X.tm:X→List Nat
 | .t n=>[n]
 | .k _=>[]
def tms:List X→List Nat
 | []=>[]
 | x::r=>x.tm++tms r
def xo:Option X→List X
 | none=>[]
 | some x=>[x]
def C.xs:C→List X
 | .mv x=>[x]
 | .pick a b c=>[a,b,c]
 | .al _ _=>[]
 | .bx _ x=>[x]
 | .bd _ ps=>ps.map (·.2.2)
 | .bs _ _ _ _ ps=>ps.map (·.2.2)
 | .ld _ x=>[x]
 | .st _ a x=>[a,x]
 | .nc x=>[x]
 | .bi _ x y=>[x,y]
 | .be _ x y=>[x,y]
 | .un _ x=>[x]
 | .ci _ x=>[x]
 | .bt x=>[x]
 | .mf _ a b=>a++b
 | .ss x lo hi=>x::(xo lo++xo hi)
 | .sl _ x lo hi=>x::(xo lo++xo hi)
 | .fa _ x=>[x]
 | .ia _ x i=>[x,i]
 | .ix x i=>[x,i]
 | .ex _ x=>[x]
 | .cf _ xs=>xs
 | .cp _ xs=>xs
 | .cv x xs=>x::xs
 | .ap _ _ _ s x=>[s,x]
 | .ln x=>[x]
 | .lm x=>[x]
 | .mx x y=>[x,y]
 | .mn x y=>[x,y]
 | .id1 x=>[x]
 | .cq _ xs=>xs
 | .no=>[]
def gtm:Option (Nat×Bool)→List Nat
 | none=>[]
 | some (t,_)=>[t]
def O.looks (o:O):List Nat:=gtm o.g++tms o.c.xs
def O.names (o:O):List Nat:=o.d.toList++o.looks
def nX:List Oper→List Nat→List Nat
 | [],acc=>acc
 | o::r,acc=>nX r (acc++[o.after.toList.foldl (fun s e=>if Region.binds .any e then s ||| 2^e.on ||| acc.getD e.on 0 else s) 0])
def jBg:List Oper→Nat→Bool
 | [],_=>true
 | o::r,k=>(o.after.toList.all fun e => !Region.binds .any e||Nat.blt e.on k)&&jBg r (k+1)
def bit (m k:Nat):Bool:=Nat.testBit m k
def oM (x y:O) (waits:Bool):Bool:=
 waits||(!(x.c.acts&&y.c.acts)&&(match x.d with | some d => !y.names.contains d | none=>true)&&(match y.d with | some d => !x.names.contains d | none=>true))
def jBb (x:O) (m:Nat):List O→Nat→Bool
 | [],_=>true
 | y::r,k=>oM y x (bit m k)&&jBb x m r (k+1)
def bQ:List O→List O→List Nat→Bool
 | _,[],[]=>true
 | seen,x::r,m::ms=>jBb x m seen 0&&bQ (seen++[x]) r ms
 | _,_,_=>false
def jYn (m:Nat):List O→Nat→Nat
 | [],_=>0
 | y::r,k=>(if y.c.acts&&bit m k then 1 else 0)+jYn m r (k+1)
def jYi (i:Nat):List O→List Nat→Nat
 | y::r,m::ms=>(if y.c.acts && !bit m i then 1 else 0)+jYi i r ms
 | _,_=>0
def aI (all:List O) (ms:List Nat):List O→List Nat→Nat→List O
 | x::r,m::mr,k=>(if x.c.reads then { x with rd:=some (jYn m all 0,jYi k all ms) } else x)::aI all ms r mr (k+1)
 | _,_,_=>[]
def qAl (nt:Nat) (ops:Array Oper):Option (List O):=
 match tQ P nt ops ops.toList with
 | none=>none
 | some l=>let ms:=nX ops.toList []
  if jBg ops.toList 0&&bQ [] l ms&&Nat.ble nt 1000000000 then some (aI l ms l ms 0) else none
def wQ (nt:Nat):Code→Option K
 | .skip=>some .skip
 | .region _ ops false=>match tQ P nt ops ops.toList with | some l=>some (.reg l) | none=>some .no
 | .region _ ops true=>match qAl P nt ops with | some l=>some (.dreg l) | none=>some .no
 | .seq a b=>match wQ nt a,wQ nt b with | some a,some b=>some (.seq a b) | _,_=>none
 | .cond c a b=>match xOf c,wQ nt a,wQ nt b with | some c,some a,some b=>some (.cond c a b) | _,_,_=>some .no
 | .block id c=>match wQ nt c with | some c=>some (.block id c) | none=>none
 | .loop c=>match wQ nt c with | some c=>some (.loop c) | none=>none
 | .exit id=>some (.exit id)
 | .ret=>some .ret
 | .scope c=>wQ nt c
 | .label _=>some .skip
 | _=>some .no
def jXo:List ResultVar→Option (List RV0)
 | []=>some []
 | .tmp t::r=>match jXo r with | some l=>some (.t t::l) | none=>none
 | .cell a t::r=>match jCm P t,jXo r with | some n,some l=>some (.c a n::l) | _,_=>none
def qKa (fn:Func):Option F:=
 if fn.name == "runtime.NumGoroutine" then none else if Nat.blt 1000000000 fn.ntmps then none else
 match fn.body,jXo P fn.results.toList with
 | some b,some r=>match wQ P fn.ntmps b with
  | some k=>some ⟨fn.ntmps,r,k⟩
  | none=>none
 | _,_=>none
def jDm (f:Nat):Option F:=match P.funcs[f]? with | some fn=>qKa P fn | none=>none
end
end
end Go.Proofs.YtdlhiljbhepliaaGreatDoor.Ev
