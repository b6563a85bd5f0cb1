/-
From a program's text to the small language (definitions alone): what can't be said in it is refused. No program is named here.
-/
import Derived.Test.YtngfdcnglojcaaaGreatDoorEvA
import GoSem.Core.Lib
import GoSem.Core.Code
import GoSem.Extern.Table
set_option linter.all false
namespace Go.Proofs.YtngfdcnglojcaaaGreatDoor.Ev
noncomputable section
open Go
def jWn:Value→Option AV
 | .bool x=>some (.b x)
 | .int k n=>some (.i k n)
 | .string s=>jFj s.data.toList.length (qF s.data.toList)
 | .pointer none=>some .p0
 | .slice none 0 0=>some .sl0
 | .nilFunc=>some .f0
 | .nilIface=>some .ni
 | .map none=>some (.mp 0)
 | _=>none
def jWo:List Value→Option (List AV)
 | []=>some []
 | v::r=>match jWn v,jWo r with | some x,some l=>some (x::l) | _,_=>none
def qCg:Value→Option AV
 | .agg cs=>match jWo cs.toList with | some l=>some (.agg l) | none=>none
 | v=>jWn v
def xOf:Operand→Option X
 | .tmp t=>some (.t t)
 | .const v=>match qCg v with | some x=>some (.k x) | none=>none
 | .func f=>some (.k (.f f [] []))
 | .global _=>none
def aN:List Operand→Option (List X)
 | []=>some []
 | x::r=>match xOf x,aN r with | some x,some l=>some (x::l) | _,_=>none
def jWk:Option Operand→Option (Option X)
 | none=>some none
 | some x=>match xOf x with | some x=>some (some x) | none=>none
section
variable (P:Program)
def bA (e:Nat):Option (List AV):=match P.info? e with
 | some i=>match i.zero with
  | some z=>jWo z.cells.toList
  | none=>none
 | none=>none
def qCe (e:Nat):Option AV:=match P.info? e with
 | some i=>match i.zero with
  | some z=>jWn z
  | none=>none
 | none=>none
def qGf (e:Nat):Option AV:=match P.info? e with
 | some i=>match i.zero with
  | some z=>qCg z
  | none=>none
 | none=>none
def xJ (t:Nat):Option Nat:=match P.info? t with | some i=>some i.size | none=>none
def jJl (t:Nat):Option Bool:=match P.underlying t with
 | some (.struct _)=>some true
 | some (.array _ _)=>some true
 | some _=>some false
 | none=>none
def dT (t:Nat):Option (Option Nat):=match jJl P t,xJ P t with
 | some true,some n=>some (some n)
 | some false,some _=>some none
 | _,_=>none
def hZ (fs:List Field):List (Nat×Operand)→Option (List (Nat×Nat×X))
 | []=>some []
 | (i,x)::r=>match fs[i]? with
  | some f=>match xJ P f.type,xOf x,hZ fs r with | some n,some x,some l=>some ((f.offset,n,x)::l) | _,_,_=>none
  | none=>none
def dE (sz:Nat):List (Nat×Operand)→Option (List (Nat×Nat×X))
 | []=>some []
 | (i,x)::r=>match xOf x,dE sz r with | some x,some l=>some ((i*sz,sz,x)::l) | _,_=>none
def aG (fs:List Field):Bool:=fs.all fun f=>(xJ P f.type).isSome
def jBm (t:Nat):Bool:=match P.underlying t with | some .bool=>true | some (.int _)=>true | some .string=>true | _=>false
def qHa (f:FuncId):Bool:=match P.funcs[f]? with
 | some fn=>fn.params.toList.all (jBm P)&&fn.resultTypes.toList.all (jBm P)
 | none=>false
def jRu (t:Nat):Option Nat:=match P.underlying t with | some .bool=>some 0 | some (.int _)=>some 1 | some .string=>some 2 | _=>none
def jSx:List Field→Option (List (Nat×Nat))
 | []=>some []
 | f :: r => if f.name == "_" then none else match jRu P f.type, jSx r with | some k, some l => some ((f.offset, k) :: l) | _, _ => none
def jUu (g:Bool) (op:BinOp) (t:Nat) (x y:X):Option C:=match P.underlying t with
 | some .bool=>some (.be g x y)
 | some (.pointer e)=>(match xJ P e with | some n=>if Nat.beq n 0 then none else some (.pe g x y) | none=>none)
 | some (.interface _)=>(match y with | .k .ni=>some (.ie g x y) | _=>none)
 | some (.slice _)=>(match y with | .k .sl0=>some (.ie g x y) | _=>none)
 | some (.struct fs)=>if P.stoodInHeld t||P.eqGuardType P.depth t then none else (match jSx P fs.toList with | some l=>some (.se g l x y) | none=>none)
 | _=>some (.bi op x y)
def lG (s:String) (f:FuncId):Bool:=match P.funcs[f]? with
 | some fn=>fn.name==s&&fn.body.isNone&&(Extern.findNext fn).isNone
 | none=>false
def jCn (f:FuncId):Option Nat:=match P.funcs[f]? with
 | some fn=>(match fn.resultTypes.toList with
  | [t]=>(match P.underlying t with
   | some (.slice e)=>(match xJ P e with | some 1=>some e | _=>none)
   | _=>none)
  | _=>none)
 | none=>none
def qDd (o:Oper):Bool:=o.guard.isNone&&(match o.op with
 | .alloc _=>true | .move _=>true | .build .. => true | .store .. => true | _=>false)
def nB:Code→Bool
 | .region _ ops d => !d&&ops.toList.all qDd
 | .seq a b=>nB a&&nB b
 | .ret=>true
 | .skip=>true
 | .scope c=>nB c
 | _=>false
def jWe (ts:List TypeId):Bool:=match ts with
 | [t]=>(match P.underlying t with | some (.struct _)=>true | _=>false)
 | _=>false
def jUl (f:FuncId):Bool:=match P.funcs[f]? with
 | some fn=>(match fn.body with | some b=>nB b&&jWe P fn.resultTypes.toList | none=>false)
 | none=>false
def qHb (u e:Nat):Bool:=Nat.beq e u||(match P.underlying e with | some (.struct fs)=>(match fs[0]? with | some f=>Nat.beq f.type u | none=>false) | _=>false)
def qHq (u e:Nat):Bool:=qHb P u e && !Nat.beq (P.cellsOf e) 0&&liesAt P P.depth e 1 0 u 1
def pfT (u:Nat):List (Nat×Nat):=((List.range P.types.size).filter (qHq P u)).map fun e=>(e,P.cellsOf e)
def jHg (f:FuncId) (xs:List X):Option C:=
 if lG P "internal/abi.NoEscape" f then (match xs with | [x] => some (.id1 x) | _ => none)
 else if lG P "internal/bytealg.IndexByteString" f then (match xs with | [x, y] => some (.xi x y) | _ => none)
 else if lG P "internal/bytealg.CountString" f then (match xs with | [x, y] => some (.xc x y) | _ => none)
 else if lG P "internal/bytealg.MakeNoZero" f then (match xs, jCn P f with | [x], some e => some (.mz e x) | _, _ => none)
 else if qHa P f then some (.cp f xs) else if jUl P f then some (.cq f xs) else some (.cf f xs)
def jWy (e:Nat):Bool:=match P.info? e with
 | some i=>Nat.beq i.size 1&&Nat.beq i.bytes 1&&(match i.zero with | some (.int .u8 0)=>true | _=>false)
 | none=>false
def aV (t:Nat) (sized:Nat→C):Option C:=match xJ P t with
 | some n=>if Nat.beq n 0 then none else some (sized n)
 | none=>none
def jOk:Option Operand→Bool
 | none=>true
 | some (.const (.int _ _))=>true
 | _=>false
def jSc (m:String) (t:Nat):Option Nat:=match P.info? t with
 | some i=>(match i.methods.find? (·.name==m) with
  | some r=>if r.path.isEmpty then (match r.func with
   | some (f,pr)=>(match P.underlying t,pr with
    | some (.pointer _),true=>some f
    | some (.pointer _),false=>none
    | some _,false=>some f
    | _,_=>none)
   | none=>none) else none
  | none=>none)
 | none=>none
def jLh (m:String):List Nat→List (Nat×Nat)
 | []=>[]
 | t::r=>match jSc P m t with | some f=>(t,f)::jLh m r | none=>jLh m r
def qLl (m:String):List (Nat×Nat):=jLh P m (List.range P.types.size)
def qO (o:Oper):Option C:=match o.op with
 | .move x=>match xOf x with | some x=>some (.mv x) | _=>none
 | .assign x=>match xOf x with | some x=>some (.mv x) | _=>none
 | .pick c a b=>match xOf c,xOf a,xOf b with | some c,some a,some b=>some (.pick c a b) | _,_,_=>none
 | .alloc e=>match bA P e with | some z=>some (.al e z) | none=>none
 | .box e x=>match xOf x with | some x=>some (.bx e x) | none=>none
 | .build t ps=>match bA P t,P.underlying t with
  | some z,some (.struct fs)=>if aG P fs.toList then (match hZ P fs.toList ps.toList with | some ps=>some (.bd z ps) | none=>none) else none
  | some z,some (.array _ e)=>match xJ P e with
   | some n=>match dE n ps.toList with | some ps=>some (.bd z ps) | none=>none
   | none=>none
  | _,_=>none
 | .buildSlice t len ps=>match P.underlying t with
  | some (.slice e)=>match xJ P e,bA P e with
   | some n,some z=>if Nat.ble (len*n) 16777216&&zD n z&&Nat.blt 0 n then (match dE n ps.toList with | some ps=>some (.bs e n (sJ z len) len ps) | none=>none) else none
   | _,_=>none
  | _=>none
 | .load t a=>match dT P t,xOf a with | some n,some a=>some (.ld n a) | _,_=>none
 | .store t a x=>match xJ P t,xOf a,xOf x with | some n,some a,some x=>some (.st n a x) | _,_,_=>none
 | .nilCheck x=>match xOf x with | some x=>some (.nc x) | none=>none
 | .binOp op t x y _=>match xOf x,xOf y with
  | some x,some y=>(match op with
   | .eql=>jUu P false op t x y
   | .neq=>jUu P true op t x y
   | _=>some (.bi op x y))
  | _,_=>none
 | .unOp op _ x=>match xOf x with | some x=>some (.un op x) | none=>none
 | .convert src dst x=>match P.underlying src,P.underlying dst,xOf x with
  | some (.int _),some (.int k),some x=>some (.ci k x)
  | some (.int _),some .string,some x=>some (.is x)
  | some .string,some .string,some x=>some (.cs x)
  | some .string,some (.slice e),some x=>(match P.underlying e with | some (.int .u8)=>some (.sb e x) | _=>none)
  | some (.slice _),some (.slice e),some x=>(match P.underlying e with | some (.int .u8)=>if Nat.beq src dst then some (.sm x) else none | _=>none)
  | some (.slice e),some .string,some x=>(match P.underlying e with | some (.int .u8)=>some (.bt x) | _=>none)
  | some (.pointer t),some .unsafePointer,some x=>aV P t fun _=>.pu x
  | some .unsafePointer,some (.pointer u),some x=>aV P u fun _=>.pf (pfT P u) x
  | _,_,_=>none
 | .makeFunc (.func f) a b=>match aN a.toList,aN b.toList with | some a,some b=>some (.mf f a b) | _,_=>none
 | .slice t x lo hi none=>match P.underlying t,xOf x,jWk lo,jWk hi with
  | some .string,some x,some lo,some hi=>some (.ss x lo hi)
  | some (.slice e),some x,some lo,some hi=>(match xJ P e with | some n=>some (.sl n x lo hi) | none=>none)
  | _,_,_,_=>none
 | .makeSlice t x y=>match P.underlying t with
  | some (.slice e)=>(match P.info? e,bA P e,xOf x,xOf y with
   | some i,some z,some x,some y=>if Nat.blt 0 i.size&&zD i.size z then some (.mk e i.size i.bytes z x y) else none
   | _,_,_,_=>none)
  | _=>none
 | .makeMap t r=>if jOk r then (match P.underlying t with | some (.map _ _)=>some .mm | _=>none) else none
 | .lookup t x k ok=>match P.underlying t with
  | some (.map kt e)=>(match P.underlying kt,qCe P e,xOf x,xOf k with
   | some .string,some z,some x,some k=>some (.lk ok z x k)
   | _,_,_,_=>none)
  | _=>none
 | .mapUpdate t x k v=>match P.underlying t with
  | some (.map kt _)=>(match P.underlying kt,xOf x,xOf k,xOf v with
   | some .string,some x,some k,some v=>some (.mu x k v)
   | _,_,_,_=>none)
  | _=>none
 | .fieldAddr s x f=>match P.underlying s,xOf x with
  | some (.struct fs),some x=>(match fs[f]? with
   | some f=>(match xJ P f.type with | some n=>if Nat.beq n 0 then none else some (.fa f.offset x) | none=>none)
   | none=>none)
  | _,_=>none
 | .field s x f=>match P.underlying s,xOf x with
  | some (.struct fs),some x=>(match fs[f]? with
   | some f=>(match dT P f.type with | some n=>some (.fd f.offset n x) | none=>none)
   | none=>none)
  | _,_=>none
 | .indexAddr t x i=>match P.underlying t,xOf x,xOf i with
  | some (.slice e),some x,some i=>(match xJ P e with | some n=>some (.ia n x i) | none=>none)
  | some (.array len e),some x,some i=>(match xJ P e with | some n=>some (.iq len n x i) | none=>none)
  | _,_,_=>none
 | .index t x i=>match P.underlying t,xOf x,xOf i with
  | some .string,some x,some i=>some (.ix x i)
  | some (.array len e),some x,some i=>(match xJ P e,jJl P e with | some n,some g=>some (.iv len n g x i) | _,_=>none)
  | _,_,_=>none
 | .range t x=>match P.underlying t,xOf x with | some .string,some x=>some (.rg x) | _,_=>none
 | .next x true=>match xOf x with | some x=>some (.nx x) | none=>none
 | .makeInterface t x=>match P.underlying t,xOf x with
  | some (.interface _),_=>none
  | some _,some x=>some (.mi t x)
  | _,_=>none
 | .typeAssert x _ t false=>match P.underlying t,xOf x with
  | some (.interface _),_=>none
  | some _,some x=>some (.ta t x)
  | _,_=>none
 | .typeAssert x _ t true=>match P.underlying t,qGf P t,xOf x with
  | some (.interface _),_,_=>none
  | some _,some z,some x=>some (.tk t z x)
  | _,_,_=>none
 | .panic x=>match xOf x with | some x=>some (.pn x) | none=>none
 | .extract x i=>match xOf x with | some x=>some (.ex i x) | none=>none
 | .call c=>match c.callee with
  | .value (.func f)=>(match aN c.args.toList with | some xs=>jHg P f xs | none=>none)
  | .value x=>(match xOf x,aN c.args.toList with | some x,some xs=>some (.cv x xs) | _,_=>none)
  | .invoke x m=>(match xOf x,aN c.args.toList with | some x,some xs=>some (.ik (qLl P m) x xs) | _,_=>none)
  | .builtin .len=>(match c.argTypes.toList,c.args.toList with
   | [t],[x]=>(match P.underlying t,xOf x with
    | some .string,some x=>some (.ln x)
    | some (.slice _),some x=>some (.lm x)
    | _,_=>none)
   | _,_=>none)
  | .builtin .append=>(match c.argTypes.toList,c.args.toList with
   | [t,t'],[s,x]=>if Nat.beq t t' then (match P.underlying t with
    | some (.slice e)=>(match P.info? e,bA P e,xOf s,xOf x with
     | some i,some z,some s,some x=>if zD i.size z&&Nat.blt 0 i.size then some (.ap e i.size i.bytes s x) else none
     | _,_,_,_=>none)
    | _=>none) else (match P.underlying t,P.underlying t',xOf s,xOf x with
    | some (.slice e),some .string,some s,some x=>if jWy P e then some (.as_ e s x) else none
    | some (.slice e),some (.int _),some s,some x=>(match xJ P e with | some _=>some (.az s x) | none=>none)
    | _,_,_,_=>none)
   | _,_=>none)
  | .builtin .cap=>(match c.argTypes.toList,c.args.toList with
   | [t],[x]=>(match P.underlying t,xOf x with | some (.slice _),some x=>some (.cn x) | _,_=>none)
   | _,_=>none)
  | .builtin .copy=>(match c.argTypes.toList,c.args.toList with
   | [t,t'],[x,y]=>(match P.underlying t,P.underlying t',xOf x,xOf y with
    | some (.slice e),some (.slice _),some x,some y=>(match xJ P e with | some _=>some (.cy x y) | none=>none)
    | _,_,_,_=>none)
   | _,_=>none)
  | .builtin .unsafeSliceData=>(match c.args.toList with
   | [x]=>(match xOf x with | some x=>some (.sd x) | none=>none)
   | _=>none)
  | .builtin .unsafeString=>(match c.argTypes.toList,c.args.toList with
   | [t,_],[p,n]=>(match P.underlying t,xOf p,xOf n with
    | some (.pointer e),some p,some n=>(match xJ P e with | some 1=>some (.us e p n) | _=>none)
    | _,_,_=>none)
   | _,_=>none)
  | .builtin .max=>(match c.args.toList with
   | [x,y]=>(match xOf x,xOf y with | some x,some y=>some (.mx x y) | _,_=>none)
   | _=>none)
  | .builtin .min=>(match c.args.toList with
   | [x,y]=>(match xOf x,xOf y with | some x,some y=>some (.mn x y) | _,_=>none)
   | _=>none)
  | _=>none
 | _=>none
def cOp (o:Oper):C:=(qO P o).getD .no
def jHx (ops:Array Oper):Option (Nat×Bool)→Option (Option (Nat×Bool))
 | none=>some none
 | some (j,w)=>match ops[j]? with
  | some o=>match o.dst with | some d=>some (some (d,w)) | none=>none
  | none=>none
def tF (nt:Nat):Option Nat→Bool
 | none=>true
 | some d=>Nat.blt d nt&&Nat.blt d 1000000000
def jJy (nt:Nat) (ops:Array Oper) (o:Oper):Option O:=match jHx ops o.guard with
 | some g=>if tF nt o.dst then some ⟨o.dst,g,cOp P o,none⟩ else none
 | none=>none
def rQ (nt:Nat) (ops:Array Oper):List Oper→Option (List O)
 | []=>some []
 | o::r=>match jJy P nt ops o,rQ nt ops r with | some x,some l=>some (x::l) | _,_=>none
def X.tm:X→List Nat
 | .t n=>[n]
 | .k _=>[]
def tms:List X→List Nat
 | []=>[]
 | x::r=>x.tm++tms r
def xo:Option X→List X
 | none=>[]
 | some x=>[x]
def C.xs:C→List X
 | .mv x=>[x]
 | .pick a b c=>[a,b,c]
 | .al _ _=>[]
 | .bx _ x=>[x]
 | .bd _ ps=>ps.map (·.2.2)
 | .bs _ _ _ _ ps=>ps.map (·.2.2)
 | .ld _ x=>[x]
 | .st _ a x=>[a,x]
 | .nc x=>[x]
 | .bi _ x y=>[x,y]
 | .be _ x y=>[x,y]
 | .un _ x=>[x]
 | .ci _ x=>[x]
 | .sb _ x=>[x]
 | .bt x=>[x]
 | .cs x=>[x]
 | .mf _ a b=>a++b
 | .ss x lo hi=>x::(xo lo++xo hi)
 | .sl _ x lo hi=>x::(xo lo++xo hi)
 | .fa _ x=>[x]
 | .fd _ _ x=>[x]
 | .ia _ x i=>[x,i]
 | .iq _ _ x i=>[x,i]
 | .ix x i=>[x,i]
 | .iv _ _ _ x i=>[x,i]
 | .ex _ x=>[x]
 | .cf _ xs=>xs
 | .cp _ xs=>xs
 | .cv x xs=>x::xs
 | .ap _ _ _ s x=>[s,x]
 | .ln x=>[x]
 | .lm x=>[x]
 | .mx x y=>[x,y]
 | .mn x y=>[x,y]
 | .pe _ x y=>[x,y]
 | .ie _ x y=>[x,y]
 | .pu x=>[x]
 | .pf _ x=>[x]
 | .id1 x=>[x]
 | .as_ _ s x=>[s,x]
 | .sd x=>[x]
 | .us _ p n=>[p,n]
 | .sm x=>[x]
 | .rg x=>[x]
 | .is x=>[x]
 | .mz _ x=>[x]
 | .cn x=>[x]
 | .cy x y=>[x,y]
 | .mi _ x=>[x]
 | .ta _ x=>[x]
 | .pn x=>[x]
 | .nx x=>[x]
 | .se _ _ x y=>[x,y]
 | .xi x y=>[x,y]
 | .xc x y=>[x,y]
 | .az s x=>[s,x]
 | .mk _ _ _ _ n c=>[n,c]
 | .mm=>[]
 | .lk _ _ m k=>[m,k]
 | .mu m k v=>[m,k,v]
 | .ik _ x xs=>x::xs
 | .tk _ _ x=>[x]
 | .cq _ xs=>xs
 | .no=>[]
def gtm:Option (Nat×Bool)→List Nat
 | none=>[]
 | some (t,_)=>[t]
def O.looks (o:O):List Nat:=gtm o.g++tms o.c.xs
def O.names (o:O):List Nat:=o.d.toList++o.looks
def mF:List Oper→List Nat→List Nat
 | [],acc=>acc
 | o::r,acc=>mF r (acc++[o.after.toList.foldl (fun s e=>if Region.binds .any e then s ||| 2^e.on ||| acc.getD e.on 0 else s) 0])
def oA:List Oper→Nat→Bool
 | [],_=>true
 | o::r,k=>(o.after.toList.all fun e => !Region.binds .any e||Nat.blt e.on k)&&oA r (k+1)
def bit (m k:Nat):Bool:=Nat.testBit m k
def iE (x y:O) (waits:Bool):Bool:=
 waits||(!(x.c.acts&&y.c.acts)&&(match x.d with | some d => !y.names.contains d | none=>true)&&(match y.d with | some d => !x.names.contains d | none=>true))
def lV (x:O) (m:Nat):List O→Nat→Bool
 | [],_=>true
 | y::r,k=>iE y x (bit m k)&&lV x m r (k+1)
def gC:List O→List O→List Nat→Bool
 | _,[],[]=>true
 | seen,x::r,m::ms=>lV x m seen 0&&gC (seen++[x]) r ms
 | _,_,_=>false
def jVm (m:Nat):List O→Nat→Nat
 | [],_=>0
 | y::r,k=>(if y.c.acts&&bit m k then 1 else 0)+jVm m r (k+1)
def jVe (i:Nat):List O→List Nat→Nat
 | y::r,m::ms=>(if y.c.acts && !bit m i then 1 else 0)+jVe i r ms
 | _,_=>0
def sP (all:List O) (ms:List Nat):List O→List Nat→Nat→List O
 | x::r,m::mr,k=>(if x.c.reads then { x with rd:=some (jVm m all 0,jVe k all ms) } else x)::sP all ms r mr (k+1)
 | _,_,_=>[]
def jXa (nt:Nat) (ops:Array Oper):Option (List O):=
 match rQ P nt ops ops.toList with
 | none=>none
 | some l=>let ms:=mF ops.toList []
  if oA ops.toList 0&&gC [] l ms&&Nat.ble nt 1000000000 then some (sP l ms l ms 0) else none
def uX (nt:Nat):Code→Option K
 | .skip=>some .skip
 | .region _ ops false=>match rQ P nt ops ops.toList with | some l=>some (.reg l) | none=>some .no
 | .region _ ops true=>match jXa P nt ops with | some l=>some (.dreg l) | none=>some .no
 | .seq a b=>match uX nt a,uX nt b with | some a,some b=>some (.seq a b) | _,_=>none
 | .cond c a b=>match xOf c,uX nt a,uX nt b with | some c,some a,some b=>some (.cond c a b) | _,_,_=>some .no
 | .block id c=>match uX nt c with | some c=>some (.block id c) | none=>none
 | .loop c=>match uX nt c with | some c=>some (.loop c) | none=>none
 | .exit id=>some (.exit id)
 | .ret=>some .ret
 | .scope c=>uX nt c
 | .label _=>some .skip
 | _=>some .no
def jUm:List ResultVar→Option (List RV0)
 | []=>some []
 | .tmp t::r=>match jUm r with | some l=>some (.t t::l) | none=>none
 | .cell a t::r=>match dT P t,jUm r with | some n,some l=>some (.c a n::l) | _,_=>none
def qFm (fn:Func):Option F:=
 if fn.name == "runtime.NumGoroutine" then none else if Nat.blt 1000000000 fn.ntmps then none else
 match fn.body,jUm P fn.results.toList with
 | some b,some r=>match uX P fn.ntmps b with
  | some k=>some ⟨fn.ntmps,r,k⟩
  | none=>none
 | _,_=>none
def jBh (f:Nat):Option F:=match P.funcs[f]? with | some fn=>qFm P fn | none=>none
end
end
end Go.Proofs.YtngfdcnglojcaaaGreatDoor.Ev
