/-
  From a program's text to the small language (definitions alone): what can't be said in it is refused. No program is named here.
-/
import Derived.Test.YtpflpjkbiopmpaaGreatDoorEvA
import GoSem.Core.Lib
import GoSem.Core.Code
import GoSem.Extern.Table
set_option linter.unusedVariables false
set_option linter.unusedSimpArgs false
set_option linter.unnecessarySimpa false
set_option linter.all false
namespace Go.Proofs.YtpflpjkbiopmpaaGreatDoor.Ev
open Go

def absC : Value → Option AV
  | .bool x => some (.b x)
  | .int k n => some (.i k n)
  | .string s => mkStr s.data.toList.length (encL s.data.toList)
  | .pointer none => some .p0
  | .slice none 0 0 => some .sl0
  | .nilFunc => some .f0
  | .nilIface => some .ni
  | .map none => some (.mp 0)
  | _ => none
def absL : List Value → Option (List AV)
  | [] => some []
  | v :: r => match absC v, absL r with | some x, some l => some (x :: l) | _, _ => none
def absV : Value → Option AV
  | .agg cs => match absL cs.toList with | some l => some (.agg l) | none => none
  | v => absC v
def xOf : Operand → Option X
  | .tmp t => some (.t t)
  | .const v => match absV v with | some x => some (.k x) | none => none
  | .func f => some (.k (.f f [] []))
  | .global _ => none
def xsOf : List Operand → Option (List X)
  | [] => some []
  | x :: r => match xOf x, xsOf r with | some x, some l => some (x :: l) | _, _ => none
def xoOf : Option Operand → Option (Option X)
  | none => some none
  | some x => match xOf x with | some x => some (some x) | none => none

section
variable (P : Program)
def zeroA (e : Nat) : Option (List AV) := match P.info? e with
  | some i => match i.zero with
    | some z => absL z.cells.toList
    | none => none
  | none => none
def zeroC (e : Nat) : Option AV := match P.info? e with
  | some i => match i.zero with
    | some z => absC z
    | none => none
  | none => none
def zeroV (e : Nat) : Option AV := match P.info? e with
  | some i => match i.zero with
    | some z => absV z
    | none => none
  | none => none
def sizeA (t : Nat) : Option Nat := match P.info? t with | some i => some i.size | none => none
def bytesOfT (t : Nat) : Option Nat := match P.info? t with | some i => some i.bytes | none => none
def aggA (t : Nat) : Option Bool := match P.underlying t with
  | some (.struct _) => some true
  | some (.array _ _) => some true
  | some _ => some false
  | none => none
def cellsA (t : Nat) : Option (Option Nat) := match aggA P t, sizeA P t with
  | some true, some n => some (some n)
  | some false, some _ => some none
  | _, _ => none
/-- where a struct's parts lie. -/
def placesA (fs : List Field) : List (Nat × Operand) → Option (List (Nat × Nat × X))
  | [] => some []
  | (i, x) :: r => match fs[i]? with
    | some f => match sizeA P f.type, xOf x, placesA fs r with | some n, some x, some l => some ((f.offset, n, x) :: l) | _, _, _ => none
    | none => none
def placesS (sz : Nat) : List (Nat × Operand) → Option (List (Nat × Nat × X))
  | [] => some []
  | (i, x) :: r => match xOf x, placesS sz r with | some x, some l => some ((i * sz, sz, x) :: l) | _, _ => none
def sizesOk (fs : List Field) : Bool := fs.all fun f => (sizeA P f.type).isSome
def isScalarEq (t : Nat) : Bool := match P.underlying t with | some .bool => true | some (.int _) => true | some .string => true | _ => false
def flatFn (f : FuncId) : Bool := match P.funcs[f]? with
  | some fn => fn.params.toList.all (isScalarEq P) && fn.resultTypes.toList.all (isScalarEq P)
  | none => false
/-- where a struct's parts lie that are compared, each of one plain cell. -/
def kindA (t : Nat) : Option Nat := match P.underlying t with | some .bool => some 0 | some (.int _) => some 1 | some .string => some 2 | _ => none
def scals : List Field → Option (List (Nat × Nat))
  | [] => some []
  | f :: r => if f.name == "_" then none else match kindA P f.type, scals r with | some k, some l => some ((f.offset, k) :: l) | _, _ => none
def eqOp (g : Bool) (op : BinOp) (t : Nat) (x y : X) : Option C := match P.underlying t with
  | some .bool => some (.be g x y)
  | some (.pointer e) => (match sizeA P e with | some n => if Nat.beq n 0 then none else some (.pe g x y) | none => none)
  | some (.interface _) => (match y with | .k .ni => some (.ie g x y) | _ => none)
  | some (.slice _) => (match y with | .k .sl0 => some (.ie g x y) | _ => none)
  | some (.struct fs) => if P.stoodInHeld t || P.eqGuardType P.depth t then none else (match scals P fs.toList with | some l => some (.se g l x y) | none => none)
  | _ => some (.bi op x y)
def isExt (s : String) (f : FuncId) : Bool := match P.funcs[f]? with
  | some fn => fn.name == s && fn.body.isNone && (Extern.findNext fn).isNone
  | none => false
/-- a function's one result is a slice of what, of one cell each. -/
def resSlice (f : FuncId) : Option Nat := match P.funcs[f]? with
  | some fn => (match fn.resultTypes.toList with
    | [t] => (match P.underlying t with
      | some (.slice e) => (match sizeA P e with | some 1 => some e | _ => none)
      | _ => none)
    | _ => none)
  | none => none
/-- a function that only builds of what it is handed. -/
def buildOp (o : Oper) : Bool := o.guard.isNone && (match o.op with
  | .alloc _ => true | .move _ => true | .build .. => true | .store .. => true | _ => false)
def buildOnly : Code → Bool
  | .region _ ops d => !d && ops.toList.all buildOp
  | .seq a b => buildOnly a && buildOnly b
  | .ret => true
  | .skip => true
  | .scope c => buildOnly c
  | _ => false
def resStruct (ts : List TypeId) : Bool := match ts with
  | [t] => (match P.underlying t with | some (.struct _) => true | _ => false)
  | _ => false
def builderFn (f : FuncId) : Bool := match P.funcs[f]? with
  | some fn => (match fn.body with | some b => buildOnly b && resStruct P fn.resultTypes.toList | none => false)
  | none => false
/-- the types whose variables begin with one of a type, with their sizes. -/
def headsA (u e : Nat) : Bool := Nat.beq e u || (match P.underlying e with | some (.struct fs) => (match fs[0]? with | some f => Nat.beq f.type u | none => false) | _ => false)
def pfOk (u e : Nat) : Bool := headsA P u e && !Nat.beq (P.cellsOf e) 0 && liesAt P P.depth e 1 0 u 1
def pfT (u : Nat) : List (Nat × Nat) := ((List.range P.types.size).filter (pfOk P u)).map fun e => (e, P.cellsOf e)
def callOp (f : FuncId) (xs : List X) : Option C :=
  if isExt P "internal/abi.NoEscape" f then (match xs with | [x] => some (.id1 x) | _ => none)
  else if isExt P "internal/bytealg.IndexByteString" f then (match xs with | [x, y] => some (.xi x y) | _ => none)
  else if isExt P "internal/bytealg.CountString" f then (match xs with | [x, y] => some (.xc x y) | _ => none)
  else if isExt P "internal/bytealg.MakeNoZero" f then (match xs, resSlice P f with | [x], some e => some (.mz e x) | _, _ => none)
  else if flatFn P f then some (.cp f xs) else if builderFn P f then some (.cq f xs) else some (.cf f xs)
def byteA (e : Nat) : Bool := match P.info? e with
  | some i => Nat.beq i.size 1 && Nat.beq i.bytes 1 && (match i.zero with | some (.int .u8 0) => true | _ => false)
  | none => false
def convOp (t : Nat) (sized : Nat → C) : Option C := match sizeA P t with
  | some n => if Nat.beq n 0 then none else some (sized n)
  | none => none
/-- a map's reserve, told by a number or not at all. -/
def hintOk : Option Operand → Bool
  | none => true
  | some (.const (.int _ _)) => true
  | _ => false
/-- the function that a method of a type is. -/
def methA (m : String) (t : Nat) : Option Nat := match P.info? t with
  | some i => (match i.methods.find? (·.name == m) with
    | some r => if r.path.isEmpty then (match r.func with
      | some (f, pr) => (match P.underlying t, pr with
        | some (.pointer _), true => some f
        | some (.pointer _), false => none
        | some _, false => some f
        | _, _ => none)
      | none => none) else none
    | none => none)
  | none => none
def mtabL (m : String) : List Nat → List (Nat × Nat)
  | [] => []
  | t :: r => match methA P m t with | some f => (t, f) :: mtabL m r | none => mtabL m r
def mtab (m : String) : List (Nat × Nat) := mtabL P m (List.range P.types.size)
def cOp0 (o : Oper) : Option C := match o.op with
  | .move x => match xOf x with | some x => some (.mv x) | _ => none
  | .assign x => match xOf x with | some x => some (.mv x) | _ => none
  | .pick c a b => match xOf c, xOf a, xOf b with | some c, some a, some b => some (.pick c a b) | _, _, _ => none
  | .alloc e => match zeroA P e with | some z => some (.al e z) | none => none
  | .box e x => match xOf x with | some x => some (.bx e x) | none => none
  | .build t ps => match zeroA P t, P.underlying t with
    | some z, some (.struct fs) => if sizesOk P fs.toList then (match placesA P fs.toList ps.toList with | some ps => some (.bd z ps) | none => none) else none
    | some z, some (.array _ e) => match sizeA P e with
      | some n => match placesS n ps.toList with | some ps => some (.bd z ps) | none => none
      | none => none
    | _, _ => none
  | .buildSlice t len ps => match P.underlying t with
    | some (.slice e) => match sizeA P e, zeroA P e with
      | some n, some z => if Nat.ble (len * n) 16777216 && sizeL n z && Nat.blt 0 n then (match placesS n ps.toList with | some ps => some (.bs e n (repA z len) len ps) | none => none) else none
      | _, _ => none
    | _ => none
  | .load t a => match cellsA P t, xOf a with | some n, some a => some (.ld n a) | _, _ => none
  | .store t a x => match sizeA P t, xOf a, xOf x with | some n, some a, some x => some (.st n a x) | _, _, _ => none
  | .nilCheck x => match xOf x with | some x => some (.nc x) | none => none
  | .binOp op t x y _ => match xOf x, xOf y with
    | some x, some y => (match op with
      | .eql => eqOp P false op t x y
      | .neq => eqOp P true op t x y
      | _ => some (.bi op x y))
    | _, _ => none
  | .unOp op _ x => match xOf x with | some x => some (.un op x) | none => none
  | .convert src dst x => match P.underlying src, P.underlying dst, xOf x with
    | some (.int _), some (.int k), some x => some (.ci k x)
    | some (.int _), some .string, some x => some (.is x)
    | some .string, some .string, some x => some (.cs x)
    | some .string, some (.slice e), some x => (match P.underlying e with | some (.int .u8) => some (.sb e x) | _ => none)
    | some (.slice _), some (.slice e), some x => (match P.underlying e with | some (.int .u8) => if Nat.beq src dst then some (.sm x) else none | _ => none)
    | some (.slice e), some .string, some x => (match P.underlying e with | some (.int .u8) => some (.bt x) | _ => none)
    | some (.pointer t), some .unsafePointer, some x => convOp P t fun _ => .pu x
    | some .unsafePointer, some (.pointer u), some x => convOp P u fun _ => .pf (pfT P u) x
    | _, _, _ => none
  | .makeFunc (.func f) a b => match xsOf a.toList, xsOf b.toList with | some a, some b => some (.mf f a b) | _, _ => none
  | .slice t x lo hi none => match P.underlying t, xOf x, xoOf lo, xoOf hi with
    | some .string, some x, some lo, some hi => some (.ss x lo hi)
    | some (.slice e), some x, some lo, some hi => (match sizeA P e with | some n => some (.sl n x lo hi) | none => none)
    | _, _, _, _ => none
  | .makeSlice t x y => match P.underlying t with
    | some (.slice e) => (match P.info? e, zeroA P e, xOf x, xOf y with
      | some i, some z, some x, some y => if Nat.blt 0 i.size && sizeL i.size z then some (.mk e i.size i.bytes z x y) else none
      | _, _, _, _ => none)
    | _ => none
  | .makeMap t r => if hintOk r then (match P.underlying t with | some (.map _ _) => some .mm | _ => none) else none
  | .lookup t x k ok => match P.underlying t with
    | some (.map kt e) => (match P.underlying kt, zeroC P e, xOf x, xOf k with
      | some .string, some z, some x, some k => some (.lk ok z x k)
      | _, _, _, _ => none)
    | _ => none
  | .mapUpdate t x k v => match P.underlying t with
    | some (.map kt _) => (match P.underlying kt, xOf x, xOf k, xOf v with
      | some .string, some x, some k, some v => some (.mu x k v)
      | _, _, _, _ => none)
    | _ => none
  | .fieldAddr s x f => match P.underlying s, xOf x with
    | some (.struct fs), some x => (match fs[f]? with
      | some f => (match sizeA P f.type with | some n => if Nat.beq n 0 then none else some (.fa f.offset x) | none => none)
      | none => none)
    | _, _ => none
  | .field s x f => match P.underlying s, xOf x with
    | some (.struct fs), some x => (match fs[f]? with
      | some f => (match cellsA P f.type with | some n => some (.fd f.offset n x) | none => none)
      | none => none)
    | _, _ => none
  | .indexAddr t x i => match P.underlying t, xOf x, xOf i with
    | some (.slice e), some x, some i => (match sizeA P e with | some n => some (.ia n x i) | none => none)
    | some (.array len e), some x, some i => (match sizeA P e with | some n => some (.iq len n x i) | none => none)
    | _, _, _ => none
  | .index t x i => match P.underlying t, xOf x, xOf i with
    | some .string, some x, some i => some (.ix x i)
    | some (.array len e), some x, some i => (match sizeA P e, aggA P e with | some n, some g => some (.iv len n g x i) | _, _ => none)
    | _, _, _ => none
  | .range t x => match P.underlying t, xOf x with | some .string, some x => some (.rg x) | _, _ => none
  | .next x true => match xOf x with | some x => some (.nx x) | none => none
  | .makeInterface t x => match P.underlying t, xOf x with
    | some (.interface _), _ => none
    | some _, some x => some (.mi t x)
    | _, _ => none
  | .typeAssert x _ t false => match P.underlying t, xOf x with
    | some (.interface _), _ => none
    | some _, some x => some (.ta t x)
    | _, _ => none
  | .typeAssert x _ t true => match P.underlying t, zeroV P t, xOf x with
    | some (.interface _), _, _ => none
    | some _, some z, some x => some (.tk t z x)
    | _, _, _ => none
  | .panic x => match xOf x with | some x => some (.pn x) | none => none
  | .extract x i => match xOf x with | some x => some (.ex i x) | none => none
  | .call c => match c.callee with
    | .value (.func f) => (match xsOf c.args.toList with | some xs => callOp P f xs | none => none)
    | .value x => (match xOf x, xsOf c.args.toList with | some x, some xs => some (.cv x xs) | _, _ => none)
    | .invoke x m => (match xOf x, xsOf c.args.toList with | some x, some xs => some (.ik (mtab P m) x xs) | _, _ => none)
    | .builtin .len => (match c.argTypes.toList, c.args.toList with
      | [t], [x] => (match P.underlying t, xOf x with
        | some .string, some x => some (.ln x)
        | some (.slice _), some x => some (.lm x)
        | _, _ => none)
      | _, _ => none)
    | .builtin .append => (match c.argTypes.toList, c.args.toList with
      | [t, t'], [s, x] => if Nat.beq t t' then (match P.underlying t with
        | some (.slice e) => (match P.info? e, zeroA P e, xOf s, xOf x with
          | some i, some z, some s, some x => if sizeL i.size z && Nat.blt 0 i.size then some (.ap e i.size i.bytes s x) else none
          | _, _, _, _ => none)
        | _ => none) else (match P.underlying t, P.underlying t', xOf s, xOf x with
        | some (.slice e), some .string, some s, some x => if byteA P e then some (.as_ e s x) else none
        | some (.slice e), some (.int _), some s, some x => (match sizeA P e with | some _ => some (.az s x) | none => none)
        | _, _, _, _ => none)
      | _, _ => none)
    | .builtin .cap => (match c.argTypes.toList, c.args.toList with
      | [t], [x] => (match P.underlying t, xOf x with | some (.slice _), some x => some (.cn x) | _, _ => none)
      | _, _ => none)
    | .builtin .copy => (match c.argTypes.toList, c.args.toList with
      | [t, t'], [x, y] => (match P.underlying t, P.underlying t', xOf x, xOf y with
        | some (.slice e), some (.slice _), some x, some y => (match sizeA P e with | some _ => some (.cy x y) | none => none)
        | _, _, _, _ => none)
      | _, _ => none)
    | .builtin .unsafeSliceData => (match c.args.toList with
      | [x] => (match xOf x with | some x => some (.sd x) | none => none)
      | _ => none)
    | .builtin .unsafeString => (match c.argTypes.toList, c.args.toList with
      | [t, _], [p, n] => (match P.underlying t, xOf p, xOf n with
        | some (.pointer e), some p, some n => (match sizeA P e with | some 1 => some (.us e p n) | _ => none)
        | _, _, _ => none)
      | _, _ => none)
    | .builtin .max => (match c.args.toList with
      | [x, y] => (match xOf x, xOf y with | some x, some y => some (.mx x y) | _, _ => none)
      | _ => none)
    | .builtin .min => (match c.args.toList with
      | [x, y] => (match xOf x, xOf y with | some x, some y => some (.mn x y) | _, _ => none)
      | _ => none)
    | _ => none
  | _ => none

/-- what can't be said is an operation that never succeeds. -/
def cOp (o : Oper) : C := (cOp0 P o).getD .no

def guardA (ops : Array Oper) : Option (Nat × Bool) → Option (Option (Nat × Bool))
  | none => some none
  | some (j, w) => match ops[j]? with
    | some o => match o.dst with | some d => some (some (d, w)) | none => none
    | none => none
def dstOk (nt : Nat) : Option Nat → Bool
  | none => true
  | some d => Nat.blt d nt && Nat.blt d 1000000000
def cOper (nt : Nat) (ops : Array Oper) (o : Oper) : Option O := match guardA ops o.guard with
  | some g => if dstOk nt o.dst then some ⟨o.dst, g, cOp P o, none⟩ else none
  | none => none
def cOpers (nt : Nat) (ops : Array Oper) : List Oper → Option (List O)
  | [] => some []
  | o :: r => match cOper P nt ops o, cOpers nt ops r with | some x, some l => some (x :: l) | _, _ => none

/-! ### Regions that draw their order -/
def X.tm : X → List Nat
  | .t n => [n]
  | .k _ => []
def tms : List X → List Nat
  | [] => []
  | x :: r => x.tm ++ tms r
def xo : Option X → List X
  | none => []
  | some x => [x]
def C.xs : C → List X
  | .mv x => [x]
  | .pick a b c => [a, b, c]
  | .al _ _ => []
  | .bx _ x => [x]
  | .bd _ ps => ps.map (·.2.2)
  | .bs _ _ _ _ ps => ps.map (·.2.2)
  | .ld _ x => [x]
  | .st _ a x => [a, x]
  | .nc x => [x]
  | .bi _ x y => [x, y]
  | .be _ x y => [x, y]
  | .un _ x => [x]
  | .ci _ x => [x]
  | .sb _ x => [x]
  | .bt x => [x]
  | .cs x => [x]
  | .mf _ a b => a ++ b
  | .ss x lo hi => x :: (xo lo ++ xo hi)
  | .sl _ x lo hi => x :: (xo lo ++ xo hi)
  | .fa _ x => [x]
  | .fd _ _ x => [x]
  | .ia _ x i => [x, i]
  | .iq _ _ x i => [x, i]
  | .ix x i => [x, i]
  | .iv _ _ _ x i => [x, i]
  | .ex _ x => [x]
  | .cf _ xs => xs
  | .cp _ xs => xs
  | .cv x xs => x :: xs
  | .ap _ _ _ s x => [s, x]
  | .ln x => [x]
  | .lm x => [x]
  | .mx x y => [x, y]
  | .mn x y => [x, y]
  | .pe _ x y => [x, y]
  | .ie _ x y => [x, y]
  | .pu x => [x]
  | .pf _ x => [x]
  | .id1 x => [x]
  | .as_ _ s x => [s, x]
  | .sd x => [x]
  | .us _ p n => [p, n]
  | .sm x => [x]
  | .rg x => [x]
  | .is x => [x]
  | .mz _ x => [x]
  | .cn x => [x]
  | .cy x y => [x, y]
  | .mi _ x => [x]
  | .ta _ x => [x]
  | .pn x => [x]
  | .nx x => [x]
  | .se _ _ x y => [x, y]
  | .xi x y => [x, y]
  | .xc x y => [x, y]
  | .az s x => [s, x]
  | .mk _ _ _ _ n c => [n, c]
  | .mm => []
  | .lk _ _ m k => [m, k]
  | .mu m k v => [m, k, v]
  | .ik _ x xs => x :: xs
  | .tk _ _ x => [x]
  | .cq _ xs => xs
  | .no => []
def gtm : Option (Nat × Bool) → List Nat
  | none => []
  | some (t, _) => [t]
/-- the slots that an operation looks at. -/
def O.looks (o : O) : List Nat := gtm o.g ++ tms o.c.xs
def O.names (o : O) : List Nat := o.d.toList ++ o.looks
/-- what must come ahead of each operation, as bits. -/
def masks : List Oper → List Nat → List Nat
  | [], acc => acc
  | o :: r, acc => masks r (acc ++ [o.after.toList.foldl (fun s e => if Region.binds .any e then s ||| 2 ^ e.on ||| acc.getD e.on 0 else s) 0])
def edgesOk : List Oper → Nat → Bool
  | [], _ => true
  | o :: r, k => (o.after.toList.all fun e => !Region.binds .any e || Nat.blt e.on k) && edgesOk r (k + 1)
def bit (m k : Nat) : Bool := Nat.testBit m k
/-- two operations that name one slot, which one of them writes, or that both change memory: the later one waits for the earlier one. -/
def pairOk (x y : O) (waits : Bool) : Bool :=
  waits || (!(x.c.acts && y.c.acts) && (match x.d with | some d => !y.names.contains d | none => true) && (match y.d with | some d => !x.names.contains d | none => true))
/-- each operation against all ahead of it. -/
def aheadOk (x : O) (m : Nat) : List O → Nat → Bool
  | [], _ => true
  | y :: r, k => pairOk y x (bit m k) && aheadOk x m r (k + 1)
def allAhead : List O → List O → List Nat → Bool
  | _, [], [] => true
  | seen, x :: r, m :: ms => aheadOk x m seen 0 && allAhead (seen ++ [x]) r ms
  | _, _, _ => false
/-- how many writers an operation waits for; how many don't wait for it. -/
def loOf (m : Nat) : List O → Nat → Nat
  | [], _ => 0
  | y :: r, k => (if y.c.acts && bit m k then 1 else 0) + loOf m r (k + 1)
def hiOf (i : Nat) : List O → List Nat → Nat
  | y :: r, m :: ms => (if y.c.acts && !bit m i then 1 else 0) + hiOf i r ms
  | _, _ => 0
def withRd (all : List O) (ms : List Nat) : List O → List Nat → Nat → List O
  | x :: r, m :: mr, k => (if x.c.reads then { x with rd := some (loOf m all 0, hiOf k all ms) } else x) :: withRd all ms r mr (k + 1)
  | _, _, _ => []
def cDraw (nt : Nat) (ops : Array Oper) : Option (List O) :=
  match cOpers P nt ops ops.toList with
  | none => none
  | some l => let ms := masks ops.toList []
    if edgesOk ops.toList 0 && allAhead [] l ms && Nat.ble nt 1000000000 then some (withRd l ms l ms 0) else none

/-! ### One operation that may come early -/
/-- as pairOk, of two that both change memory. -/
def pairF (x y : O) (waits : Bool) : Bool :=
  waits || ((match x.d with | some d => !y.names.contains d | none => true) && (match y.d with | some d => !x.names.contains d | none => true))
def aheadF (x : O) (m : Nat) : List O → Nat → Bool
  | [], _ => true
  | y :: r, k => pairF y x (bit m k) && aheadF x m r (k + 1)
def allAheadF (p : Nat) : List O → List O → List Nat → Nat → Bool
  | _, [], [], _ => true
  | seen, x :: r, m :: ms, i => (if Nat.beq i p then aheadF x m seen 0 else aheadOk x m seen 0) && allAheadF p (seen ++ [x]) r ms (i + 1)
  | _, _, _, _ => false
/-- the first one that does not wait for one ahead of it that changes memory, as it does. -/
def firstBad : List O → List O → List Nat → Nat → Option Nat
  | seen, x :: r, m :: ms, i => if aheadOk x m seen 0 then firstBad (seen ++ [x]) r ms (i + 1) else some i
  | _, _, _, _ => none
def actAt (l : List O) (q : Nat) : Bool := match l[q]? with | some y => y.c.acts | none => false
def behindOk (l : List O) (ms : List Nat) (p : Nat) : Bool := (List.range l.length).all fun i => Nat.ble i p || (match ms[i]? with
  | some m => bit m p && (List.range p).all fun q => !actAt l q || bit m q
  | none => false)
def sinceOk (l : List O) (i t : Nat) : Bool := (List.range l.length).all fun q => Nat.blt q i || (match l[q]? with
  | some y => (match y.d with | some d => !Nat.beq d t | none => true)
  | none => true)
def addrOf (c : C) : Option Nat := match c with | .st _ (.t t) _ => some t | _ => none
def notSel (o : Oper) : Bool := match o.op with | .select _ _ => false | _ => true
def freeOf (d : Option Nat) (x : Operand) : Bool := match x with | .tmp t => (match d with | some e => !Nat.beq t e | none => true) | _ => true
def isSt (c : C) : Bool := match c with | .st _ _ _ => true | _ => false
def un1 (l : List O) (f : O) (i : Nat) (o : Oper) (x : O) : Bool :=
  notSel o && o.op.operands.toList.all (freeOf f.d) &&
  (if x.c.acts then x.g.isNone && (!isSt f.c || (match addrOf x.c with | some t => sinceOk l i t | none => false)) else (!isSt f.c || !x.c.reads))
def unOk (ops : Array Oper) (l : List O) (f : O) (mp p : Nat) : Bool := (List.range p).all fun i => bit mp i || (match ops[i]?, l[i]? with
  | some o, some x => un1 l f i o x
  | _, _ => false)
def isAl (o : Option Oper) : Bool := match o with | some o => (match o.op with | .alloc _ => true | _ => false) | none => false
def kindF (ops : Array Oper) (l : List O) (f : O) (p : Nat) : Bool := match f.c with
  | .al _ _ => isAl ops[p]?
  | .st _ (.t t) _ => f.d.isNone && sinceOk l p t
  | _ => false
def unAddrs (l : List O) (mp : Nat) : List Nat → List X
  | [] => []
  | i :: r => (match l[i]? with
    | some x => if x.c.acts && !bit mp i then (match addrOf x.c with | some t => [X.t t] | none => []) else []
    | none => []) ++ unAddrs l mp r
def floatOk (ops : Array Oper) (l : List O) (ms : List Nat) (p : Nat) : Bool := match l[p]?, ms[p]? with
  | some f, some mp => f.g.isNone && kindF ops l f p && behindOk l ms p && unOk ops l f mp p
  | _, _ => false
def cFloat (nt : Nat) (ops : Array Oper) : Option K :=
  match cOpers P nt ops ops.toList with
  | none => none
  | some l => let ms := masks ops.toList []
    match firstBad [] l ms 0 with
    | none => none
    | some p => if edgesOk ops.toList 0 && allAheadF p [] l ms 0 && Nat.ble nt 1000000000 && floatOk ops l ms p then
        (match l[p]?, ms[p]? with
        | some f, some mp => some (.fr (withRd l ms l ms 0) ((addrOf f.c).map X.t) (if isSt f.c then unAddrs l mp (List.range p) else []))
        | _, _ => none)
      else none

/-! ### Several allocations that may come early -/
def alOk (ops : Array Oper) (l : List O) (p : Nat) : Bool := match l[p]?, ops[p]? with
  | some f, some o => (match f.c, o.op with | .al _ _, .alloc _ => o.guard.isNone | _, _ => false)
  | _, _ => false
def unord (ms : List Nat) (i p : Nat) : Bool := if Nat.blt i p then !bit (ms.getD p 0) i else if Nat.blt p i then !bit (ms.getD i 0) p else false
def floatsL (ops : Array Oper) (l : List O) (ms : List Nat) : List Nat := (List.range l.length).filter fun p => alOk ops l p && (List.range l.length).any fun i => actAt l i && unord ms i p
def pairG (x y : O) (waits fl : Bool) : Bool :=
  waits || ((!(x.c.acts && y.c.acts) || fl) && (match x.d with | some d => !y.names.contains d | none => true) && (match y.d with | some d => !x.names.contains d | none => true))
def chkPairs (fl : List Nat) (l : List O) (ms : List Nat) : Bool := (List.range l.length).all fun i' => (List.range i').all fun i => (match l[i]?, l[i']? with
  | some x, some x' => pairG x x' (bit (ms.getD i' 0) i) (fl.contains i || fl.contains i')
  | _, _ => false)
def chkBehind (fl : List Nat) (l : List O) (ms : List Nat) : Bool := fl.all fun p => (List.range l.length).all fun i => Nat.ble i p || fl.contains i || (bit (ms.getD i 0) p && (List.range p).all fun q => !actAt l q || bit (ms.getD i 0) q)
def chkFree (fl : List Nat) (ops : Array Oper) (l : List O) (ms : List Nat) : Bool := fl.all fun p => (match l[p]? with
  | some f => (List.range p).all fun i => bit (ms.getD p 0) i || (match ops[i]? with | some o => o.op.operands.toList.all (freeOf f.d) | none => false)
  | none => false)
def dstNe (l : List O) (p p' : Nat) : Bool := match l[p]?, l[p']? with
  | some f, some f' => (match f.d, f'.d with | some a, some b => !Nat.beq a b | _, _ => true)
  | _, _ => false
def chkDst (fl : List Nat) (l : List O) : Bool := fl.all fun p => fl.all fun p' => Nat.beq p p' || dstNe l p p'
def chkAll (fl : List Nat) (ops : Array Oper) (l : List O) (ms : List Nat) : Bool :=
  chkPairs fl l ms && chkBehind fl l ms && chkFree fl ops l ms && chkDst fl l && (fl.all fun p => alOk ops l p) && ops.toList.all notSel
def cFloats (nt : Nat) (ops : Array Oper) : Option K :=
  match cOpers P nt ops ops.toList with
  | none => none
  | some l => let ms := masks ops.toList []
    if edgesOk ops.toList 0 && Nat.ble nt 1000000000 && chkAll (floatsL ops l ms) ops l ms then some (.fr (withRd l ms l ms 0) none []) else none

def cCode (nt : Nat) : Code → Option K
  | .skip => some .skip
  | .region _ ops false => match cOpers P nt ops ops.toList with | some l => some (.reg l) | none => some .no
  | .region _ ops true => match cDraw P nt ops with | some l => some (.dreg l) | none => (match cFloat P nt ops with | some k => some k | none => (match cFloats P nt ops with | some k => some k | none => some .no))
  | .seq a b => match cCode nt a, cCode nt b with | some a, some b => some (.seq a b) | _, _ => none
  | .cond c a b => match xOf c, cCode nt a, cCode nt b with | some c, some a, some b => some (.cond c a b) | _, _, _ => some .no
  | .block id c => match cCode nt c with | some c => some (.block id c) | none => none
  | .loop c => match cCode nt c with | some c => some (.loop c) | none => none
  | .exit id => some (.exit id)
  | .ret => some .ret
  | .scope c => cCode nt c
  | .label _ => some .skip
  | _ => some .no
def cRes : List ResultVar → Option (List RV0)
  | [] => some []
  | .tmp t :: r => match cRes r with | some l => some (.t t :: l) | none => none
  | .cell a t :: r => match cellsA P t, cRes r with | some n, some l => some (.c a n :: l) | _, _ => none
def cFunc (fn : Func) : Option F :=
  if fn.name == "runtime.NumGoroutine" then none else if Nat.blt 1000000000 fn.ntmps then none else
  match fn.body, cRes P fn.results.toList with
  | some b, some r => match cCode P fn.ntmps b with
    | some k => some ⟨fn.ntmps, r, k⟩
    | none => none
  | _, _ => none
/-- a program's functions. -/
def fsOf (f : Nat) : Option F := match P.funcs[f]? with | some fn => cFunc P fn | none => none
end
end Go.Proofs.YtpflpjkbiopmpaaGreatDoor.Ev
