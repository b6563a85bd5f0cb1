/-
A small language for runs of a program's text at closed inputs, and what it computes: definitions alone (values, memory, operations, code, calls). No program is named here.
-/
import GoSem.Core.Region
import GoSem.Core.View
import GoSem.Core.Utf8
set_option linter.all false
namespace Go.Proofs.YtngfdcnglojcaaaGreatDoor.Ev
noncomputable section
open Go
inductive Tr (α:Type) where
 | e
 | n (v:Option α) (l r:Tr α)
def Tr.get {α:Type}:Tr α→Nat→Option α
 | .e,_=>none
 | .n v l r,k=>match k with
  | 0=>v
  | m+1=>if m % 2==0 then l.get (m / 2) else r.get (m / 2)
def Tr.set {α:Type}:Nat→Tr α→Nat→Option α→Tr α
 | 0,t,_,_=>t
 | f+1,.e,k,x=>match k with
  | 0=>.n x .e .e
  | m+1=>if m % 2==0 then .n none (Tr.set f .e (m / 2) x) .e else .n none .e (Tr.set f .e (m / 2) x)
 | f+1,.n v l r,k,x=>match k with
  | 0=>.n x l r
  | m+1=>if m % 2==0 then .n v (Tr.set f l (m / 2) x) r else .n v l (Tr.set f r (m / 2) x)
def Tr.put {α:Type} (t:Tr α) (k:Nat) (x:Option α):Tr α:=Tr.set (Nat.succ k) t k x
inductive AV where
 | b (x:Bool)
 | i (k:IntKind) (n:Int)
 | s (n v:Nat)
 | p0
 | p (blk off:Nat)
 | sl0
 | sl (blk off len sz:Nat)
 | f0
 | f (fn:Nat) (first cap:List AV)
 | ni
 | ifc (t:Nat) (v:AV)
 | m (k:Nat)
 | mp (b:Nat)
 | ifx
 | mr (k:Nat) (d:IntKind) (lo hi:Nat)
 | fs (k q lo hi:Nat)
 | fi (l:List Int)
 | fq (z:Int)
 | sm (l:List AV)
 | agg (l:List AV)
 | tup (l:List AV)
structure zE where
 elem:Nat
 plain:Bool
 cells:List AV
inductive It where
 | it (n v p:Nat)
 | im (l:List AV) (p:Nat)
 | mp (l:List (Nat×Nat×AV))
structure Mem where
 t:Tr zE
 nx:Nat
 it:Tr It
inductive X where
 | t (n:Nat)
 | k (v:AV)
inductive C where
 | mv (x:X)
 | pick (c a b:X)
 | al (e:Nat) (z:List AV)
 | bx (e:Nat) (x:X)
 | bd (z:List AV) (ps:List (Nat×Nat×X))
 | bs (e sz:Nat) (z:List AV) (len:Nat) (ps:List (Nat×Nat×X))
 | ld (n:Option Nat) (a:X)
 | st (n:Nat) (a x:X)
 | nc (x:X)
 | bi (o:BinOp) (x y:X)
 | be (neg:Bool) (x y:X)
 | un (o:UnOp) (x:X)
 | ci (k:IntKind) (x:X)
 | sb (e:Nat) (x:X)
 | bt (x:X)
 | cs (x:X)
 | mf (f:Nat) (first cap:List X)
 | ss (x:X) (lo hi:Option X)
 | sl (sz:Nat) (x:X) (lo hi:Option X)
 | fa (off:Nat) (x:X)
 | fd (off:Nat) (n:Option Nat) (x:X)
 | ia (sz:Nat) (x i:X)
 | iq (len sz:Nat) (x i:X)
 | ix (x i:X)
 | iv (len sz:Nat) (agg:Bool) (x i:X)
 | ex (n:Nat) (x:X)
 | cf (f:Nat) (xs:List X)
 | cp (f:Nat) (xs:List X)
 | cv (x:X) (xs:List X)
 | ap (e sz by_:Nat) (s x:X)
 | ln (x:X)
 | lm (x:X)
 | mx (x y:X)
 | mn (x y:X)
 | pe (neg:Bool) (x y:X)
 | ie (neg:Bool) (x y:X)
 | pu (x:X)
 | pf (es:List (Nat×Nat)) (x:X)
 | id1 (x:X)
 | as_ (e:Nat) (s x:X)
 | sd (x:X)
 | us (e:Nat) (p n:X)
 | sm (x:X)
 | rg (x:X)
 | is (x:X)
 | mz (e:Nat) (x:X)
 | cn (x:X)
 | cy (x y:X)
 | mi (t:Nat) (x:X)
 | ta (t:Nat) (x:X)
 | pn (x:X)
 | nx (x:X)
 | se (neg:Bool) (offs:List (Nat×Nat)) (x y:X)
 | xi (x y:X)
 | xc (x y:X)
 | az (s x:X)
 | mk (e sz by_:Nat) (z:List AV) (n c:X)
 | mm
 | lk (ok:Bool) (z:AV) (m k:X)
 | mu (m k v:X)
 | ik (tbl:List (Nat×Nat)) (x:X) (xs:List X)
 | tk (t:Nat) (z:AV) (x:X)
 | cq (f:Nat) (xs:List X)
 | no
structure O where
 d:Option Nat
 g:Option (Nat×Bool)
 c:C
 rd:Option (Nat×Nat)
inductive K where
 | skip
 | reg (ops:List O)
 | dreg (ops:List O)
 | fr (ops:List O) (fa:Option X) (us:List X)
 | seq (a b:K)
 | cond (c:X) (a b:K)
 | block (id:Nat) (c:K)
 | loop (c:K)
 | exit (id:Nat)
 | ret
 | no
inductive RV0 where
 | t (n:Nat)
 | c (a:Nat) (n:Option Nat)
structure F where
 nt:Nat
 res:List RV0
 body:K
def yY:AV:=.tup []
def AV.cells:AV→List AV
 | .agg l=>l
 | v=>[v]
def AV.one:AV→Bool
 | .agg _=>false
 | .tup _=>false
 | _=>true
def jSj (n:Int):Bool:=match n with | .ofNat m=>Nat.ble m 9223372036854775807 | .negSucc m=>Nat.ble m 9223372036854775807
def jY {α:Type} (n:Nat) (k:Nat→α):α:=Nat.rec (motive:=fun _=>α) (k 0) (fun m _=>k (Nat.succ m)) n
def wY {α:Type} (n:Int) (k:Int→α):α:=Int.rec (motive:=fun _=>α) (fun m=>jY m fun m=>k (.ofNat m)) (fun m=>jY m fun m=>k (.negSucc m)) n
def jGk (k:IntKind) (n:Int):Int:=match k with
 | .i64=>if jSj n then n else k.wrap n
 | _=>k.wrap n
def mkI (k:IntKind) (n:Int):Option AV:=wY (jGk k n) fun n=>some (.i k n)
def mkR (k:IntKind) (n:Int):Option AV:=wY n fun n=>some (.i k n)
def ltL:List Nat→List Nat→Bool
 | _,[]=>false
 | [],_::_=>true
 | a::x,b::y=>Nat.blt a b||(Nat.beq a b&&ltL x y)
def qF:List UInt8→Nat
 | []=>0
 | b::r=>Nat.add b.toNat (Nat.mul 256 (qF r))
def tD:Nat→Nat→List Nat
 | 0,_=>[]
 | n+1,v=>Nat.mod v 256::tD n (Nat.div v 256)
def jFj (n v:Nat):Option AV:=jY n fun n=>jY v fun v=>some (.s n v)
def ltS (n v m u:Nat):Bool:=ltL (tD n v) (tD m u)
def eqS (n v m u:Nat):Bool:=Nat.beq n m&&Nat.beq v u
def bW {α:Type} (l:List α) (k:Nat):Nat:=match l with | []=>k | _::r=>bW r (k+1)
def ltI (a b:Int):Bool:=match a,b with
 | .ofNat m,.ofNat n=>Nat.blt m n
 | .negSucc _,.ofNat _=>true
 | .ofNat _,.negSucc _=>false
 | .negSucc m,.negSucc n=>Nat.blt n m
def eqI (a b:Int):Bool:=match a,b with
 | .ofNat m,.ofNat n=>Nat.beq m n
 | .negSucc m,.negSucc n=>Nat.beq m n
 | _,_=>false
def eqK (a b:IntKind):Bool:=match a,b with
 | .i8,.i8=>true | .i16,.i16=>true | .i32,.i32=>true | .i64,.i64=>true
 | .u8,.u8=>true | .u16,.u16=>true | .u32,.u32=>true | .u64,.u64=>true
 | _,_=>false
def pO (f:∀ n,BitVec n→BitVec n→BitVec n) (k:IntKind) (x y:Int):Option AV:=
 mkI k (Int.ofNat (f k.bits (BitVec.ofInt k.bits x) (BitVec.ofInt k.bits y)).toNat)
def uW (o:BinOp) (k:IntKind) (x y:Int):Option AV:=match o with
 | .add=>mkI k (x+y)
 | .sub=>mkI k (x - y)
 | .mul=>mkI k (x*y)
 | .quo=>if eqI y 0 then none else mkI k (x.tdiv y)
 | .rem=>if eqI y 0 then none else mkR k (x.tmod y)
 | .and=>pO (fun _ a b=>a &&& b) k x y
 | .or=>pO (fun _ a b=>a ||| b) k x y
 | .xor=>pO (fun _ a b=>a ^^^ b) k x y
 | .andNot=>pO (fun _ a b=>a &&& ~~~b) k x y
 | .eql=>some (.b (eqI x y))
 | .neq=>some (.b (!eqI x y))
 | .lss=>some (.b (ltI x y))
 | .leq=>some (.b (!ltI y x))
 | .gtr=>some (.b (ltI y x))
 | .geq=>some (.b (!ltI x y))
 | _=>none
def jUj (o:BinOp) (n v m u:Nat):Option AV:=match o with
 | .add=>if Nat.ble (Nat.add n m) 140737488355328 then jFj (Nat.add n m) (Nat.add v (Nat.mul u (Nat.pow 256 n))) else none
 | .eql=>some (.b (eqS n v m u))
 | .neq=>some (.b (!eqS n v m u))
 | .lss=>some (.b (ltS n v m u))
 | .leq=>some (.b (ltS n v m u||eqS n v m u))
 | .gtr=>some (.b (!(ltS n v m u||eqS n v m u)))
 | .geq=>some (.b (!ltS n v m u))
 | _=>none
def u8s:List Nat→List AV
 | []=>[]
 | n::r=>.i .u8 (.ofNat n)::u8s r
def dR:List AV→Option Nat
 | []=>some 0
 | .i .u8 (.ofNat b)::r=>if Nat.blt b 256 then (match dR r with | some v=>jY (Nat.add b (Nat.mul 256 v)) fun v=>some v | none=>none) else none
 | _=>none
def sI (x:AV):Option (IntKind×Nat×Nat):=match x with
 | .i k (.ofNat n)=>some (k,n,n)
 | .mr _ k lo hi=>some (k,lo,hi)
 | _=>none
def jMh (x y:AV):Bool:=match x,y with
 | .mr k _ _ _,.mr k' _ _ _=>Nat.beq k k'
 | _,_=>false
def jAh (s:Bool) (a b c d:Nat):Option Bool:=if s then some true else if Nat.blt b c||Nat.blt d a then some false else if Nat.beq a b&&Nat.beq c d then some true else none
def jHj (a b c d:Nat):Option Bool:=if Nat.blt b c then some true else if Nat.ble d a then some false else none
def jHi (a b c d:Nat):Option Bool:=if Nat.ble b c then some true else if Nat.blt d a then some false else none
def qEb (b:Option Bool):Option Bool:=match b with | some b=>some (!b) | none=>none
def iY (b:Option Bool):Option AV:=match b with | some b=>some (.b b) | none=>none
def qKm (o:BinOp) (s:Bool) (a b c d:Nat):Option Bool:=match o with
 | .eql=>jAh s a b c d
 | .neq=>qEb (jAh s a b c d)
 | .lss=>jHj a b c d
 | .leq=>jHi a b c d
 | .gtr=>jHj c d a b
 | .geq=>jHi c d a b
 | _=>none
def jXh (x y:AV):Option Bool:=match sI x,sI y with
 | some (k,a,b),some (k',c,d)=>if eqK k .u8&&eqK k' .u8 then jAh (jMh x y) a b c d else none
 | _,_=>none
def jUt:List AV→List AV→Option Bool
 | [],[]=>some true
 | [],_::_=>some false
 | _::_,[]=>some false
 | x::r,y::t=>match jXh x y with
  | some false=>some false
  | some true=>jUt r t
  | none=>match jUt r t with | some false=>some false | _=>none
def fH (x:AV):Option (List AV):=match x with
 | .s n v=>if Nat.ble n 1000000 then some (u8s (tD n v)) else none
 | .sm l=>some l
 | _=>none
def qEa (l:List AV):AV:=match dR l with
 | some v=>.s (bW l 0) v
 | none=>.sm l
def qKl (x y:AV):Option AV:=match fH x,fH y with
 | some a,some b=>if Nat.ble (Nat.add (bW a 0) (bW b 0)) 140737488355328 then some (qEa (a++b)) else none
 | _,_=>none
def qKi (x y:AV):Option AV:=match x,y with
 | .i .i64 (.ofNat c),.mr q .i64 lo hi=>if Nat.ble (Nat.add hi c) 9223372036854775807 then some (.mr (Nat.add q (Nat.mul c 1048576)) .i64 (Nat.add lo c) (Nat.add hi c)) else none
 | x,y=>qKl x y
def jMe (o:BinOp) (x y:AV):Option Bool:=match sI x,sI y with
 | some (k,a,b),some (k',c,d)=>if eqK k k' then qKm o (jMh x y) a b c d else none
 | _,_=>none
def qDm (x y:AV):Option Bool:=match fH x,fH y with
 | some a,some b=>jUt a b
 | _,_=>jMe .eql x y
def qGk (o:BinOp) (x y:AV):Option AV:=match o with
 | .add=>qKi x y
 | .eql=>iY (qDm x y)
 | .neq=>iY (qEb (qDm x y))
 | .lss=>iY (jMe .lss x y)
 | .leq=>iY (jMe .leq x y)
 | .gtr=>iY (jMe .gtr x y)
 | .geq=>iY (jMe .geq x y)
 | _=>none
def oG (o:BinOp):Bool:=match o with | .shl=>true | .shr=>true | _=>false
def jUi (o:BinOp) (x y:AV):Option AV:=match x,y with
 | .i k a,.i k' b=>if oG o then
   (if ltI b 0 then none else match o with
    | .shl=>mkI k (a*2^(min b.toNat k.bits))
    | .shr=>mkR k (a.fdiv (2^(min b.toNat k.bits)))
    | _=>none)
  else if eqK k k' then uW o k a b else none
 | .s n v,.s m u=>jUj o n v m u
 | x,y=>qGk o x y
def unA (o:UnOp) (x:AV):Option AV:=match o,x with
 | .neg,.i k n=>mkI k (0 - n)
 | .not,.b b=>some (.b (!b))
 | .xor,.i k n=>pO (fun _ a b=>a ^^^ b) k (if k.signed then -1 else k.max) n
 | _,_=>none
def zL {α:Type}:Nat→List α→Option (List α)
 | 0,_=>some []
 | _+1,[]=>none
 | n+1,a::l=>match zL n l with | some r=>some (a::r) | none=>none
def zI {α:Type}:Nat→List α→List α
 | 0,l=>l
 | _+1,[]=>[]
 | n+1,_::l=>zI n l
def lT {α:Type}:List α→List α→Option (List α)
 | [],l=>some l
 | _::_,[]=>none
 | v::vs,_::l=>match lT vs l with | some r=>some (v::r) | none=>none
def zY {α:Type}:Nat→List α→List α→Option (List α)
 | 0,vs,l=>lT vs l
 | _+1,_,[]=>none
 | n+1,vs,a::l=>match zY n vs l with | some r=>some (a::r) | none=>none
def hN {α:Type}:Nat→List α→Option α
 | _,[]=>none
 | 0,a::_=>some a
 | n+1,_::l=>hN n l
def jN:List AV→Bool
 | []=>true
 | v::r=>v.one&&jN r
def Mem.new (σ:Mem) (b:zE):Option (Nat×Mem):=
 if Nat.ble 0 σ.nx then some (σ.nx,⟨Tr.put σ.t σ.nx (some b),σ.nx+1,σ.it⟩) else none
def Mem.kill (σ:Mem) (k:Nat):Mem:=⟨Tr.put σ.t k none,σ.nx,σ.it⟩
def Mem.load (σ:Mem) (blk off n:Nat):Option (List AV):=match σ.t.get blk with
 | some b=>zL n (zI off b.cells)
 | none=>none
def Mem.store (σ:Mem) (blk off:Nat) (vs:List AV):Option Mem:=match σ.t.get blk with
 | some b=>match zY off vs b.cells with
  | some cs=>some ⟨Tr.put σ.t blk (some ⟨b.elem,b.plain,cs⟩),σ.nx,σ.it⟩
  | none=>none
 | none=>none
def zD {α:Type} (n:Nat) (l:List α):Bool:=match n,l with
 | 0,[]=>true
 | n+1,_::l=>zD n l
 | _,_=>false
abbrev T:=Tr AV
def X.ev (x:X) (τ:T):AV:=match x with
 | .k v=>v
 | .t n=>match τ.get n with | some v=>v | none=>yY
def evs (τ:T):List X→List AV
 | []=>[]
 | x::r=>x.ev τ::evs τ r
def wT (τ:T):List (Nat×Nat×X)→List AV→Option (List AV)
 | [],z=>some z
 | (off,n,x)::r,z=>match (x.ev τ).cells with
  | cs=>if zD n cs&&jN cs then (match zY off cs z with | some z=>wT τ r z | none=>none) else none
def asN (v:AV):Option Nat:=match v with
 | .i _ (.ofNat n)=>some n
 | _=>none
def asI (v:AV):Option Nat:=match v with
 | .i .i64 (.ofNat n)=>some n
 | _=>none
def vS (len:Nat) (lo hi:Option AV):Option (Nat×Nat):=
 match (match hi with | none=>some len | some v=>asN v) with
 | none=>none
 | some h=>match (match lo with | none=>some 0 | some v=>asN v) with
  | none=>none
  | some l=>if Nat.ble l h&&Nat.ble h len then some (l,h) else none
def X.evO (τ:T) (x:Option X):Option AV:=match x with | some x=>some (x.ev τ) | none=>none
def ldA (σ:Mem) (b o:Nat) (n:Option Nat):Option AV:=match n with
 | none=>match σ.load b o 1 with | some (v::_)=>some v | _=>none
 | some n=>match σ.load b o n with | some l=>some (.agg l) | none=>none
def fdA (l:List AV) (off:Nat) (n:Option Nat):Option AV:=match n with
 | none=>hN off l
 | some n=>match zL n (zI off l) with | some l=>some (.agg l) | none=>none
def xT (c a b:X) (τ:T):Option AV:=match c.ev τ with | .b true=>some (a.ev τ) | .b false=>some (b.ev τ) | _=>none
def xBd (z:List AV) (ps:List (Nat×Nat×X)) (τ:T):Option AV:=match wT τ ps z with | some l=>some (.agg l) | none=>none
def xLd (n:Option Nat) (a:X) (τ:T) (σ:Mem):Option AV:=match a.ev τ with
 | .p b o=>ldA σ b o n
 | .fq z=>(match n with | none=>some (.i .i64 z) | some _=>none)
 | _=>none
def xNc (x:X) (τ:T):Option AV:=match x.ev τ with | .p b o=>some (.p b o) | .f a b c=>some (.f a b c) | _=>none
def xBe (g:Bool) (x y:X) (τ:T):Option AV:=match x.ev τ,y.ev τ with | .b a,.b b=>some (.b (if g then !(a==b) else a==b)) | _,_=>none
def qHj:IntKind→Nat
 | .i8=>127 | .i16=>32767 | .i32=>2147483647 | .i64=>9223372036854775807 | .u8=>255 | .u16=>65535 | .u32=>4294967295 | .u64=>18446744073709551615
def xCi (k:IntKind) (x:X) (τ:T):Option AV:=match x.ev τ with
 | .i _ n=>mkI k n
 | .mr q _ lo hi=>if Nat.ble hi (qHj k) then some (.mr q k lo hi) else none
 | _=>none
def isB (x:AV):Bool:=match sI x with | some (k,_,hi)=>eqK k .u8&&Nat.blt hi 256 | none=>false
def jWr:List AV→Bool
 | []=>true
 | x::r=>isB x&&jWr r
def fY (n:Nat) (l:Option (List AV)):Option AV:=match l with
 | some l=>match dR l with | some v=>some (.s n v) | none=>if jWr l then some (.sm l) else none
 | none=>none
def xBt (x:X) (τ:T) (σ:Mem):Option AV:=match x.ev τ with
 | .sl0=>some (.s 0 0)
 | .sl b o n sz=>if Nat.beq n 0 then some (.s 0 0) else if Nat.beq sz 1 then fY n (σ.load b o n) else none
 | _=>none
def xCs (x:X) (τ:T):Option AV:=match x.ev τ with | .s n v=>some (.s n v) | .sm l=>some (.sm l) | _=>none
def gA (v:Nat) (b:Option (Nat×Nat)):Option AV:=match b with
 | some (a,b)=>jFj (Nat.sub b a) (Nat.mod (Nat.div v (Nat.pow 256 a)) (Nat.pow 256 (Nat.sub b a)))
 | none=>none
def qMu (l:List AV) (b:Option (Nat×Nat)):Option AV:=match b with
 | some (a,b)=>match zL (Nat.sub b a) (zI a l) with | some l=>some (qEa l) | none=>none
 | none=>none
def xSs (x:X) (lo hi:Option X) (τ:T):Option AV:=match x.ev τ with
 | .s n v=>gA v (vS n (X.evO τ lo) (X.evO τ hi))
 | .sm l=>qMu l (vS (bW l 0) (X.evO τ lo) (X.evO τ hi))
 | _=>none
def fZ (b o sz:Nat) (w:Option (Nat×Nat)):Option AV:=match w with
 | some (l,h)=>if Nat.beq l h then (if Nat.beq l 0 then some (.sl b o 0 sz) else some (.sl 0 0 0 sz)) else jY (o+l*sz) fun o=>jY (h - l) fun n=>some (.sl b o n sz)
 | none=>none
def xSl (sz:Nat) (x:X) (lo hi:Option X) (τ:T):Option AV:=match x.ev τ with
 | .sl0=>match vS 0 (X.evO τ lo) (X.evO τ hi) with | some _=>some .sl0 | none=>none
 | .sl b o n sz'=>if Nat.beq sz sz' then fZ b o sz (vS n (X.evO τ lo) (X.evO τ hi)) else none
 | _=>none
def xFa (off:Nat) (x:X) (τ:T):Option AV:=match x.ev τ with | .p b o=>jY (o+off) fun o=>some (.p b o) | _=>none
def xFd (off:Nat) (n:Option Nat) (x:X) (τ:T):Option AV:=match x.ev τ with
 | .agg l=>fdA l off n
 | _=>none
def xIa (sz:Nat) (x i:X) (τ:T):Option AV:=match x.ev τ,asN (i.ev τ) with
 | .sl b o n _,some k=>if Nat.blt k n then jY (o+k*sz) fun o=>some (.p b o) else none
 | .fi l,some k=>if Nat.beq sz 1 then (match hN k l with | some z=>some (.fq z) | none=>none) else none
 | _,_=>none
def xIq (len sz:Nat) (x i:X) (τ:T):Option AV:=match x.ev τ,asN (i.ev τ) with
 | .p b o,some k=>if Nat.blt k len then jY (o+k*sz) fun o=>some (.p b o) else none
 | _,_=>none
def xIx (x i:X) (τ:T):Option AV:=match x.ev τ,asN (i.ev τ) with
 | .s n v,some k=>if Nat.blt k n then jY (Nat.mod (Nat.div v (Nat.pow 256 k)) 256) fun c=>some (.i .u8 (.ofNat c)) else none
 | .sm l,some k=>hN k l
 | _,_=>none
def xIv (len sz:Nat) (g:Bool) (x i:X) (τ:T):Option AV:=match x.ev τ,asN (i.ev τ) with
 | .agg l,some k=>if Nat.blt k len then fdA l (k*sz) (if g then some sz else none) else none
 | _,_=>none
def xEx (n:Nat) (x:X) (τ:T):Option AV:=match x.ev τ with | .tup l=>hN n l | _=>none
def xLn (x:X) (τ:T):Option AV:=match x.ev τ with
 | .s n _=>some (.i .i64 (.ofNat n))
 | .sm l=>some (.i .i64 (.ofNat (bW l 0)))
 | _=>none
def xLm (x:X) (τ:T):Option AV:=match x.ev τ with
 | .sl0=>some (.i .i64 0)
 | .sl _ _ n _=>some (.i .i64 (.ofNat n))
 | .fs _ q lo hi=>some (.mr q .i64 lo hi)
 | .fi l=>some (.i .i64 (.ofNat (bW l 0)))
 | _=>none
def xMx (x y:X) (τ:T):Option AV:=match x.ev τ,y.ev τ with
 | .i k a,.i k' b=>if eqK k k' then some (.i k (if ltI a b then b else a)) else none
 | _,_=>none
def xMn (x y:X) (τ:T):Option AV:=match x.ev τ,y.ev τ with
 | .i k a,.i k' b=>if eqK k k' then some (.i k (if ltI b a then b else a)) else none
 | _,_=>none
def xPe (g:Bool) (x y:X) (τ:T):Option AV:=match x.ev τ,y.ev τ with
 | .p0,.p0=>some (.b (!g))
 | .p0,.p _ _=>some (.b g)
 | .p _ _,.p0=>some (.b g)
 | .p b o,.p b' o'=>if Nat.beq b b' then some (.b (if g then !Nat.beq o o' else Nat.beq o o')) else none
 | _,_=>none
def xIe (g:Bool) (x y:X) (τ:T):Option AV:=match x.ev τ,y.ev τ with
 | .ni,.ni=>some (.b (!g))
 | .ifc _ _,.ni=>some (.b g)
 | .ifx,.ni=>some (.b g)
 | .sl0,.sl0=>some (.b (!g))
 | .sl _ _ _ _,.sl0=>some (.b g)
 | _,_=>none
def qMr (b o:Nat) (blk:Option zE):Option AV:=match blk with
 | some blk=>match hN o blk.cells with | some _=>some (.p b o) | none=>none
 | none=>none
def xPu (x:X) (τ:T) (σ:Mem):Option AV:=match x.ev τ with
 | .p b o=>qMr b o (σ.t.get b)
 | _=>none
def jBt (t:Nat):List (Nat×Nat)→Option Nat
 | []=>none
 | (a,f)::r=>if Nat.beq a t then some f else jBt t r
def qMq (es:List (Nat×Nat)) (b:Nat) (blk:Option zE):Option AV:=match blk with
 | some blk=>(match jBt blk.elem es with
  | some sz=>(match zL sz blk.cells with | some _=>some (.p b 0) | none=>none)
  | none=>none)
 | none=>none
def xPf (es:List (Nat×Nat)) (x:X) (τ:T) (σ:Mem):Option AV:=match x.ev τ with
 | .p b 0=>qMq es b (σ.t.get b)
 | _=>none
def xSd (x:X) (τ:T):Option AV:=match x.ev τ with
 | .sl0=>some .p0
 | .sl b o n _=>if Nat.beq n 0 then none else some (.p b o)
 | _=>none
def eqV (k:Nat) (x y:AV):Option Bool:=match k with
 | 0=>(match x,y with | .b a,.b b=>some (a==b) | _,_=>none)
 | 1=>(match x,y with | .i k a,.i k' b=>if eqK k k' then some (eqI a b) else none | _,_=>none)
 | _=>(match x,y with | .s n v,.s m u=>some (eqS n v m u) | _,_=>none)
def oC (l l':List AV):List (Nat×Nat)→Option Bool
 | []=>some true
 | (o,k)::r=>match hN o l,hN o l' with
  | some x,some y=>(match eqV k x y with | some true=>oC l l' r | some false=>some false | none=>none)
  | _,_=>none
def qMt (g:Bool) (b:Option Bool):Option AV:=match b with | some b=>some (.b (if g then !b else b)) | none=>none
def xSe (g:Bool) (offs:List (Nat×Nat)) (x y:X) (τ:T):Option AV:=match x.ev τ,y.ev τ with
 | .agg l,.agg l'=>qMt g (oC l l' offs)
 | _,_=>none
def jYr (c:Nat):List Nat→Nat→Int
 | [],_=>.negSucc 0
 | a::r,k=>if Nat.beq a c then .ofNat k else jYr c r (Nat.add k 1)
def jUq (c:Nat):List Nat→Nat→Nat
 | [],k=>k
 | a::r,k=>if Nat.beq a c then jUq c r (Nat.add k 1) else jUq c r k
def qDt (c:Nat):List AV→Nat→Option Int
 | [],_=>some (.negSucc 0)
 | a::r,k=>match jXh a (.i .u8 (.ofNat c)) with | some true=>some (.ofNat k) | some false=>qDt c r (Nat.add k 1) | none=>none
def jXk (c:Nat):List AV→Nat→Option Nat
 | [],k=>some k
 | a::r,k=>match jXh a (.i .u8 (.ofNat c)) with | some true=>jXk c r (Nat.add k 1) | some false=>jXk c r k | none=>none
def xXi (x y:X) (τ:T):Option AV:=match x.ev τ,y.ev τ with
 | .s n v,.i .u8 (.ofNat c)=>if Nat.blt c 256 then wY (jYr c (tD n v) 0) fun k=>some (.i .i64 k) else none
 | .sm l,.i .u8 (.ofNat c)=>if Nat.blt c 256 then (match qDt c l 0 with | some k=>wY k fun k=>some (.i .i64 k) | none=>none) else none
 | _,_=>none
def xXc (x y:X) (τ:T):Option AV:=match x.ev τ,y.ev τ with
 | .s n v,.i .u8 (.ofNat c)=>if Nat.blt c 256 then jY (jUq c (tD n v) 0) fun k=>some (.i .i64 (.ofNat k)) else none
 | .sm l,.i .u8 (.ofNat c)=>if Nat.blt c 256 then (match jXk c l 0 with | some k=>jY k fun k=>some (.i .i64 (.ofNat k)) | none=>none) else none
 | _,_=>none
def qMc (b:ByteArray):Option AV:=jFj b.data.toList.length (qF b.data.toList)
def xIs (x:X) (τ:T):Option AV:=match x.ev τ with | .i _ n=>qMc (Utf8.encode n) | _=>none
def xCn (x:X) (τ:T):Option AV:=match x.ev τ with | .sl0=>some (.i .i64 0) | _=>none
def xCy (x y:X) (τ:T):Option AV:=match x.ev τ,y.ev τ with
 | .sl _ _ n _,.sl0=>some (.i .i64 0)
 | .sl0,.sl0=>some (.i .i64 0)
 | _,_=>none
def xTa (t:Nat) (x:X) (τ:T):Option AV:=match x.ev τ with
 | .ifc u v=>if Nat.beq u t then some v else none
 | _=>none
def xTk (t:Nat) (z:AV) (x:X) (τ:T):Option AV:=match x.ev τ with
 | .ifc u v=>some (if Nat.beq u t then .tup [v,.b true] else .tup [z,.b false])
 | .ni=>some (.tup [z,.b false])
 | _=>none
def pS (n v:Nat):List (Nat×Nat×AV)→Option AV
 | []=>none
 | (m,u,x)::r=>if eqS n v m u then some x else pS n v r
def jZx (n v:Nat) (x:AV):List (Nat×Nat×AV)→List (Nat×Nat×AV)
 | []=>[(n,v,x)]
 | (m,u,y)::r=>if eqS n v m u then (m,u,x)::r else (m,u,y)::jZx n v x r
def lkR (ok:Bool) (z:AV) (r:Option AV):AV:=match r with
 | some x=>if ok then .tup [x,.b true] else x
 | none=>if ok then .tup [z,.b false] else z
def jRc (l:List AV):List (Nat×Nat×AV)→Option (Option AV)
 | []=>some none
 | (m,u,x)::r=>match jUt l (u8s (tD m u)) with | some true=>some (some x) | some false=>jRc l r | none=>none
def lkS (ok:Bool) (z:AV) (k:List AV) (i:Option It):Option AV:=match i with
 | some (.mp l)=>match jRc k l with | some r=>some (lkR ok z r) | none=>none
 | _=>none
def lkI (ok:Bool) (z:AV) (n v:Nat) (i:Option It):Option AV:=match i with
 | some (.mp l)=>some (lkR ok z (pS n v l))
 | _=>none
def xLk (ok:Bool) (z:AV) (m k:X) (τ:T) (σ:Mem):Option AV:=match m.ev τ,k.ev τ with
 | .mp b,.s n v=>lkI ok z n v (σ.it.get b)
 | .mp b,.sm l=>lkS ok z l (σ.it.get b)
 | _,_=>none
def xAz (s x:X) (τ:T):Option AV:=match s.ev τ,x.ev τ with
 | .sl0,.i _ (.ofNat 0)=>some .sl0
 | .sl b o n z,.i _ (.ofNat 0)=>some (.sl b o n z)
 | _,_=>none
def jM (c:C) (τ:T) (σ:Mem):Option AV:=match c with
 | .mv x=>some (x.ev τ)
 | .pick c a b=>xT c a b τ
 | .bd z ps=>xBd z ps τ
 | .ld n a=>xLd n a τ σ
 | .nc x=>xNc x τ
 | .bi o x y=>jUi o (x.ev τ) (y.ev τ)
 | .be g x y=>xBe g x y τ
 | .un o x=>unA o (x.ev τ)
 | .ci k x=>xCi k x τ
 | .bt x=>xBt x τ σ
 | .cs x=>xCs x τ
 | .mf f a b=>some (.f f (evs τ a) (evs τ b))
 | .ss x lo hi=>xSs x lo hi τ
 | .sl sz x lo hi=>xSl sz x lo hi τ
 | .fa off x=>xFa off x τ
 | .fd off n x=>xFd off n x τ
 | .ia sz x i=>xIa sz x i τ
 | .iq len sz x i=>xIq len sz x i τ
 | .ix x i=>xIx x i τ
 | .iv len sz g x i=>xIv len sz g x i τ
 | .ex n x=>xEx n x τ
 | .ln x=>xLn x τ
 | .lm x=>xLm x τ
 | .mx x y=>xMx x y τ
 | .mn x y=>xMn x y τ
 | .pe g x y=>xPe g x y τ
 | .ie g x y=>xIe g x y τ
 | .pu x=>xPu x τ σ
 | .pf es x=>xPf es x τ σ
 | .id1 x=>some (x.ev τ)
 | .sd x=>xSd x τ
 | .se g offs x y=>xSe g offs x y τ
 | .xi x y=>xXi x y τ
 | .xc x y=>xXc x y τ
 | .cn x=>xCn x τ
 | .is x=>xIs x τ
 | .cy x y=>xCy x y τ
 | .mi t x=>some (.ifc t (x.ev τ))
 | .ta t x=>xTa t x τ
 | .az s x=>xAz s x τ
 | .lk ok z m k=>xLk ok z m k τ σ
 | .tk t z x=>xTk t z x τ
 | _=>none
def aH (σ:Mem) (sz:Nat) (x:AV):Option (Nat×List AV):=match x with
 | .sl0=>some (0,[])
 | .sl b o n sz'=>if Nat.beq sz sz' then (if Nat.beq n 0 then some (0,[]) else match σ.load b o (n*sz) with | some l=>some (n,l) | none=>none) else none
 | _=>none
def fC (σ:Mem) (e:Nat) (plain:Bool) (cells:List AV) (k:Nat→AV):Option (AV×Mem):=
 if jN cells then (match σ.new ⟨e,plain,cells⟩ with
 | some (b,σ)=>some (k b,σ)
 | none=>none) else none
mutual
def AV.flat:AV→Bool
 | .b _=>true
 | .i _ _=>true
 | .s _ _=>true
 | .ni=>true
 | .ifc _ v=>AV.flat v
 | .m _=>true
 | .ifx=>true
 | .mr _ _ _ _=>true
 | .fs _ _ _ _=>true
 | .fi _=>true
 | .fq _=>true
 | .sm l=>lE l
 | .tup l=>lE l
 | _=>false
def lE:List AV→Bool
 | []=>true
 | x::l=>AV.flat x&&lE l
end
def bY:Mem:=⟨.e,1,.e⟩
abbrev xC:=Nat→List AV→Mem→Option (AV×Mem)
def eBx (e:Nat) (l:List AV) (σ:Mem):Option (AV×Mem):=if jN l then fC σ e true l fun b=>.p b 0 else none
def eBs (e sz len:Nat) (l:Option (List AV)) (σ:Mem):Option (AV×Mem):=match l with
 | some l=>fC σ e true l fun b=>.sl b 0 len sz
 | none=>none
def qGq (b o n:Nat) (l:List AV) (σ:Mem):Option (AV×Mem):=
 if zD n l&&jN l then (match σ.store b o l with | some σ=>some (yY,σ) | none=>none) else none
def eSt (n:Nat) (a x:X) (τ:T) (σ:Mem):Option (AV×Mem):=match a.ev τ with
 | .p b o=>qGq b o n (x.ev τ).cells σ
 | _=>none
def eSb (e:Nat) (x:X) (τ:T) (σ:Mem):Option (AV×Mem):=match x.ev τ with
 | .s n v=>if Nat.ble n 1000000000 then fC σ e false (u8s (tD n v)) fun b=>.sl b 0 n 1 else none
 | .sm l=>if Nat.ble (bW l 0) 1000000000 then fC σ e false l fun b=>.sl b 0 (bW l 0) 1 else none
 | _=>none
def eCp (call:xC) (f:Nat) (l:List AV) (σ:Mem):Option (AV×Mem):=
 if lE l then (match call f l bY with
  | some (v,_)=>if v.flat then some (v,σ) else none
  | none=>none) else none
mutual
def AV.okIn (p:Nat→Bool):AV→Bool
 | .p b _=>p b
 | .sl b _ n _=>p b||(Nat.beq b 0&&Nat.beq n 0)
 | .mp b=>p b||Nat.beq b 0
 | .f _ a c=>mJ p a&&mJ p c
 | .ifc _ v=>AV.okIn p v
 | .sm l=>mJ p l
 | .agg l=>mJ p l
 | .tup l=>mJ p l
 | _=>true
def mJ (p:Nat→Bool):List AV→Bool
 | []=>true
 | x::l=>AV.okIn p x&&mJ p l
end
mutual
def AV.hasB (k:Nat):AV→Bool
 | .p b _=>Nat.beq b k
 | .sl b _ _ _=>Nat.beq b k
 | .mp b=>Nat.beq b k
 | .f _ a c=>dZ k a||dZ k c
 | .ifc _ v=>AV.hasB k v
 | .sm l=>dZ k l
 | .agg l=>dZ k l
 | .tup l=>dZ k l
 | _=>false
def dZ (k:Nat):List AV→Bool
 | []=>false
 | x::l=>AV.hasB k x||dZ k l
end
def jIe:Mem:=⟨.e,500000000,.e⟩
def jOe (l:List AV) (σ:Mem) (r:Option (AV×Mem)):Option (AV×Mem):=match r with
 | some (v,_)=>if v.okIn (fun b=>Nat.blt 0 b&&dZ b l) then some (v,σ) else none
 | none=>none
def eCq (call:xC) (f:Nat) (l:List AV) (σ:Mem):Option (AV×Mem):=
 if mJ (fun b=>Nat.blt b 500000000) l then jOe l σ (call f l jIe) else none
def eCv (call:xC) (x:AV) (l:List AV) (σ:Mem):Option (AV×Mem):=match x with
 | .f fn a b=>call fn (a++l++b) σ
 | _=>none
def qGp (e sz b n m:Nat) (news:List AV) (blk:Option zE) (σ:Mem):Option (AV×Mem):=match blk with
 | some blk=>if blk.plain&&Nat.beq blk.elem e then (match zL (n*sz) blk.cells with
  | some old=>jY (n+m) fun nm=>fC (σ.kill b) e true (old++news) fun b=>.sl b 0 nm sz
  | none=>none) else none
 | none=>none
def qKs (s:AV) (σ:Mem):Option (AV×Mem):=match s with
 | .sl0=>some (.sl0,σ)
 | .sl b o n z=>some (.sl b o n z,σ)
 | _=>none
def jAn (e sz by_ m:Nat) (news:List AV) (s:AV) (σ:Mem):Option (AV×Mem):=if Nat.beq m 0 then qKs s σ else match s with
 | .sl0=>if Nat.beq m 0 then some (.sl0,σ) else if Nat.ble (m*by_) 100000000000000&&Nat.ble m 100000000000000 then jY m fun m=>fC σ e true news fun b=>.sl b 0 m sz else none
 | .sl b 0 n sz'=>if Nat.beq sz sz'&&Nat.ble ((n+m)*by_) 100000000000000&&Nat.ble (n+m) 100000000000000 then qGp e sz b n m news (σ.t.get b) σ else none
 | _=>none
def eAp (e sz by_:Nat) (s:AV) (src:Option (Nat×List AV)) (σ:Mem):Option (AV×Mem):=match src with
 | none=>none
 | some (m,news)=>jAn e sz by_ m news s σ
def eP (σ:Mem) (v:Option AV):Option (AV×Mem):=match v with | some v=>some (v,σ) | none=>none
def eAs (e:Nat) (s x:AV) (σ:Mem):Option (AV×Mem):=match x with
 | .s m v=>jAn e 1 1 m (u8s (tD m v)) s σ
 | .sm l=>jAn e 1 1 (bW l 0) l s σ
 | _=>none
def qKz (n b:Nat) (l:Option (List AV)) (σ:Mem):Option (AV×Mem):=match l with
 | some l=>match dR l with | some v=>some (.s n v,σ.kill b) | none=>if jWr l then some (.sm l,σ.kill b) else none
 | none=>none
def qKy (e n b:Nat) (blk:Option zE) (σ:Mem):Option (AV×Mem):=match blk with
 | some blk=>if Nat.beq blk.elem e&&Nat.ble n 1000000000 then qKz n b (σ.load b 0 n) σ else none
 | none=>none
def eUs (e:Nat) (p:AV) (n:Option Nat) (σ:Mem):Option (AV×Mem):=match n with
 | none=>none
 | some n=>match p with
  | .p0=>if Nat.beq n 0 then some (.s 0 0,σ) else none
  | .p b 0=>if Nat.beq n 0 then some (.s 0 0,σ) else qKy e n b (σ.t.get b) σ
  | _=>none
def qKx (b o n sz:Nat) (blk:Option zE) (σ:Mem):Option (AV×Mem):=match blk with
 | some blk=>if blk.plain then some (.sl b o n sz,⟨Tr.put σ.t b (some ⟨blk.elem,false,blk.cells⟩),σ.nx,σ.it⟩) else none
 | none=>none
def eSm (x:AV) (σ:Mem):Option (AV×Mem):=match x with
 | .sl b o n sz=>qKx b o n sz (σ.t.get b) σ
 | _=>none
def eRg (x:AV) (σ:Mem):Option (AV×Mem):=match x with
 | .s n v=>if Nat.ble 0 σ.nx then some (.p σ.nx 0,⟨σ.t,σ.nx+1,Tr.put σ.it σ.nx (some (.it n v 0))⟩) else none
 | .sm l=>if Nat.ble 0 σ.nx then some (.p σ.nx 0,⟨σ.t,σ.nx+1,Tr.put σ.it σ.nx (some (.im l 0))⟩) else none
 | _=>none
def qKu (b n v p c:Nat) (σ:Mem):Option (AV×Mem):=
 if Nat.blt c 128 then jY (Nat.add p 1) fun p'=>some (.tup [.b true,.i .i64 (.ofNat p),.i .i32 (.ofNat c)],⟨σ.t,σ.nx,Tr.put σ.it b (some (.it n v p'))⟩) else none
def qFz (x:AV):Option AV:=match x with
 | .i .u8 (.ofNat c)=>if Nat.blt c 128 then some (.i .i32 (.ofNat c)) else none
 | .mr k .u8 lo hi=>if Nat.blt hi 128 then some (.mr k .i32 lo hi) else none
 | _=>none
def qKw (b:Nat) (l:List AV) (p:Nat) (x:Option AV) (σ:Mem):Option (AV×Mem):=match x with
 | none=>some (.tup [.b false],σ)
 | some x=>match qFz x with
  | some r=>jY (Nat.add p 1) fun p'=>some (.tup [.b true,.i .i64 (.ofNat p),r],⟨σ.t,σ.nx,Tr.put σ.it b (some (.im l p'))⟩)
  | none=>none
def qKv (b:Nat) (i:Option It) (σ:Mem):Option (AV×Mem):=match i with
 | some (.im l p)=>qKw b l p (hN p l) σ
 | some (.it n v p)=>if Nat.blt p n then jY (Nat.mod (Nat.div v (Nat.pow 256 p)) 256) fun c=>qKu b n v p c σ else some (.tup [.b false],σ)
 | _=>none
def eNx (x:AV) (σ:Mem):Option (AV×Mem):=match x with
 | .p b 0=>qKv b (σ.it.get b) σ
 | _=>none
def eMz (e:Nat) (n:Option Nat) (σ:Mem):Option (AV×Mem):=match n with
 | some n=>if Nat.ble n 1000000000 then fC σ e true [] fun b=>.sl b 0 n 1 else none
 | none=>none
def sJ (z:List AV):Nat→List AV
 | 0=>[]
 | n+1=>z++sJ z n
def eMk (e sz by_:Nat) (z:List AV) (n c:AV) (σ:Mem):Option (AV×Mem):=match n,c with
 | .i _ (.ofNat l),.i _ (.ofNat m)=>if Nat.ble m 1000000000&&Nat.ble (m*by_) 100000000000000&&Nat.ble l m&&Nat.ble l 100000 then fC σ e true (sJ z l) fun b=>.sl b 0 l sz else none
 | _,_=>none
def eIk (call:xC) (tbl:List (Nat×Nat)) (x:AV) (l:List AV) (σ:Mem):Option (AV×Mem):=match x with
 | .ifc t v=>(match jBt t tbl with | some f=>call f (v::l) σ | none=>none)
 | _=>none
def eMm (σ:Mem):Option (AV×Mem):=if Nat.ble 0 σ.nx then some (.mp σ.nx,⟨σ.t,σ.nx+1,Tr.put σ.it σ.nx (some (.mp []))⟩) else none
def qKt (b n v:Nat) (x:AV) (i:Option It) (σ:Mem):Option (AV×Mem):=match i with
 | some (.mp l)=>if x.one then some (yY,⟨σ.t,σ.nx,Tr.put σ.it b (some (.mp (jZx n v x l)))⟩) else none
 | _=>none
def eMu (m k x:AV) (σ:Mem):Option (AV×Mem):=match m,k with
 | .mp b,.s n v=>qKt b n v x (σ.it.get b) σ
 | _,_=>none
def zV (call:xC) (c:C) (τ:T) (σ:Mem):Option (AV×Mem):=match c with
 | .al e z=>fC σ e true z fun b=>.p b 0
 | .bx e x=>eBx e (x.ev τ).cells σ
 | .bs e sz z len ps=>eBs e sz len (wT τ ps z) σ
 | .st n a x=>eSt n a x τ σ
 | .sb e x=>eSb e x τ σ
 | .cf f xs=>call f (evs τ xs) σ
 | .cp f xs=>eCp call f (evs τ xs) σ
 | .cq f xs=>eCq call f (evs τ xs) σ
 | .cv x xs=>eCv call (x.ev τ) (evs τ xs) σ
 | .ap e sz by_ s x=>eAp e sz by_ (s.ev τ) (aH σ sz (x.ev τ)) σ
 | .as_ e s x=>eAs e (s.ev τ) (x.ev τ) σ
 | .us e p n=>eUs e (p.ev τ) (asI (n.ev τ)) σ
 | .sm x=>eSm (x.ev τ) σ
 | .rg x=>eRg (x.ev τ) σ
 | .mz e x=>eMz e (asI (x.ev τ)) σ
 | .nx x=>eNx (x.ev τ) σ
 | .mk e sz by_ z n c=>eMk e sz by_ z (n.ev τ) (c.ev τ) σ
 | .mm=>eMm σ
 | .mu m k v=>eMu (m.ev τ) (k.ev τ) (v.ev τ) σ
 | .ik tbl x xs=>eIk call tbl (x.ev τ) (evs τ xs) σ
 | c=>eP σ (jM c τ σ)
def gQ (τ:T) (d:Option Nat) (v:AV):T:=match d with
 | some d=>Tr.put τ d (some v)
 | none=>τ
def qBa (w:Bool) (v:AV):Option Bool:=match v with
 | .b x=>some (x==w)
 | .tup []=>some false
 | _=>none
def vM (g:Option (Nat×Bool)) (τ:T):Option Bool:=match g with
 | none=>some true
 | some (t,w)=>qBa w ((X.t t).ev τ)
def kX (call:xC):List O→T→Mem→Option (T×Mem)
 | [],τ,σ=>some (τ,σ)
 | o::r,τ,σ=>match vM o.g τ with
  | some true=>(match zV call o.c τ σ with
   | some (v,σ)=>kX call r (gQ τ o.d v) σ
   | none=>none)
  | some false=>kX call r (gQ τ o.d yY) σ
  | none=>none
mutual
def AV.beq:AV→AV→Bool
 | .b x,.b y=>x==y
 | .i k n,.i k' n'=>eqK k k'&&eqI n n'
 | .s n v,.s m u=>Nat.beq n m&&Nat.beq v u
 | .p0,.p0=>true
 | .p b o,.p b' o'=>Nat.beq b b'&&Nat.beq o o'
 | .sl0,.sl0=>true
 | .sl b o n z,.sl b' o' n' z'=>Nat.beq b b'&&Nat.beq o o'&&Nat.beq n n'&&Nat.beq z z'
 | .f0,.f0=>true
 | .ni,.ni=>true
 | .ifc t v,.ifc t' v'=>Nat.beq t t'&&AV.beq v v'
 | .f a b c,.f a' b' c'=>Nat.beq a a'&&lQ b b'&&lQ c c'
 | .m k,.m k'=>Nat.beq k k'
 | .mp k,.mp k'=>Nat.beq k k'
 | .ifx,.ifx=>true
 | .mr k d a b,.mr k' d' a' b'=>Nat.beq k k'&&eqK d d'&&Nat.beq a a'&&Nat.beq b b'
 | .fs k q a b,.fs k' q' a' b'=>Nat.beq k k'&&Nat.beq q q'&&Nat.beq a a'&&Nat.beq b b'
 | .fi l,.fi m=>decide (l=m)
 | .fq a,.fq b=>decide (a=b)
 | .sm l,.sm l'=>lQ l l'
 | .agg l,.agg l'=>lQ l l'
 | .tup l,.tup l'=>lQ l l'
 | _,_=>false
def lQ:List AV→List AV→Bool
 | [],[]=>true
 | x::l,y::l'=>AV.beq x y&&lQ l l'
 | _,_=>false
end
def C.acts:C→Bool
 | .al .. | .bx .. | .bs .. | .st .. | .sb .. | .cf .. | .cv .. | .ap .. | .as_ .. | .us .. | .sm .. | .rg .. | .nx .. | .mz .. | .mk .. | .mm | .mu .. | .ik .. => true
 | _=>false
def C.reads:C→Bool
 | .ld .. | .bt .. | .pu .. | .pf .. | .lk .. => true
 | _=>false
def stable (c:C) (τ:T) (v:AV) (lo hi:Nat):List Mem→Nat→Bool
 | [],_=>true
 | σ::r,k=>(if Nat.ble lo k&&Nat.ble k hi then (match jM c τ σ with | some u=>AV.beq u v | none=>false) else true)&&(match k with | 0=>true | k+1=>stable c τ v lo hi r k)
structure Rd where
 c:C
 τ:T
 v:AV
 lo:Nat
 hi:Nat
def kI (h:List Mem) (k:Nat):List Rd→Bool
 | []=>true
 | x::r=>stable x.c x.τ x.v x.lo x.hi h k&&kI h k r
def jCa (o:O) (τ:T) (v:AV) (rs:List Rd):List Rd:=match o.rd with
 | some (lo,hi)=>⟨o.c,τ,v,lo,hi⟩::rs
 | none=>rs
def zK (call:xC):List O→T→List Mem→Nat→List Rd→Option (T×Mem)
 | [],τ,h,k,rs=>if kI h k rs then (match h with | σ::_=>some (τ,σ) | []=>none) else none
 | o::r,τ,h,k,rs=>match h with
  | []=>none
  | σ::_=>match vM o.g τ with
   | some true=>(match zV call o.c τ σ with
    | some (v,σ')=>if o.c.acts then zK call r (gQ τ o.d v) (σ'::h) (k+1) rs else zK call r (gQ τ o.d v) h k (jCa o τ v rs)
    | none=>none)
   | some false=>if o.c.acts then zK call r (gQ τ o.d yY) (σ::h) (k+1) rs else zK call r (gQ τ o.d yY) h k rs
   | none=>none
inductive E where
 | nrm
 | exit (id:Nat)
 | ret
abbrev St:=Option (E×T×Mem)
def iter (body:T→Mem→St):Nat→T→Mem→St
 | 0,_,_=>none
 | n+1,τ,σ=>match body τ σ with
  | some (.nrm,τ,σ)=>iter body n τ σ
  | r=>r
def jWt (τ:T) (b:Nat):List X→Bool
 | []=>true
 | x::r=>(match x.ev τ with | .p b' _ => !Nat.beq b b' | _=>false)&&jWt τ b r
def qNc (τ:T) (fa:Option X) (us:List X):Bool:=match fa with
 | none=>true
 | some a=>(match a.ev τ with | .p b _=>jWt τ b us | _=>false)
def evK (call:xC) (L:Nat):K→T→Mem→St
 | .skip,τ,σ=>some (.nrm,τ,σ)
 | .reg ops,τ,σ=>match kX call ops τ σ with | some (τ,σ)=>some (.nrm,τ,σ) | none=>none
 | .dreg ops,τ,σ=>match zK call ops τ [σ] 0 [] with | some (τ,σ)=>some (.nrm,τ,σ) | none=>none
 | .fr ops fa us,τ,σ=>match zK call ops τ [σ] 0 [] with | some (τ,σ)=>if qNc τ fa us then some (.nrm,τ,σ) else none | none=>none
 | .seq a b,τ,σ=>match evK call L a τ σ with
  | some (.nrm,τ,σ)=>evK call L b τ σ
  | r=>r
 | .cond c a b,τ,σ=>match c.ev τ with
  | .b true=>evK call L a τ σ
  | .b false=>evK call L b τ σ
  | _=>none
 | .block id c,τ,σ=>match evK call L c τ σ with
  | some (.exit k,τ,σ)=>if Nat.beq k id then some (.nrm,τ,σ) else some (.exit k,τ,σ)
  | r=>r
 | .loop c,τ,σ=>iter (evK call L c) L τ σ
 | .exit id,τ,σ=>some (.exit id,τ,σ)
 | .ret,τ,σ=>some (.ret,τ,σ)
 | .no,_,_=>none
def jEc (τ:T) (σ:Mem):List RV0→Option (List AV)
 | []=>some []
 | .t n::r=>match jEc τ σ r with | some l=>some ((X.t n).ev τ::l) | none=>none
 | .c a n::r=>match jM (.ld n (.t a)) τ σ,jEc τ σ r with | some v,some l=>some (v::l) | _,_=>none
def jWh:List AV→AV
 | [v]=>v
 | l=>.tup l
def dL:List AV→Nat→T→T
 | [],_,τ=>τ
 | v::r,k,τ=>dL r (k+1) (Tr.put τ k (some v))
def evF (fs:Nat→Option F) (orc:Nat→List AV→Mem→Option AV) (L:Nat):Nat→xC
 | 0,_,_,_=>none
 | n+1,f,args,σ=>match orc f args σ with
  | some v=>some (v,σ)
  | none=>match fs f with
   | none=>none
   | some g=>if Nat.ble (bW args 0) g.nt then (match evK (evF fs orc L n) L g.body (dL args 0 .e) σ with
     | some (.exit _,_,_)=>none
     | some (_,τ,σ)=>match jEc τ σ g.res with | some l=>some (jWh l,σ) | none=>none
     | none=>none)
    else none
end
end Go.Proofs.YtngfdcnglojcaaaGreatDoor.Ev
