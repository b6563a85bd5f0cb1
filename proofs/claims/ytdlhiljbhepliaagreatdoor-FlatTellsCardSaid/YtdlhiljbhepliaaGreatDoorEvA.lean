/-
A small language for runs of a program's text at closed inputs, and what it computes: definitions alone (values, memory, operations, code, calls). No program is named here.
-/
import GoSem.Core.Region
import GoSem.Core.View
import GoSem.Core.Utf8
set_option linter.all false
namespace Go.Proofs.YtdlhiljbhepliaaGreatDoor.Ev
noncomputable section
open Go
inductive Tr (α:Type) where
 | e
 | n (v:Option α) (l r:Tr α)
def Tr.get {α:Type}:Tr α→Nat→Option α
 | .e,_=>none
 | .n v l r,k=>match k with
  | 0=>v
  | m+1=>if m % 2==0 then l.get (m / 2) else r.get (m / 2)
def Tr.set {α:Type}:Nat→Tr α→Nat→Option α→Tr α
 | 0,t,_,_=>t
 | f+1,.e,k,x=>match k with
  | 0=>.n x .e .e
  | m+1=>if m % 2==0 then .n none (Tr.set f .e (m / 2) x) .e else .n none .e (Tr.set f .e (m / 2) x)
 | f+1,.n v l r,k,x=>match k with
  | 0=>.n x l r
  | m+1=>if m % 2==0 then .n v (Tr.set f l (m / 2) x) r else .n v l (Tr.set f r (m / 2) x)
def Tr.put {α:Type} (t:Tr α) (k:Nat) (x:Option α):Tr α:=Tr.set (Nat.succ k) t k x
inductive AV where
 | b (x:Bool)
 | i (k:IntKind) (n:Int)
 | s (n v:Nat)
 | p0
 | p (blk off:Nat)
 | sl0
 | sl (blk off len sz:Nat)
 | f0
 | f (fn:Nat) (first cap:List AV)
 | ni
 | fi (l:List Int)
 | fq (z:Int)
 | agg (l:List AV)
 | tup (l:List AV)
structure xY where
 elem:Nat
 plain:Bool
 cells:List AV
inductive It where
 | it (n v p:Nat)
structure Mem where
 t:Tr xY
 nx:Nat
 it:Tr It
inductive X where
 | t (n:Nat)
 | k (v:AV)
inductive C where
 | mv (x:X)
 | pick (c a b:X)
 | al (e:Nat) (z:List AV)
 | bx (e:Nat) (x:X)
 | bd (z:List AV) (ps:List (Nat×Nat×X))
 | bs (e sz:Nat) (z:List AV) (len:Nat) (ps:List (Nat×Nat×X))
 | ld (n:Option Nat) (a:X)
 | st (n:Nat) (a x:X)
 | nc (x:X)
 | bi (o:BinOp) (x y:X)
 | be (neg:Bool) (x y:X)
 | un (o:UnOp) (x:X)
 | ci (k:IntKind) (x:X)
 | bt (x:X)
 | mf (f:Nat) (first cap:List X)
 | ss (x:X) (lo hi:Option X)
 | sl (sz:Nat) (x:X) (lo hi:Option X)
 | fa (off:Nat) (x:X)
 | ia (sz:Nat) (x i:X)
 | ix (x i:X)
 | ex (n:Nat) (x:X)
 | cf (f:Nat) (xs:List X)
 | cp (f:Nat) (xs:List X)
 | cv (x:X) (xs:List X)
 | ap (e sz by_:Nat) (s x:X)
 | ln (x:X)
 | lm (x:X)
 | mx (x y:X)
 | mn (x y:X)
 | id1 (x:X)
 | cq (f:Nat) (xs:List X)
 | no
structure O where
 d:Option Nat
 g:Option (Nat×Bool)
 c:C
 rd:Option (Nat×Nat)
inductive K where
 | skip
 | reg (ops:List O)
 | dreg (ops:List O)
 | fr (ops:List O) (fa:Option X) (us:List X)
 | seq (a b:K)
 | cond (c:X) (a b:K)
 | block (id:Nat) (c:K)
 | loop (c:K)
 | exit (id:Nat)
 | ret
 | no
inductive RV0 where
 | t (n:Nat)
 | c (a:Nat) (n:Option Nat)
structure F where
 nt:Nat
 res:List RV0
 body:K
def wE:AV:=.tup []
def AV.cells:AV→List AV
 | .agg l=>l
 | v=>[v]
def AV.one:AV→Bool
 | .agg _=>false
 | .tup _=>false
 | _=>true
def jVp (n:Int):Bool:=match n with | .ofNat m=>Nat.ble m 9223372036854775807 | .negSucc m=>Nat.ble m 9223372036854775807
def qH {α:Type} (n:Nat) (k:Nat→α):α:=Nat.rec (motive:=fun _=>α) (k 0) (fun m _=>k (Nat.succ m)) n
def bJ {α:Type} (n:Int) (k:Int→α):α:=Int.rec (motive:=fun _=>α) (fun m=>qH m fun m=>k (.ofNat m)) (fun m=>qH m fun m=>k (.negSucc m)) n
def jQi (k:IntKind) (n:Int):Int:=match k with
 | .i64=>if jVp n then n else k.wrap n
 | _=>k.wrap n
def mkI (k:IntKind) (n:Int):Option AV:=bJ (jQi k n) fun n=>some (.i k n)
def mkR (k:IntKind) (n:Int):Option AV:=bJ n fun n=>some (.i k n)
def ltL:List Nat→List Nat→Bool
 | _,[]=>false
 | [],_::_=>true
 | a::x,b::y=>Nat.blt a b||(Nat.beq a b&&ltL x y)
def zQ:List UInt8→Nat
 | []=>0
 | b::r=>Nat.add b.toNat (Nat.mul 256 (zQ r))
def qBd:Nat→Nat→List Nat
 | 0,_=>[]
 | n+1,v=>Nat.mod v 256::qBd n (Nat.div v 256)
def jOd (n v:Nat):Option AV:=qH n fun n=>qH v fun v=>some (.s n v)
def ltS (n v m u:Nat):Bool:=ltL (qBd n v) (qBd m u)
def eqS (n v m u:Nat):Bool:=Nat.beq n m&&Nat.beq v u
def jKm {α:Type} (l:List α) (k:Nat):Nat:=match l with | []=>k | _::r=>jKm r (k+1)
def ltI (a b:Int):Bool:=match a,b with
 | .ofNat m,.ofNat n=>Nat.blt m n
 | .negSucc _,.ofNat _=>true
 | .ofNat _,.negSucc _=>false
 | .negSucc m,.negSucc n=>Nat.blt n m
def eqI (a b:Int):Bool:=match a,b with
 | .ofNat m,.ofNat n=>Nat.beq m n
 | .negSucc m,.negSucc n=>Nat.beq m n
 | _,_=>false
def eqK (a b:IntKind):Bool:=match a,b with
 | .i8,.i8=>true | .i16,.i16=>true | .i32,.i32=>true | .i64,.i64=>true
 | .u8,.u8=>true | .u16,.u16=>true | .u32,.u32=>true | .u64,.u64=>true
 | _,_=>false
def sZ (f:∀ n,BitVec n→BitVec n→BitVec n) (k:IntKind) (x y:Int):Option AV:=
 mkI k (Int.ofNat (f k.bits (BitVec.ofInt k.bits x) (BitVec.ofInt k.bits y)).toNat)
def bS (o:BinOp) (k:IntKind) (x y:Int):Option AV:=match o with
 | .add=>mkI k (x+y)
 | .sub=>mkI k (x - y)
 | .mul=>mkI k (x*y)
 | .quo=>if eqI y 0 then none else mkI k (x.tdiv y)
 | .rem=>if eqI y 0 then none else mkR k (x.tmod y)
 | .and=>sZ (fun _ a b=>a &&& b) k x y
 | .or=>sZ (fun _ a b=>a ||| b) k x y
 | .xor=>sZ (fun _ a b=>a ^^^ b) k x y
 | .andNot=>sZ (fun _ a b=>a &&& ~~~b) k x y
 | .eql=>some (.b (eqI x y))
 | .neq=>some (.b (!eqI x y))
 | .lss=>some (.b (ltI x y))
 | .leq=>some (.b (!ltI y x))
 | .gtr=>some (.b (ltI y x))
 | .geq=>some (.b (!ltI x y))
 | _=>none
def qGq (o:BinOp) (n v m u:Nat):Option AV:=match o with
 | .add=>if Nat.ble (Nat.add n m) 140737488355328 then jOd (Nat.add n m) (Nat.add v (Nat.mul u (Nat.pow 256 n))) else none
 | .eql=>some (.b (eqS n v m u))
 | .neq=>some (.b (!eqS n v m u))
 | .lss=>some (.b (ltS n v m u))
 | .leq=>some (.b (ltS n v m u||eqS n v m u))
 | .gtr=>some (.b (!(ltS n v m u||eqS n v m u)))
 | .geq=>some (.b (!ltS n v m u))
 | _=>none
def lE:List AV→Option Nat
 | []=>some 0
 | .i .u8 (.ofNat b)::r=>if Nat.blt b 256 then (match lE r with | some v=>qH (Nat.add b (Nat.mul 256 v)) fun v=>some v | none=>none) else none
 | _=>none
def jBn (o:BinOp):Bool:=match o with | .shl=>true | .shr=>true | _=>false
def jXl (o:BinOp) (x y:AV):Option AV:=match x,y with
 | .i k a,.i k' b=>if jBn o then
   (if ltI b 0 then none else match o with
    | .shl=>mkI k (a*2^(min b.toNat k.bits))
    | .shr=>mkR k (a.fdiv (2^(min b.toNat k.bits)))
    | _=>none)
  else if eqK k k' then bS o k a b else none
 | .s n v,.s m u=>qGq o n v m u
 | _,_=>none
def unA (o:UnOp) (x:AV):Option AV:=match o,x with
 | .neg,.i k n=>mkI k (0 - n)
 | .not,.b b=>some (.b (!b))
 | .xor,.i k n=>sZ (fun _ a b=>a ^^^ b) k (if k.signed then -1 else k.max) n
 | _,_=>none
def yG {α:Type}:Nat→List α→Option (List α)
 | 0,_=>some []
 | _+1,[]=>none
 | n+1,a::l=>match yG n l with | some r=>some (a::r) | none=>none
def yB {α:Type}:Nat→List α→List α
 | 0,l=>l
 | _+1,[]=>[]
 | n+1,_::l=>yB n l
def jAz {α:Type}:List α→List α→Option (List α)
 | [],l=>some l
 | _::_,[]=>none
 | v::vs,_::l=>match jAz vs l with | some r=>some (v::r) | none=>none
def yF {α:Type}:Nat→List α→List α→Option (List α)
 | 0,vs,l=>jAz vs l
 | _+1,_,[]=>none
 | n+1,vs,a::l=>match yF n vs l with | some r=>some (a::r) | none=>none
def jRz {α:Type}:Nat→List α→Option α
 | _,[]=>none
 | 0,a::_=>some a
 | n+1,_::l=>jRz n l
def jS:List AV→Bool
 | []=>true
 | v::r=>v.one&&jS r
def Mem.new (σ:Mem) (b:xY):Option (Nat×Mem):=
 if Nat.ble 0 σ.nx then some (σ.nx,⟨Tr.put σ.t σ.nx (some b),σ.nx+1,σ.it⟩) else none
def Mem.kill (σ:Mem) (k:Nat):Mem:=⟨Tr.put σ.t k none,σ.nx,σ.it⟩
def Mem.load (σ:Mem) (blk off n:Nat):Option (List AV):=match σ.t.get blk with
 | some b=>yG n (yB off b.cells)
 | none=>none
def Mem.store (σ:Mem) (blk off:Nat) (vs:List AV):Option Mem:=match σ.t.get blk with
 | some b=>match yF off vs b.cells with
  | some cs=>some ⟨Tr.put σ.t blk (some ⟨b.elem,b.plain,cs⟩),σ.nx,σ.it⟩
  | none=>none
 | none=>none
def xL {α:Type} (n:Nat) (l:List α):Bool:=match n,l with
 | 0,[]=>true
 | n+1,_::l=>xL n l
 | _,_=>false
abbrev T:=Tr AV
def X.ev (x:X) (τ:T):AV:=match x with
 | .k v=>v
 | .t n=>match τ.get n with | some v=>v | none=>wE
def evs (τ:T):List X→List AV
 | []=>[]
 | x::r=>x.ev τ::evs τ r
def kZ (τ:T):List (Nat×Nat×X)→List AV→Option (List AV)
 | [],z=>some z
 | (off,n,x)::r,z=>match (x.ev τ).cells with
  | cs=>if xL n cs&&jS cs then (match yF off cs z with | some z=>kZ τ r z | none=>none) else none
def asN (v:AV):Option Nat:=match v with
 | .i _ (.ofNat n)=>some n
 | _=>none
def fE (len:Nat) (lo hi:Option AV):Option (Nat×Nat):=
 match (match hi with | none=>some len | some v=>asN v) with
 | none=>none
 | some h=>match (match lo with | none=>some 0 | some v=>asN v) with
  | none=>none
  | some l=>if Nat.ble l h&&Nat.ble h len then some (l,h) else none
def X.evO (τ:T) (x:Option X):Option AV:=match x with | some x=>some (x.ev τ) | none=>none
def ldA (σ:Mem) (b o:Nat) (n:Option Nat):Option AV:=match n with
 | none=>match σ.load b o 1 with | some (v::_)=>some v | _=>none
 | some n=>match σ.load b o n with | some l=>some (.agg l) | none=>none
def vC (c a b:X) (τ:T):Option AV:=match c.ev τ with | .b true=>some (a.ev τ) | .b false=>some (b.ev τ) | _=>none
def xBd (z:List AV) (ps:List (Nat×Nat×X)) (τ:T):Option AV:=match kZ τ ps z with | some l=>some (.agg l) | none=>none
def xLd (n:Option Nat) (a:X) (τ:T) (σ:Mem):Option AV:=match a.ev τ with
 | .p b o=>ldA σ b o n
 | .fq z=>(match n with | none=>some (.i .i64 z) | some _=>none)
 | _=>none
def xNc (x:X) (τ:T):Option AV:=match x.ev τ with | .p b o=>some (.p b o) | .f a b c=>some (.f a b c) | _=>none
def xBe (g:Bool) (x y:X) (τ:T):Option AV:=match x.ev τ,y.ev τ with | .b a,.b b=>some (.b (if g then !(a==b) else a==b)) | _,_=>none
def xCi (k:IntKind) (x:X) (τ:T):Option AV:=match x.ev τ with
 | .i _ n=>mkI k n
 | _=>none
def pU (n:Nat) (l:Option (List AV)):Option AV:=match l with
 | some l=>match lE l with | some v=>some (.s n v) | none=>none
 | none=>none
def xBt (x:X) (τ:T) (σ:Mem):Option AV:=match x.ev τ with
 | .sl0=>some (.s 0 0)
 | .sl b o n sz=>if Nat.beq n 0 then some (.s 0 0) else if Nat.beq sz 1 then pU n (σ.load b o n) else none
 | _=>none
def pW (v:Nat) (b:Option (Nat×Nat)):Option AV:=match b with
 | some (a,b)=>jOd (Nat.sub b a) (Nat.mod (Nat.div v (Nat.pow 256 a)) (Nat.pow 256 (Nat.sub b a)))
 | none=>none
def xSs (x:X) (lo hi:Option X) (τ:T):Option AV:=match x.ev τ with
 | .s n v=>pW v (fE n (X.evO τ lo) (X.evO τ hi))
 | _=>none
def pV (b o sz:Nat) (w:Option (Nat×Nat)):Option AV:=match w with
 | some (l,h)=>if Nat.beq l h then (if Nat.beq l 0 then some (.sl b o 0 sz) else some (.sl 0 0 0 sz)) else qH (o+l*sz) fun o=>qH (h - l) fun n=>some (.sl b o n sz)
 | none=>none
def xSl (sz:Nat) (x:X) (lo hi:Option X) (τ:T):Option AV:=match x.ev τ with
 | .sl0=>match fE 0 (X.evO τ lo) (X.evO τ hi) with | some _=>some .sl0 | none=>none
 | .sl b o n sz'=>if Nat.beq sz sz' then pV b o sz (fE n (X.evO τ lo) (X.evO τ hi)) else none
 | _=>none
def xFa (off:Nat) (x:X) (τ:T):Option AV:=match x.ev τ with | .p b o=>qH (o+off) fun o=>some (.p b o) | _=>none
def xIa (sz:Nat) (x i:X) (τ:T):Option AV:=match x.ev τ,asN (i.ev τ) with
 | .sl b o n _,some k=>if Nat.blt k n then qH (o+k*sz) fun o=>some (.p b o) else none
 | .fi l,some k=>if Nat.beq sz 1 then (match jRz k l with | some z=>some (.fq z) | none=>none) else none
 | _,_=>none
def xIx (x i:X) (τ:T):Option AV:=match x.ev τ,asN (i.ev τ) with
 | .s n v,some k=>if Nat.blt k n then qH (Nat.mod (Nat.div v (Nat.pow 256 k)) 256) fun c=>some (.i .u8 (.ofNat c)) else none
 | _,_=>none
def xEx (n:Nat) (x:X) (τ:T):Option AV:=match x.ev τ with | .tup l=>jRz n l | _=>none
def xLn (x:X) (τ:T):Option AV:=match x.ev τ with
 | .s n _=>some (.i .i64 (.ofNat n))
 | _=>none
def xLm (x:X) (τ:T):Option AV:=match x.ev τ with
 | .sl0=>some (.i .i64 0)
 | .sl _ _ n _=>some (.i .i64 (.ofNat n))
 | .fi l=>some (.i .i64 (.ofNat (jKm l 0)))
 | _=>none
def xMx (x y:X) (τ:T):Option AV:=match x.ev τ,y.ev τ with
 | .i k a,.i k' b=>if eqK k k' then some (.i k (if ltI a b then b else a)) else none
 | _,_=>none
def xMn (x y:X) (τ:T):Option AV:=match x.ev τ,y.ev τ with
 | .i k a,.i k' b=>if eqK k k' then some (.i k (if ltI b a then b else a)) else none
 | _,_=>none
def qL (c:C) (τ:T) (σ:Mem):Option AV:=match c with
 | .mv x=>some (x.ev τ)
 | .pick c a b=>vC c a b τ
 | .bd z ps=>xBd z ps τ
 | .ld n a=>xLd n a τ σ
 | .nc x=>xNc x τ
 | .bi o x y=>jXl o (x.ev τ) (y.ev τ)
 | .be g x y=>xBe g x y τ
 | .un o x=>unA o (x.ev τ)
 | .ci k x=>xCi k x τ
 | .bt x=>xBt x τ σ
 | .mf f a b=>some (.f f (evs τ a) (evs τ b))
 | .ss x lo hi=>xSs x lo hi τ
 | .sl sz x lo hi=>xSl sz x lo hi τ
 | .fa off x=>xFa off x τ
 | .ia sz x i=>xIa sz x i τ
 | .ix x i=>xIx x i τ
 | .ex n x=>xEx n x τ
 | .ln x=>xLn x τ
 | .lm x=>xLm x τ
 | .mx x y=>xMx x y τ
 | .mn x y=>xMn x y τ
 | .id1 x=>some (x.ev τ)
 | _=>none
def iS (σ:Mem) (sz:Nat) (x:AV):Option (Nat×List AV):=match x with
 | .sl0=>some (0,[])
 | .sl b o n sz'=>if Nat.beq sz sz' then (if Nat.beq n 0 then some (0,[]) else match σ.load b o (n*sz) with | some l=>some (n,l) | none=>none) else none
 | _=>none
def pC (σ:Mem) (e:Nat) (plain:Bool) (cells:List AV) (k:Nat→AV):Option (AV×Mem):=
 if jS cells then (match σ.new ⟨e,plain,cells⟩ with
 | some (b,σ)=>some (k b,σ)
 | none=>none) else none
mutual
def AV.flat:AV→Bool
 | .b _=>true
 | .i _ _=>true
 | .s _ _=>true
 | .ni=>true
 | .fi _=>true
 | .fq _=>true
 | .tup l=>jDg l
 | _=>false
def jDg:List AV→Bool
 | []=>true
 | x::l=>AV.flat x&&jDg l
end
def mP:Mem:=⟨.e,1,.e⟩
abbrev yR:=Nat→List AV→Mem→Option (AV×Mem)
def eBx (e:Nat) (l:List AV) (σ:Mem):Option (AV×Mem):=if jS l then pC σ e true l fun b=>.p b 0 else none
def eBs (e sz len:Nat) (l:Option (List AV)) (σ:Mem):Option (AV×Mem):=match l with
 | some l=>pC σ e true l fun b=>.sl b 0 len sz
 | none=>none
def qLb (b o n:Nat) (l:List AV) (σ:Mem):Option (AV×Mem):=
 if xL n l&&jS l then (match σ.store b o l with | some σ=>some (wE,σ) | none=>none) else none
def eSt (n:Nat) (a x:X) (τ:T) (σ:Mem):Option (AV×Mem):=match a.ev τ with
 | .p b o=>qLb b o n (x.ev τ).cells σ
 | _=>none
def eCp (call:yR) (f:Nat) (l:List AV) (σ:Mem):Option (AV×Mem):=
 if jDg l then (match call f l mP with
  | some (v,_)=>if v.flat then some (v,σ) else none
  | none=>none) else none
mutual
def AV.okIn (p:Nat→Bool):AV→Bool
 | .p b _=>p b
 | .sl b _ n _=>p b||(Nat.beq b 0&&Nat.beq n 0)
 | .f _ a c=>tI p a&&tI p c
 | .agg l=>tI p l
 | .tup l=>tI p l
 | _=>true
def tI (p:Nat→Bool):List AV→Bool
 | []=>true
 | x::l=>AV.okIn p x&&tI p l
end
mutual
def AV.hasB (k:Nat):AV→Bool
 | .p b _=>Nat.beq b k
 | .sl b _ _ _=>Nat.beq b k
 | .f _ a c=>tG k a||tG k c
 | .agg l=>tG k l
 | .tup l=>tG k l
 | _=>false
def tG (k:Nat):List AV→Bool
 | []=>false
 | x::l=>AV.hasB k x||tG k l
end
def jKo:Mem:=⟨.e,500000000,.e⟩
def jRg (l:List AV) (σ:Mem) (r:Option (AV×Mem)):Option (AV×Mem):=match r with
 | some (v,_)=>if v.okIn (fun b=>Nat.blt 0 b&&tG b l) then some (v,σ) else none
 | none=>none
def eCq (call:yR) (f:Nat) (l:List AV) (σ:Mem):Option (AV×Mem):=
 if tI (fun b=>Nat.blt b 500000000) l then jRg l σ (call f l jKo) else none
def eCv (call:yR) (x:AV) (l:List AV) (σ:Mem):Option (AV×Mem):=match x with
 | .f fn a b=>call fn (a++l++b) σ
 | _=>none
def qLa (e sz b n m:Nat) (news:List AV) (blk:Option xY) (σ:Mem):Option (AV×Mem):=match blk with
 | some blk=>if blk.plain&&Nat.beq blk.elem e then (match yG (n*sz) blk.cells with
  | some old=>qH (n+m) fun nm=>pC (σ.kill b) e true (old++news) fun b=>.sl b 0 nm sz
  | none=>none) else none
 | none=>none
def qPd (s:AV) (σ:Mem):Option (AV×Mem):=match s with
 | .sl0=>some (.sl0,σ)
 | .sl b o n z=>some (.sl b o n z,σ)
 | _=>none
def jMy (e sz by_ m:Nat) (news:List AV) (s:AV) (σ:Mem):Option (AV×Mem):=if Nat.beq m 0 then qPd s σ else match s with
 | .sl0=>if Nat.beq m 0 then some (.sl0,σ) else if Nat.ble (m*by_) 100000000000000&&Nat.ble m 100000000000000 then qH m fun m=>pC σ e true news fun b=>.sl b 0 m sz else none
 | .sl b 0 n sz'=>if Nat.beq sz sz'&&Nat.ble ((n+m)*by_) 100000000000000&&Nat.ble (n+m) 100000000000000 then qLa e sz b n m news (σ.t.get b) σ else none
 | _=>none
def eAp (e sz by_:Nat) (s:AV) (src:Option (Nat×List AV)) (σ:Mem):Option (AV×Mem):=match src with
 | none=>none
 | some (m,news)=>jMy e sz by_ m news s σ
def eP (σ:Mem) (v:Option AV):Option (AV×Mem):=match v with | some v=>some (v,σ) | none=>none
def jFa (z:List AV):Nat→List AV
 | 0=>[]
 | n+1=>z++jFa z n
def yE (call:yR) (c:C) (τ:T) (σ:Mem):Option (AV×Mem):=match c with
 | .al e z=>pC σ e true z fun b=>.p b 0
 | .bx e x=>eBx e (x.ev τ).cells σ
 | .bs e sz z len ps=>eBs e sz len (kZ τ ps z) σ
 | .st n a x=>eSt n a x τ σ
 | .cf f xs=>call f (evs τ xs) σ
 | .cp f xs=>eCp call f (evs τ xs) σ
 | .cq f xs=>eCq call f (evs τ xs) σ
 | .cv x xs=>eCv call (x.ev τ) (evs τ xs) σ
 | .ap e sz by_ s x=>eAp e sz by_ (s.ev τ) (iS σ sz (x.ev τ)) σ
 | c=>eP σ (qL c τ σ)
def dO (τ:T) (d:Option Nat) (v:AV):T:=match d with
 | some d=>Tr.put τ d (some v)
 | none=>τ
def qEv (w:Bool) (v:AV):Option Bool:=match v with
 | .b x=>some (x==w)
 | .tup []=>some false
 | _=>none
def kD (g:Option (Nat×Bool)) (τ:T):Option Bool:=match g with
 | none=>some true
 | some (t,w)=>qEv w ((X.t t).ev τ)
def gL (call:yR):List O→T→Mem→Option (T×Mem)
 | [],τ,σ=>some (τ,σ)
 | o::r,τ,σ=>match kD o.g τ with
  | some true=>(match yE call o.c τ σ with
   | some (v,σ)=>gL call r (dO τ o.d v) σ
   | none=>none)
  | some false=>gL call r (dO τ o.d wE) σ
  | none=>none
mutual
def AV.beq:AV→AV→Bool
 | .b x,.b y=>x==y
 | .i k n,.i k' n'=>eqK k k'&&eqI n n'
 | .s n v,.s m u=>Nat.beq n m&&Nat.beq v u
 | .p0,.p0=>true
 | .p b o,.p b' o'=>Nat.beq b b'&&Nat.beq o o'
 | .sl0,.sl0=>true
 | .sl b o n z,.sl b' o' n' z'=>Nat.beq b b'&&Nat.beq o o'&&Nat.beq n n'&&Nat.beq z z'
 | .f0,.f0=>true
 | .ni,.ni=>true
 | .f a b c,.f a' b' c'=>Nat.beq a a'&&jCg b b'&&jCg c c'
 | .fi l,.fi m=>decide (l=m)
 | .fq a,.fq b=>decide (a=b)
 | .agg l,.agg l'=>jCg l l'
 | .tup l,.tup l'=>jCg l l'
 | _,_=>false
def jCg:List AV→List AV→Bool
 | [],[]=>true
 | x::l,y::l'=>AV.beq x y&&jCg l l'
 | _,_=>false
end
def C.acts:C→Bool
 | .al .. | .bx .. | .bs .. | .st .. | .cf .. | .cv .. | .ap .. => true
 | _=>false
def C.reads:C→Bool
 | .ld .. | .bt .. => true
 | _=>false
def stable (c:C) (τ:T) (v:AV) (lo hi:Nat):List Mem→Nat→Bool
 | [],_=>true
 | σ::r,k=>(if Nat.ble lo k&&Nat.ble k hi then (match qL c τ σ with | some u=>AV.beq u v | none=>false) else true)&&(match k with | 0=>true | k+1=>stable c τ v lo hi r k)
structure Rd where
 c:C
 τ:T
 v:AV
 lo:Nat
 hi:Nat
def fS (h:List Mem) (k:Nat):List Rd→Bool
 | []=>true
 | x::r=>stable x.c x.τ x.v x.lo x.hi h k&&fS h k r
def jEf (o:O) (τ:T) (v:AV) (rs:List Rd):List Rd:=match o.rd with
 | some (lo,hi)=>⟨o.c,τ,v,lo,hi⟩::rs
 | none=>rs
def xJ (call:yR):List O→T→List Mem→Nat→List Rd→Option (T×Mem)
 | [],τ,h,k,rs=>if fS h k rs then (match h with | σ::_=>some (τ,σ) | []=>none) else none
 | o::r,τ,h,k,rs=>match h with
  | []=>none
  | σ::_=>match kD o.g τ with
   | some true=>(match yE call o.c τ σ with
    | some (v,σ')=>if o.c.acts then xJ call r (dO τ o.d v) (σ'::h) (k+1) rs else xJ call r (dO τ o.d v) h k (jEf o τ v rs)
    | none=>none)
   | some false=>if o.c.acts then xJ call r (dO τ o.d wE) (σ::h) (k+1) rs else xJ call r (dO τ o.d wE) h k rs
   | none=>none
inductive E where
 | nrm
 | exit (id:Nat)
 | ret
abbrev St:=Option (E×T×Mem)
def iter (body:T→Mem→St):Nat→T→Mem→St
 | 0,_,_=>none
 | n+1,τ,σ=>match body τ σ with
  | some (.nrm,τ,σ)=>iter body n τ σ
  | r=>r
def qAe (τ:T) (b:Nat):List X→Bool
 | []=>true
 | x::r=>(match x.ev τ with | .p b' _ => !Nat.beq b b' | _=>false)&&qAe τ b r
def qSd (τ:T) (fa:Option X) (us:List X):Bool:=match fa with
 | none=>true
 | some a=>(match a.ev τ with | .p b _=>qAe τ b us | _=>false)
def evK (call:yR) (L:Nat):K→T→Mem→St
 | .skip,τ,σ=>some (.nrm,τ,σ)
 | .reg ops,τ,σ=>match gL call ops τ σ with | some (τ,σ)=>some (.nrm,τ,σ) | none=>none
 | .dreg ops,τ,σ=>match xJ call ops τ [σ] 0 [] with | some (τ,σ)=>some (.nrm,τ,σ) | none=>none
 | .fr ops fa us,τ,σ=>match xJ call ops τ [σ] 0 [] with | some (τ,σ)=>if qSd τ fa us then some (.nrm,τ,σ) else none | none=>none
 | .seq a b,τ,σ=>match evK call L a τ σ with
  | some (.nrm,τ,σ)=>evK call L b τ σ
  | r=>r
 | .cond c a b,τ,σ=>match c.ev τ with
  | .b true=>evK call L a τ σ
  | .b false=>evK call L b τ σ
  | _=>none
 | .block id c,τ,σ=>match evK call L c τ σ with
  | some (.exit k,τ,σ)=>if Nat.beq k id then some (.nrm,τ,σ) else some (.exit k,τ,σ)
  | r=>r
 | .loop c,τ,σ=>iter (evK call L c) L τ σ
 | .exit id,τ,σ=>some (.exit id,τ,σ)
 | .ret,τ,σ=>some (.ret,τ,σ)
 | .no,_,_=>none
def jGs (τ:T) (σ:Mem):List RV0→Option (List AV)
 | []=>some []
 | .t n::r=>match jGs τ σ r with | some l=>some ((X.t n).ev τ::l) | none=>none
 | .c a n::r=>match qL (.ld n (.t a)) τ σ,jGs τ σ r with | some v,some l=>some (v::l) | _,_=>none
def jZp:List AV→AV
 | [v]=>v
 | l=>.tup l
def nG:List AV→Nat→T→T
 | [],_,τ=>τ
 | v::r,k,τ=>nG r (k+1) (Tr.put τ k (some v))
def evF (fs:Nat→Option F) (orc:Nat→List AV→Mem→Option AV) (L:Nat):Nat→yR
 | 0,_,_,_=>none
 | n+1,f,args,σ=>match orc f args σ with
  | some v=>some (v,σ)
  | none=>match fs f with
   | none=>none
   | some g=>if Nat.ble (jKm args 0) g.nt then (match evK (evF fs orc L n) L g.body (nG args 0 .e) σ with
     | some (.exit _,_,_)=>none
     | some (_,τ,σ)=>match jGs τ σ g.res with | some l=>some (jZp l,σ) | none=>none
     | none=>none)
    else none
end
end Go.Proofs.YtdlhiljbhepliaaGreatDoor.Ev
