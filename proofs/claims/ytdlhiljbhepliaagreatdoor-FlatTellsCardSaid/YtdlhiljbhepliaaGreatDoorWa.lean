/-
Conditions under which code of the small language runs, and what it leaves: computed along the code, memory too. No program is named here.
-/
import Derived.Test.YtdlhiljbhepliaaGreatDoorEvB
namespace Go.Proofs.YtdlhiljbhepliaaGreatDoor.Ev
noncomputable section
set_option linter.all false
open Go
inductive Ty where
 | i (k:IntKind)
 | b
 | s (m:Nat)
 | t (m:Nat)
 | q (T r:Nat)
inductive AT where
 | any
 | q (T:Nat)
 | qs
 | x (w:Nat)
 | agg (l:List AT)
inductive Nd where
 | i (k:IntKind) (n:Int)
 | b (x:Bool)
 | s (n v:Nat)
 | q (w:Nat) (l:List (List Nd))
inductive SV where
 | b (x:Bool)
 | i (k:IntKind) (n:Int)
 | s (n v:Nat)
 | p0
 | sl0
 | tp (i g off:Nat)
 | te (i g k off:Nat)
 | ts (i g n sz:Nat)
 | q (T r n:Nat)
 | qp (T r off:Nat)
 | qs (l:List (Nat×Nat))
 | xs (p:Nat×Nat)
 | f (fn:Nat) (a c:List SV)
 | agg (l:List SV)
 | tup (l:List SV)
 | fis (n:Nat)
 | fqs
 | qx (w:Nat) (l:List (List Nd))
 | xp (l:List Nd)
inductive HC where
 | l (l:List SV)
 | r (T r n:Nat)
 | xs (l:List (Nat×Nat))
 | xr (w:Nat) (l:List (List Nd))
 | rl (T r n:Nat) (l:List SV)
 | dead
structure HB where
 e:Nat
 g:Nat
 c:HC
abbrev Hp:=List HB
structure Tch where
 a:Bool
 l:List Nat
def t0:Tch:=⟨false,[]⟩
inductive AK where
 | str
 | ty (T r:Nat)
structure Cx where
 ct:Nat→Nat→List Ty
 cp:Nat→Nat→Prop
 co:Nat→Nat
 ak:Nat→Option AK
 bt:Nat→Option (List AT)
 sg:Nat→List AT×AT
 G:Nat→List SV→SV→Prop
 rp:Nat→(Nat→AV)→Prop
 rs:Nat→List SV→Prop
 rd:Nat→Nat→Option Nat→SV→Prop
def toR:SV→AV
 | .i k z=>.i k z
 | .s n v=>.s n v
 | _=>.ni
def nlP (n v:Nat):Prop:=∀ k:Nat,k<n→v / 256^k % 256≠10
def qPs:SV→Prop
 | .i _ z=>z≠2
 | .s n w=>nlP n w
 | _=>True
def jOo:List SV→Prop
 | []=>True
 | x::r=>qPs x∧jOo r
abbrev Env:=List (Nat×SV)
def zO {α:Type} (l:List α):Nat→Option α:=List.rec (motive:=fun _=>Nat→Option α) (fun _=>none) (fun a _ ih n=>Nat.rec (motive:=fun _=>Option α) (some a) (fun m _=>ih m) n) l
def jG {α:Type}:List α→Nat→α→List α
 | [],_,_=>[]
 | _::l,0,x=>x::l
 | a::l,n+1,x=>a::jG l n x
def jP {α:Type}:List α→Nat
 | []=>0
 | _::l=>Nat.succ (jP l)
def look:Env→Nat→Option SV
 | [],_=>none
 | p::l,n=>bif Nat.beq p.1 n then some p.2 else look l n
def kS:SV:=.tup []
def SS:Nat:=22200
def TB:Nat:=4000000000
def NB:Nat:=1000000
mutual
def ofA:AV→SV
 | .b x=>.b x
 | .i k n=>.i k n
 | .s n v=>.s n v
 | .p0=>.p0
 | .sl0=>.sl0
 | .agg l=>.agg (ofAs l)
 | .tup l=>.tup (ofAs l)
 | .f fn a c=>.f fn (ofAs a) (ofAs c)
 | _=>.tup []
def ofAs:List AV→List SV
 | []=>[]
 | x::l=>ofA x::ofAs l
end
mutual
def okA:AV→Bool
 | .b _=>true
 | .i _ _=>true
 | .s n v=>Nat.blt v (Nat.pow 256 n)
 | .p0=>true
 | .sl0=>true
 | .agg l=>gJ l
 | .tup l=>gJ l
 | .f _ a c=>gJ a&&gJ c
 | _=>false
def gJ:List AV→Bool
 | []=>true
 | x::l=>okA x&&gJ l
end
abbrev P1:=SV→Prop
def brn (b:Bool) (p q:Prop):Prop:=match b with
 | true=>p
 | false=>q
def req (b:Bool) (p:Prop):Prop:=match b with
 | true=>p
 | false=>False
def fL (E:Env) (n:Nat) (Q:P1):Prop:=match look E n with | some v=>Q v | none=>False
def vx (E:Env) (x:X) (Q:P1):Prop:=match x with
 | .k v=>req (okA v) (Q (ofA v))
 | .t n=>fL E n Q
def vxs (E:Env) (l:List X) (Q:List SV→Prop):Prop:=match l with
 | []=>Q []
 | x::r=>vx E x fun v=>vxs E r fun l=>Q (v::l)
def sV (E:Env) (d:Option Nat) (v:SV):Env:=match d with
 | some d=>(d,v)::E
 | none=>E
def rng (k:IntKind) (z:Int):Prop:=match k with
 | .i64 => -9223372036854775808≤z∧z≤9223372036854775807
 | .u8=>0≤z∧z≤255
 | .i32 => -2147483648≤z∧z≤2147483647
 | .u64=>0≤z∧z≤18446744073709551615
 | _=>False
@[irreducible] def byZ (v:Nat) (k:Int):Int:=((v / 256^k.toNat % 256:Nat):Int)
def spl (p:Prop) (Q:SV→Prop):Prop:=(p→Q (.b true))∧(¬ p→Q (.b false))
def qJg (p:Prop) (Q:SV→Prop):Prop:=(¬ p→Q (.b true))∧(p→Q (.b false))
def okK:IntKind→Bool
 | .i64=>true
 | .u8=>true
 | .i32=>true
 | .u64=>true
 | _=>false
def jMe (k:IntKind) (Q:P1):Prop:=req (okK k) (∀ m,rng k m→Q (.i k m))
def wI (o:BinOp) (k:IntKind) (a b:Int) (Q:P1):Prop:=match o with
 | .add=>rng k (a+b)∧Q (.i k (a+b))
 | .sub=>rng k (a - b)∧Q (.i k (a - b))
 | .mul=>rng k (a*b)∧Q (.i k (a*b))
 | .quo=>(0≤a∧0<b)∧rng k (a / b)∧Q (.i k (a / b))
 | .rem=>(0≤a∧0<b)∧Q (.i k (a % b))
 | .and=>jMe k Q
 | .or=>jMe k Q
 | .eql=>spl (a=b) Q
 | .neq=>qJg (a=b) Q
 | .lss=>spl (a<b) Q
 | .leq=>spl (a≤b) Q
 | .gtr=>spl (b<a) Q
 | .geq=>spl (b≤a) Q
 | _=>False
def wSh (o:BinOp) (k:IntKind) (a b:Int) (Q:P1):Prop:=match o with
 | .shl=>0≤b∧jMe k Q
 | .shr=>0≤b∧rng k a∧jMe k Q
 | _=>False
def wS (o:BinOp) (n v m u:Nat) (Q:P1):Prop:=match o with
 | .add=>n+m≤140737488355328∧(v<256^n→u<256^m→Q (.s (n+m) (v+u*256^n)))
 | .eql=>v<256^n→u<256^m→spl (n=m∧v=u) Q
 | .neq=>v<256^n→u<256^m→qJg (n=m∧v=u) Q
 | _=>False
def wBi (o:BinOp) (x y:SV) (Q:P1):Prop:=match x,y with
 | .i k a,.i k' b=>brn (jBn o) (wSh o k a b Q) (req (eqK k k') (wI o k a b Q))
 | .s n v,.s m u=>wS o n v m u Q
 | _,_=>False
def wUn (o:UnOp) (x:SV) (Q:P1):Prop:=match o,x with
 | .not,.b b=>brn b (Q (.b false)) (Q (.b true))
 | .neg,.i k a=>rng k (0 - a)∧Q (.i k (0 - a))
 | _,_=>False
def jWq (c a b:SV) (Q:P1):Prop:=match c with
 | .b x=>brn x (Q a) (Q b)
 | _=>False
def wIx (x i:SV) (Q:P1):Prop:=match x,i with
 | .s n v,.i _ k=>(0≤k∧k<(n:Int))∧(0≤byZ v k→byZ v k≤255→Q (.i .u8 (byZ v k)))
 | _,_=>False
def iOf (x:SV) (Q:Int→Prop):Prop:=match x with
 | .i _ k=>Q k
 | _=>False
def jAx (E:Env) (x:Option X) (d:Int) (Q:Int→Prop):Prop:=match x with
 | some x=>vx E x fun v=>iOf v Q
 | none=>Q d
def wSs (x:SV) (lo hi:Option X) (E:Env) (Q:P1):Prop:=match x with
 | .s n v=>jAx E lo 0 fun a=>jAx E hi n fun b=>(0≤a∧a≤b∧b≤(n:Int))∧∀ m w:Nat,(m:Int)=b - a→w<256^m→(∀ k:Nat,k<m→w / 256^k % 256=v / 256^(a.toNat+k) % 256)→Q (.s m w)
 | _=>False
def wLn (x:SV) (Q:P1):Prop:=match x with
 | .s n _=>Q (.i .i64 (n:Int))
 | _=>False
def wMx (x y:SV) (Q:P1):Prop:=match x,y with
 | .i k a,.i k' b=>req (eqK k k') (Q (.i k (max a b)))
 | _,_=>False
def wMn (x y:SV) (Q:P1):Prop:=match x,y with
 | .i k a,.i k' b=>req (eqK k k') (Q (.i k (min a b)))
 | _,_=>False
def wCi (k:IntKind) (x:SV) (Q:P1):Prop:=match x with
 | .i _ n=>req (okK k) (∀ m,rng k m→(rng k n→m=n)→Q (.i k m))
 | _=>False
def wEx (n:Nat) (x:SV) (Q:P1):Prop:=match x with
 | .tup l=>(match zO l n with | some v=>Q v | none=>False)
 | _=>False
mutual
def jU:SV→Bool
 | .b _=>true
 | .i _ _=>true
 | .s _ _=>true
 | .tup l=>vM l
 | _=>false
def vM:List SV→Bool
 | []=>true
 | x::l=>jU x&&vM l
end
def qZ:SV→Bool
 | .agg _=>false
 | .tup _=>false
 | _=>true
def qF:List SV→Bool
 | []=>true
 | v::r=>qZ v&&qF r
def yK:SV→List SV
 | .agg l=>l
 | v=>[v]
def wU (H:Hp) (i g:Nat) (Q:HB→Prop):Prop:=match zO H i with
 | some hb=>req (Nat.beq hb.g g) (Q hb)
 | none=>False
def qIt (t:Ty) (Q:P1):Prop:=match t with
 | .i k=>∀ n,Q (.i k n)
 | .b=>∀ x,Q (.b x)
 | .s m=>∀ n w,n≤SS+m→w<256^n→Q (.s n w)
 | .t m=>∀ n w,n≤m∧n≤TB→w<256^n→Q (.s n w)
 | .q T r=>∀ n,n≤NB→Q (.q T r n)
def jIp:List Ty→(List SV→Prop)→Prop
 | [],Q=>Q []
 | t::r,Q=>qIt t fun v=>jIp r fun l=>Q (v::l)
def jQb (l:List Ty) (off:Nat) (n:Option Nat) (Q:P1):Prop:=match n with
 | none=>(match zO l off with | some t=>qIt t Q | none=>False)
 | some n=>(match yG n (yB off l) with | some l=>jIp l fun l=>Q (.agg l) | none=>False)
def ldS (l:List SV) (off:Nat) (n:Option Nat) (Q:P1):Prop:=match n with
 | none=>(match zO l off with | some v=>Q v | none=>False)
 | some n=>(match yG n (yB off l) with | some l=>Q (.agg l) | none=>False)
def ofN:Nd→SV
 | .i k n=>.i k n
 | .b x=>.b x
 | .s n v=>.s n v
 | .q w l=>.qx w l
def ldN (l:List Nd) (n:Option Nat) (Q:P1):Prop:=match n with
 | none=>(match l with | c::_=>Q (ofN c) | []=>False)
 | some n=>(match yG n l with | some l=>Q (.agg (l.map ofN)) | none=>False)
def wLd (C:Cx) (H:Hp) (n:Option Nat) (a:SV) (Q:P1):Prop:=match a with
 | .tp i g off=>wU H i g fun hb=>(match hb.c with | .l l=>ldS l off n Q | _=>False)
 | .te i g k off=>wU H i g fun hb=>(match hb.c with | .r T r _=>jQb (C.ct T r) off n fun v=>C.rd T off n v→Q v | .rl T r m l=>req (Nat.beq (Nat.succ k) m) (ldS l off n Q) | _=>False)
 | .qp T r off=>jQb (C.ct T r) off n fun v=>C.rd T off n v→Q v
 | .xs p=>(match n with | none=>(p.2<256^p.1→Q (.s p.1 p.2)) | some _=>False)
 | .fqs=>(match n with | none=>∀ z,Q (.i .i64 z) | some _=>False)
 | .xp l=>ldN l n Q
 | _=>False
def nL:List Ty→Bool
 | [.s _]=>true
 | _=>false
def qQj:List Ty→Nat
 | [.s m]=>m
 | _=>0
def jGo (C:Cx) (t:Ty) (v:SV):Prop:=match t,v with
 | .i k,.i k' _=>req (eqK k k') True
 | .b,.b _=>True
 | .s m,.s n _=>n≤SS+m
 | .t m,.s n _=>n≤m∧n≤TB
 | .q _ _,.sl0=>True
 | .q T r,.q T' r' _=>req (Nat.beq T T') (r'≤r)
 | .q T r,.qs l=>req (nL (C.ct T 0)) (C.co T=0∧l.length≤NB∧∀ p,p∈l→p.1≤SS+qQj (C.ct T 0))
 | _,_=>False
def jHn (C:Cx):List Ty→List SV→Prop
 | [],[]=>True
 | t::r,v::l=>jGo C t v∧jHn C r l
 | _,_=>False
def jDe:Ty→Bool
 | .q _ _=>false
 | .t _=>false
 | .s m=>Nat.beq m 0
 | _=>true
def tY:List Ty→Bool
 | []=>true
 | t::r=>jDe t&&tY r
def jRy:List Ty→Bool
 | []=>true
 | .s _::_=>false
 | _::r=>jRy r
def jYu (ct:List Ty) (off:Nat) (l:List Ty):Bool:=jRy l||(match off,l with
 | k+1,[_]=>(match zO ct k with | some .b=>true | _=>false)
 | _,_=>false)
abbrev QH:=Hp→Tch→Prop
def wSt (C:Cx) (H:Hp) (n:Nat) (a x:SV) (Q:QH):Prop:=req (xL n (yK x)&&qF (yK x)) (match a with
 | .tp i g off=>wU H i g fun hb=>(match hb.c with
  | .l l=>(match yF off (yK x) l with | some l=>Q (jG H i ⟨hb.e,hb.g,.l l⟩) ⟨false,[i]⟩ | none=>False)
  | _=>False)
 | .te i g _ off=>wU H i g fun hb=>(match hb.c with
  | .r T _ _=>(match yG n (yB off (C.ct T 0)) with | some l=>req (Nat.ble off (jP (C.ct T 0))) ((jHn C l (yK x)∧jOo (yK x))∧Q H ⟨false,[i]⟩) | none=>False)
  | _=>False)
 | .qp T r off=>(match yG n (yB off (C.ct T r)) with | some l=>req (tY l&&jYu (C.ct T r) off l && !nL (C.ct T r)&&Nat.ble off (jP (C.ct T 0))) ((jHn C l (yK x)∧jOo (yK x))∧Q H ⟨true,[]⟩) | none=>False)
 | _=>False)
def wNc (H:Hp) (x:SV) (Q:P1):Prop:=match x with
 | .tp i g off=>wU H i g fun _=>Q (.tp i g off)
 | .te i g k off=>wU H i g fun hb=>(match hb.c with | .r _ _ _=>Q (.te i g k off) | .rl _ _ _ _=>Q (.te i g k off) | _=>False)
 | .qp T r off=>Q (.qp T r off)
 | .f f a c=>Q (.f f a c)
 | .xp l=>Q (.xp l)
 | _=>False
def wFa (H:Hp) (off:Nat) (x:SV) (Q:P1):Prop:=match x with
 | .tp i g o=>wU H i g fun _=>Q (.tp i g (Nat.add o off))
 | .te i g k o=>wU H i g fun hb=>(match hb.c with | .r _ _ _=>Q (.te i g k (Nat.add o off)) | .rl _ _ _ _=>Q (.te i g k (Nat.add o off)) | _=>False)
 | .qp T r o=>Q (.qp T r (Nat.add o off))
 | .xs p=>req (Nat.beq off 0) (Q (.xs p))
 | .xp l=>Q (.xp (yB off l))
 | _=>False
def qKg (i g sz:Nat) (k:Int) (Q:P1):Prop:=match k with
 | .ofNat m=>Q (.tp i g (Nat.mul m sz))
 | _=>False
def wIa (C:Cx) (H:Hp) (sz:Nat) (x y:SV) (Q:P1):Prop:=iOf y fun k=>match x with
 | .ts i g n sz'=>req (Nat.beq sz sz') ((0≤k∧k<(n:Int))∧wU H i g fun hb=>(match hb.c with
  | .l _=>qKg i g sz k Q
  | .r T r _=>req (Nat.beq sz (jP (C.ct T 0))) (Q (.te i g k.toNat 0))
  | .rl T r _ _=>req (Nat.beq sz (jP (C.ct T 0))) (Q (.te i g k.toNat 0))
  | _=>False))
 | .q T r n=>req (Nat.beq sz (jP (C.ct T 0))) ((0≤k∧k<(n:Int))∧(C.cp T r→Q (.qp T r 0)))
 | .qs l=>req (Nat.beq sz 1) ((0≤k∧k<(l.length:Int))∧∀ p,l[k.toNat]?=some p→Q (.xs p))
 | .fis n=>req (Nat.beq sz 1) ((0≤k∧k<(n:Int))∧Q .fqs)
 | .qx w l=>req (Nat.beq sz w) ((0≤k∧k<(l.length:Int))∧∀ p,l[k.toNat]?=some p→Q (.xp p))
 | _=>False
def dead (H:Hp) (i:Nat):Hp:=match zO H i with
 | some hb=>jG H i ⟨hb.e,Nat.succ hb.g,.dead⟩
 | none=>H
def wSl (C:Cx) (H:Hp) (sz:Nat) (x:SV) (lo hi:Option X) (E:Env) (Q:SV→Hp→Tch→Prop):Prop:=match x with
 | .sl0=>jAx E lo 0 fun a=>jAx E hi 0 fun b=>(0≤a∧a≤b∧b≤0)∧Q .sl0 H t0
 | .q T r n=>req (Nat.beq sz (jP (C.ct T 0))) (jAx E lo 0 fun a=>jAx E hi n fun b=>(0≤a∧a≤b∧b≤(n:Int))∧∀ m:Nat,(m:Int)=b - a→Q (.q T r m) H t0)
 | .qs l=>req (Nat.beq sz 1) (jAx E lo 0 fun a=>jAx E hi l.length fun b=>(0≤a∧a≤b∧b≤(l.length:Int))∧Q (.qs ((l.drop a.toNat).take (b - a).toNat)) H t0)
 | .ts i g n sz'=>wU H i g fun hb=>(match hb.c with
  | .xs l=>req (Nat.beq sz 1) (jAx E lo 0 fun a=>jAx E hi l.length fun b=>(0≤a∧a≤b∧b≤(l.length:Int))∧Q (.qs ((l.drop a.toNat).take (b - a).toNat)) (dead H i) ⟨true,[i]⟩)
  | _=>False)
 | _=>False
def wLm (H:Hp) (x:SV) (Q:P1):Prop:=match x with
 | .sl0=>Q (.i .i64 0)
 | .ts i g n _=>wU H i g fun hb=>(match hb.c with | .dead=>False | _=>Q (.i .i64 (n:Int)))
 | .q _ _ n=>Q (.i .i64 (n:Int))
 | .qs l=>Q (.i .i64 (l.length:Int))
 | .fis n=>Q (.i .i64 (n:Int))
 | .qx _ l=>Q (.i .i64 (l.length:Int))
 | _=>False
def tD (E:Env):List (Nat×Nat×X)→List SV→(List SV→Prop)→Prop
 | [],z,Q=>Q z
 | (off,n,x)::r,z,Q=>vx E x fun v=>req (xL n (yK v)&&qF (yK v)) (match yF off (yK v) z with | some z=>tD E r z Q | none=>False)
def bO (H:Hp) (e:Nat) (c:HC) (Q:Nat→Hp→Tch→Prop):Prop:=Q (jP H) (H++[⟨e,0,c⟩]) ⟨false,[jP H]⟩
def jNi (C:Cx) (T:Nat):Nat→List SV→(Nat→Prop)→Prop
 | _,[],Q=>Q 0
 | j,v::l,Q=>∃ x,(match zO (C.ct T (C.co T+x)) j with | some t=>jGo C t v | none=>False)∧jNi C T (Nat.succ j) l fun R=>Q (x+R)
def gZ (C:Cx) (T:Nat):Nat→List SV→(Nat→Prop)→Prop
 | 0,l,Q=>(match l with | []=>Q 0 | _=>False)
 | n+1,l,Q=>(match yG (jP (C.ct T 0)) l with | some row=>C.rs T row∧jNi C T 0 row fun x=>gZ C T n (yB (jP (C.ct T 0)) l) fun R=>Q (C.co T+x+R) | none=>False)
def vN:List SV→(List (Nat×Nat)→Prop)→Prop
 | [],Q=>Q []
 | .s n v::r,Q=>vN r fun l=>Q ((n,v)::l)
 | _::_,_=>False
def jSx (C:Cx) (H:Hp) (T:Nat) (x:SV) (Q:Nat→Nat→Prop):Prop:=match x with
 | .sl0=>Q 0 0
 | .q T' r' m=>req (Nat.beq T T') (Q r' m)
 | .ts j g m sz=>req (Nat.beq sz (jP (C.ct T 0))) (wU H j g fun hb=>(match hb.c with
  | .l l=>gZ C T m l fun R=>Q R m
  | _=>False))
 | _=>False
def jSy (H:Hp) (x:SV) (Q:List (Nat×Nat)→Prop):Prop:=match x with
 | .sl0=>Q []
 | .qs l=>Q l
 | .ts j g m sz=>req (Nat.beq sz 1) (wU H j g fun hb=>(match hb.c with
  | .l l=>req (xL m l) (vN l Q)
  | _=>False))
 | _=>False
def jLc (H:Hp) (x:SV) (Q:List SV→Prop):Prop:=match x with
 | .ts j g m sz=>req (Nat.beq m 1) (wU H j g fun hb=>(match hb.c with | .l l=>req (xL sz l) (Q l) | _=>False))
 | _=>False
def jEi (n by_:Nat) (p:Prop):Prop:=(n*by_≤100000000000000∧n≤100000000000000)∧p
def wAp (C:Cx) (H:Hp) (e sz by_:Nat) (s x:SV) (Q:SV→Hp→Tch→Prop):Prop:=match s with
 | .sl0=>(match C.ak e with
  | some (.ty T r)=>req (Nat.beq sz (jP (C.ct T 0))) (jSx C H T x fun R m=>jEi m by_ (bO H e (.r T R m) fun i H t=>Q (.ts i 0 m sz) H t))
  | some .str=>req (Nat.beq sz 1) (jSy H x fun l=>jEi l.length by_ (bO H e (.xs l) fun i H t=>Q (.ts i 0 l.length sz) H t))
  | none=>False)
 | .ts i g n sz'=>req (Nat.beq sz sz') (wU H i g fun hb=>req (Nat.beq hb.e e) (match hb.c with
  | .r T r _=>req (Nat.beq sz (jP (C.ct T 0))) (jSx C H T x fun R m=>jEi (n+m) by_ (Q (.ts i (Nat.succ g) (n+m) sz) (jG H i ⟨e,Nat.succ g,.r T (r+R) (n+m)⟩) ⟨false,[i]⟩∨jLc H x fun l=>req (Nat.beq m 1) (Q (.ts i (Nat.succ g) (n+1) sz) (jG H i ⟨e,Nat.succ g,.rl T (r+R) (n+1) l⟩) ⟨false,[i]⟩)))
  | .xs l=>req (Nat.beq sz 1) (jSy H x fun l'=>jEi (n+l'.length) by_ (Q (.ts i (Nat.succ g) (n+l'.length) sz) (jG H i ⟨e,Nat.succ g,.xs (l++l')⟩) ⟨false,[i]⟩))
  | .l l=>req (Nat.beq sz 1) (vN l fun l0=>jSy H x fun l'=>l'≠[]∧jEi (n+l'.length) by_ (Q (.ts i (Nat.succ g) (n+l'.length) sz) (jG H i ⟨e,Nat.succ g,.xs (l0++l')⟩) ⟨false,[i]⟩))
  | _=>False))
 | _=>False
def qMx (H:Hp) (e sz by_:Nat) (s x:SV) (Q:SV→Hp→Tch→Prop):Prop:=match s with
 | .sl0=>jLc H x fun l=>∃ row:List Nd,l=row.map ofN∧(0<sz∧row.length=sz)∧jEi 1 by_ (bO H e (.xr sz [row]) fun i H t=>Q (.ts i 0 1 sz) H t)
 | .ts i g n sz'=>req (Nat.beq sz sz') (wU H i g fun hb=>req (Nat.beq hb.e e) (match hb.c with
  | .xr w rows=>jLc H x fun l=>∃ row:List Nd,l=row.map ofN∧row.length=sz∧jEi (n+1) by_ (Q (.ts i (Nat.succ g) (n+1) sz) (jG H i ⟨e,Nat.succ g,.xr w (rows++[row])⟩) ⟨false,[i]⟩)
  | _=>False))
 | _=>False
abbrev Q2:=SV→Hp→Prop
abbrev qJ:=Nat→Nat→List SV→Hp→Q2→Prop
def qAm (C:Cx) (H:Hp) (T:Nat) (v:SV) (Q:SV→List Nat→Prop):Prop:=match v with
 | .sl0=>Q (.q T 0 0) []
 | .q T' r n=>Q (.q T' r n) []
 | .ts i g n sz=>wU H i g fun hb=>(match hb.c with
  | .r T' r _=>n≤NB∧Q (.q T' r n) [i]
  | .l l=>req (Nat.beq sz (jP (C.ct T 0))) (gZ C T n l fun R=>n≤NB∧Q (.q T R n) [i])
  | _=>False)
 | _=>False
def qKw (H:Hp) (w:Nat) (v:SV) (Q:SV→List Nat→Prop):Prop:=match v with
 | .sl0=>Q (.qx w []) []
 | .qx w' l=>Q (.qx w' l) []
 | .ts i g n sz=>wU H i g fun hb=>(match hb.c with
  | .xr w' l=>Q (.qx w' l) [i]
  | _=>False)
 | _=>False
def qAn (H:Hp) (v:SV) (Q:SV→List Nat→Prop):Prop:=match v with
 | .sl0=>Q (.qs []) []
 | .qs l=>Q (.qs l) []
 | .ts i g n sz=>wU H i g fun hb=>(match hb.c with
  | .xs l=>Q (.qs l) [i]
  | _=>False)
 | _=>False
mutual
def can (C:Cx) (H:Hp):AT→SV→(SV→List Nat→Prop)→Prop
 | .any,v,Q=>Q v []
 | .q T,v,Q=>qAm C H T v Q
 | .qs,v,Q=>qAn H v Q
 | .x w,v,Q=>qKw H w v Q
 | .agg ts,.agg l,Q=>aT C H ts l fun l f=>Q (.agg l) f
 | .agg ts,.tup l,Q=>aT C H ts l fun l f=>Q (.tup l) f
 | .agg _,_,_=>False
def aT (C:Cx) (H:Hp):List AT→List SV→(List SV→List Nat→Prop)→Prop
 | [],[],Q=>Q [] []
 | t::ts,v::l,Q=>can C H t v fun v f=>aT C H ts l fun l f'=>Q (v::l) (f++f')
 | _,_,_=>False
end
def yI (H:Hp):List Nat→Hp
 | []=>H
 | i::r=>yI (dead H i) r
def mx (a b:Nat):Nat:=bif Nat.ble a b then b else a
mutual
def wJ:SV→Nat
 | .tp i _ _=>Nat.succ i
 | .te i _ _ _=>Nat.succ i
 | .ts i _ _ _=>Nat.succ i
 | .f _ a c=>mx (gI a) (gI c)
 | .agg l=>gI l
 | .tup l=>gI l
 | _=>0
def gI:List SV→Nat
 | []=>0
 | x::l=>mx (wJ x) (gI l)
end
def pS:Nat→Hp→Hp
 | 0,_=>[]
 | _+1,[]=>[]
 | n+1,a::l=>a::pS n l
def jTd:Nat→List Nat
 | 0=>[]
 | n+1=>n::jTd n
def nW (H:Hp):List Nat→Bool
 | []=>true
 | i::r=>(match zO H i with | some hb=>(match hb.c with | .l _=>false | .rl _ _ _ _=>false | _=>true) | none=>true)&&nW H r
def vJ:Hp→Nat
 | []=>0
 | hb::r=>mx (match hb.c with | .l l=>gI l | .rl _ _ _ l=>gI l | _=>0) (vJ r)
def cnL:List AT→List SV→List SV
 | t::ts,v::l=>(match t,v with | .q T,.sl0=>.q T 0 0 | _,v=>v)::cnL ts l
 | _,l=>l
def wkB (C:Cx) (hb:HB):HB:=match hb.c with
 | .rl T r n _=>⟨hb.e,hb.g,.r T r n⟩
 | .l l=>(match C.bt hb.e with | some ts=>⟨hb.e,hb.g,.l (cnL ts l)⟩ | none=>hb)
 | _=>hb
def wkH (C:Cx):Hp→Hp
 | []=>[]
 | hb::r=>wkB C hb::wkH C r
def jYg (H:Hp) (k:Nat):Nat:=mx k (vJ (pS k H))
def jQf (C:Cx) (Γ:qJ) (d:Nat) (f:Nat) (l:List SV) (H:Hp) (fr:List Nat) (Q:SV→Hp→Tch→Prop):Nat→Prop
 | 0=>Γ d f l [] fun v _=>brn (jU v&&nW H fr) (Q v H ⟨true,fr⟩) (Q v (yI H fr) ⟨true,1000000000::fr⟩)
 | k+1=>req (Nat.ble (gI l) (k+1)&&Nat.ble (vJ (pS (k+1) (yI H fr))) (k+1)&&Nat.ble (k+1) (jP H)) (Γ d f l (pS (k+1) (yI H fr)) fun v H'=>Q v (H'++yB (k+1) (yI H fr)) ⟨true,jTd (k+1)++fr⟩)
def qNd (C:Cx) (Γ:qJ) (d:Nat) (f:Nat) (l:List SV) (H:Hp) (Q:SV→Hp→Tch→Prop):Prop:=
 aT C H (C.sg f).1 l fun l fr=>jQf C Γ d f l H fr Q (jYg H (jYg H (gI l)))
def qCp (H:Hp) (v:SV) (Q:SV→Hp→Prop):Prop:=match v with
 | .ts i g n sz=>(match zO H i with
  | some hb=>(match hb.c with
   | .l l=>req (Nat.beq hb.g g&&Nat.beq sz 1) (vN l fun l0=>Q (.ts i (Nat.succ g) n 1) (jG H i ⟨hb.e,Nat.succ g,.xs l0⟩))
   | _=>Q v H)
  | none=>Q v H)
 | _=>Q v H
def eU:AT→Bool
 | .qs=>true
 | _=>false
def lits:List AT→List SV→Hp→(List SV→Hp→Prop)→Prop
 | t::ts,v::l,H,Q=>brn (eU t) (qCp H v fun v H=>lits ts l H fun l H=>Q (v::l) H) (lits ts l H fun l H=>Q (v::l) H)
 | _,l,H,Q=>Q l H
def wCf (C:Cx) (Γ:qJ) (d:Nat) (f:Nat) (l:List SV) (H:Hp) (Q:SV→Hp→Tch→Prop):Prop:=
 lits (C.sg f).1 l (wkH C H) fun l H=>qNd C Γ d f l H Q
def wCp (C:Cx) (Γ:qJ) (d:Nat) (f:Nat) (l:List SV) (H:Hp) (Q:SV→Hp→Tch→Prop):Prop:=
 req (vM l) (Γ d f l [] fun v _=>req (jU v) (C.G f l v→Q v H t0))
mutual
def fA:SV→Bool
 | .b _=>true
 | .i _ _=>true
 | .s _ _=>true
 | .fis _=>true
 | .tup l=>jNm l
 | _=>false
def jNm:List SV→Bool
 | []=>true
 | x::l=>fA x&&jNm l
end
def qSf:Nd→AV
 | .i k z=>.i k z
 | .s n v=>.s n v
 | _=>.ni
def qMe (c:List Nd) (j:Nat):AV:=((c.map qSf)[j]?).getD .ni
mutual
def ndT (C:Cx):Nd→Ty→Prop
 | .i k _,t=>t = .i k
 | .b _,t=>t = .b
 | .s n u,t=>(∃ m,t = .s m∧n≤SS+m∧u<256^n)∨∃ m,t = .t m∧(n≤m∧n≤TB)∧u<256^n
 | .q w l,t=>∃ T r,t = .q T r∧w=jP (C.ct T 0)∧l.length≤NB∧nZ C T l r
def jOf (C:Cx) (T:Nat):Nat→List Nd→Nat→Prop
 | _,[],_=>True
 | j,c::l,x=>∃ y x',y+x'≤x∧(∃ t,(C.ct T (C.co T+y))[j]?=some t∧ndT C c t)∧jOf C T (j+1) l x'
def nZ (C:Cx) (T:Nat):List (List Nd)→Nat→Prop
 | [],_=>True
 | c::l,r=>∃ x r',C.co T+x+r'≤r∧(c.length=jP (C.ct T 0)∧jOf C T 0 c x)∧C.rp T (qMe c)∧nZ C T l r'
end
mutual
def aC:SV→Bool
 | .b _=>true
 | .i _ _=>true
 | .s _ _=>true
 | .p0=>true
 | .sl0=>true
 | .q _ _ _=>true
 | .qs _=>true
 | .agg l=>jPd l
 | .tup l=>jPd l
 | _=>false
def jPd:List SV→Bool
 | []=>true
 | x::l=>aC x&&jPd l
end
mutual
def Rfn (C:Cx):SV→SV→Prop
 | .q T r n,v=>∃ l,v = .qx (jP (C.ct T 0)) l∧l.length=n∧ndT C (.q (jP (C.ct T 0)) l) (.q T r)
 | .agg l,v=>∃ l',v = .agg l'∧jXf C l l'
 | .tup l,v=>∃ l',v = .tup l'∧jXf C l l'
 | s,v=>v=s
def jXf (C:Cx):List SV→List SV→Prop
 | [],l=>l=[]
 | x::r,l=>∃ y t,l=y::t∧Rfn C x y∧jXf C r t
end
def wCz (C:Cx) (Γ:qJ) (d:Nat) (f:Nat) (l:List SV) (H:Hp) (Q:SV→Hp→Tch→Prop):Prop:=
 req (jNm l) (Γ d f l [] fun v _=>req (aC v) (∀ v',Rfn C v v'→Q v' H ⟨true,[1000000000]⟩))
def qMw (H:Hp) (e:Nat) (z:List AV) (Q:SV→Hp→Tch→Prop):Prop:=match z with
 | [.sl0]=>∃ e2:Nat,Q (.tp (jP H) 0 0) (H++[⟨e,0,.l [.ts (Nat.succ (jP H)) 0 0 1]⟩]++[⟨e2,0,.xs []⟩]) ⟨false,[jP H,Nat.succ (jP H)]⟩
 | _=>False
mutual
def gT:SV→Bool
 | .b _=>true
 | .i _ _=>true
 | .s _ _=>true
 | .p0=>true
 | .sl0=>true
 | .agg l=>iB l
 | .tup l=>iB l
 | _=>false
def iB:List SV→Bool
 | []=>true
 | x::l=>gT x&&iB l
end
def wCq (C:Cx) (Γ:qJ) (d:Nat) (f:Nat) (l:List SV) (H:Hp) (Q:SV→Hp→Tch→Prop):Prop:=
 req (vM l) (Γ d f l [] fun v _=>req (gT v) (Q v H t0))
def lC:List SV→Prop
 | []=>True
 | .i .u8 k::l=>(0≤k∧k≤255)∧lC l
 | _::_=>False
def wBt (H:Hp) (x:SV) (Q:P1):Prop:=match x with
 | .ts i g n sz=>req (Nat.beq sz 1) (wU H i g fun hb=>(match hb.c with
  | .l l=>lC l∧∀ w,Q (.s n w)
  | _=>False))
 | _=>False
def wBe (g:Bool) (x y:SV) (Q:P1):Prop:=match x,y with
 | .b a,.b c=>Q (.b (if g then !(a==c) else a==c))
 | _,_=>False
def wCv (C:Cx) (Γ:qJ) (d:Nat) (x:SV) (l:List SV) (H:Hp) (Q:SV→Hp→Tch→Prop):Prop:=match x with
 | .f fn a c=>wCf C Γ d fn (a++l++c) H Q
 | _=>False
abbrev QO:=SV→Hp→Tch→Prop
def jAw (Q:QO):QO:=fun s H t=>match s with
 | .ts i g n sz=>wU H i g fun hb=>(match hb.c with
  | .r T r _=>n≤NB∧Q (.q T r n) (dead H i) ⟨true,i::t.l⟩
  | .xs l=>Q (.qs l) (dead H i) ⟨true,i::t.l⟩
  | .l l=>req (Nat.beq sz 1) (vN l fun l0=>Q (.qs l0) (dead (jG H i ⟨hb.e,Nat.succ g,.xs l0⟩) i) ⟨true,i::t.l⟩)
  | _=>False)
 | _=>False
def rvQ (C:Cx) (Q:QO) (v:SV) (H:Hp):Prop:=match v with
 | .sl0=>∃ i:Nat,match zO H i with
  | some hb=>(match hb.c,C.ak hb.e with
   | .dead,some (.ty T r)=>Q (.ts i (Nat.succ hb.g) 0 (jP (C.ct T 0))) (jG H i ⟨hb.e,Nat.succ hb.g,.r T r 0⟩) ⟨false,[i]⟩
   | .dead,some .str=>Q (.ts i (Nat.succ hb.g) 0 1) (jG H i ⟨hb.e,Nat.succ hb.g,.xs []⟩) ⟨false,[i]⟩
   | _,_=>False)
  | none=>False
 | _=>False
def wO (C:Cx) (Γ:qJ) (d:Nat) (c:Ev.C) (E:Env) (H:Hp) (Q:QO):Prop:=match c with
 | .mv x=>vx E x fun v=>Q v H t0∨jAw Q v H t0∨rvQ C Q v H
 | .id1 x=>vx E x fun v=>Q v H t0
 | .pick c a b=>vx E c fun c=>vx E a fun a=>vx E b fun b=>jWq c a b fun v=>Q v H t0
 | .bi o x y=>vx E x fun x=>vx E y fun y=>wBi o x y fun v=>Q v H t0
 | .un o x=>vx E x fun x=>wUn o x fun v=>Q v H t0
 | .ci k x=>vx E x fun x=>wCi k x fun v=>Q v H t0
 | .ix x i=>vx E x fun x=>vx E i fun i=>wIx x i fun v=>Q v H t0
 | .ss x lo hi=>vx E x fun x=>wSs x lo hi E fun v=>Q v H t0
 | .ln x=>vx E x fun x=>wLn x fun v=>Q v H t0
 | .lm x=>vx E x fun x=>wLm H x fun v=>Q v H t0
 | .mx x y=>vx E x fun x=>vx E y fun y=>wMx x y fun v=>Q v H t0
 | .mn x y=>vx E x fun x=>vx E y fun y=>wMn x y fun v=>Q v H t0
 | .ex n x=>vx E x fun x=>wEx n x fun v=>Q v H t0
 | .al e z=>req (gJ z&&jS z) (bO H e (.l (ofAs z)) fun i H t=>Q (.tp i 0 0) H t)∨qMw H e z Q
 | .bx e x=>vx E x fun v=>req (qF (yK v)) (bO H e (.l (yK v)) fun i H t=>Q (.tp i 0 0) H t)
 | .bd z ps=>req (gJ z) (tD E ps (ofAs z) fun l=>Q (.agg l) H t0)
 | .bs e sz z len ps=>req (gJ z&&jS z&&xL (Nat.mul len sz) z&&Nat.blt 0 len) (tD E ps (ofAs z) fun l=>bO H e (.l l) fun i H t=>Q (.ts i 0 len sz) H t) ∨
  req (gJ z&&jS z&&xL (Nat.mul len sz) z&&Nat.blt 0 len) (tD E ps (ofAs z) fun l=>bO H e (.l l) fun i H t=>jAw Q (.ts i 0 len sz) H t)
 | .ld n a=>vx E a fun a=>wLd C H n a fun v=>Q v H t0
 | .st n a x=>vx E a fun a=>vx E x fun x=>wSt C H n a x fun H t=>Q kS H t
 | .nc x=>vx E x fun x=>wNc H x fun v=>Q v H t0
 | .fa off x=>vx E x fun x=>wFa H off x fun v=>Q v H t0
 | .ia sz x i=>vx E x fun x=>vx E i fun i=>wIa C H sz x i fun v=>Q v H t0
 | .sl sz x lo hi=>vx E x fun x=>wSl C H sz x lo hi E Q
 | .ap e sz by_ s x=>vx E s fun s=>vx E x fun x=>wAp C H e sz by_ s x Q∨wAp C H e sz by_ s x (jAw Q)∨qMx H e sz by_ s x Q
 | .mf f a c=>vxs E a fun a=>vxs E c fun c=>Q (.f f a c) H t0
 | .cf f xs=>vxs E xs fun l=>wCf C Γ d f l H Q∨wCz C Γ d f l H Q
 | .cp f xs=>vxs E xs fun l=>wCp C Γ d f l H Q
 | .cv x xs=>vx E x fun x=>vxs E xs fun l=>wCv C Γ d x l H Q
 | .cq f xs=>vxs E xs fun l=>wCq C Γ d f l H Q
 | .bt x=>vx E x fun x=>wBt H x fun v=>Q v H t0
 | .be g x y=>vx E x fun x=>vx E y fun y=>wBe g x y fun v=>Q v H t0
 | _=>False
abbrev QE:=Env→Hp→Prop
def wG (E:Env) (g:Option (Nat×Bool)) (p q:Prop):Prop:=match g with
 | none=>p
 | some (t,w)=>fL E t fun v=>match v with
  | .b x=>brn x (brn w p q) (brn w q p)
  | .tup []=>q
  | _=>False
noncomputable def wR (C:Cx) (Γ:qJ) (d:Nat) (l:List O):Env→Hp→QE→Prop:=
 List.rec (motive:=fun _=>Env→Hp→QE→Prop) (fun E H Q=>Q E H)
  (fun o _ ih E H Q=>wG E o.g (wO C Γ d o.c E H fun v H _=>ih (sV E o.d v) H Q) (ih (sV E o.d kS) H Q)) l
inductive Key where
 | h (i:Nat)
 | a
 | c
def jYl (H:Hp) (s:SV) (Q:Key→Prop):Prop:=match s with
 | .tp i g _=>wU H i g fun hb=>(match hb.c with | .l _=>Q (.h i) | _=>False)
 | .te i g _ _=>wU H i g fun hb=>(match hb.c with | .r _ _ _=>Q (.h i) | _=>False)
 | .qp _ _ _=>Q .a
 | .xs _=>Q .c
 | .fqs=>Q .c
 | .xp _=>Q .c
 | _=>False
def sU (i:Nat):List Nat→Bool
 | []=>false
 | a::r=>Nat.beq a i||sU i r
def qRx:List Nat→Bool
 | []=>true
 | _=>false
def hM (t:Tch):Key→Bool
 | .h i=>sU i t.l
 | .a=>t.a
 | .c=>t.a && !qRx t.l
def jEn (κ:Key) (lo:Nat):List Tch→Nat→Bool
 | [],_=>true
 | t::r,k=>match k with
  | 0=>true
  | k+1=>bif Nat.ble lo k then !hM t κ&&jEn κ lo r k else true
structure Wr where
 κ:Key
 hi:Nat
def eM (t:Tch) (k:Nat):List Wr→Bool
 | []=>true
 | w::r=>(bif Nat.blt k w.hi then !hM t w.κ else true)&&eM t k r
def jXh (E:Env) (H:Hp) (o:O) (ws:List Tch) (k:Nat) (rs:List Wr) (Q:List Wr→Prop):Prop:=match o.rd with
 | none=>Q rs
 | some (lo,hi)=>match o.c with
  | .ld n a=>vx E a fun a=>jYl H a fun κ=>req (jEn κ lo ws k) (Q (⟨κ,hi⟩::rs))
  | _=>False
def noT:Tch→Bool
 | ⟨false,[]⟩=>true
 | _=>false
noncomputable def wD (C:Cx) (Γ:qJ) (d:Nat) (l:List O):Env→Hp→List Tch→Nat→List Wr→QE→Prop:=
 List.rec (motive:=fun _=>Env→Hp→List Tch→Nat→List Wr→QE→Prop) (fun E H _ _ _ Q=>Q E H)
  (fun o _ ih E H ws k rs Q=>wG E o.g
   (brn o.c.acts
    (wO C Γ d o.c E H fun v H t=>req (eM t k rs) (ih (sV E o.d v) H (t::ws) (Nat.succ k) rs Q))
    (wO C Γ d o.c E H fun v H' t=>req (noT t) (jXh E H o ws k rs fun rs=>ih (sV E o.d v) H' ws k rs Q)))
   (brn o.c.acts
    (ih (sV E o.d kS) H (t0::ws) (Nat.succ k) rs Q)
    (ih (sV E o.d kS) H ws k rs Q))) l
abbrev QK:=E→Env→Hp→Prop
def jWp (v:SV) (p q:Prop):Prop:=match v with
 | .b x=>brn x p q
 | _=>False
def qGs (id:Nat) (Q:QK) (e:E) (E:Env) (H:Hp):Prop:=match e with
 | .nrm=>Q .nrm E H
 | .exit k=>brn (Nat.beq k id) (Q .nrm E H) (Q (.exit k) E H)
 | .ret=>Q .ret E H
def qQi (K:QE) (Q:QK) (e:E) (E:Env) (H:Hp):Prop:=match e with
 | .nrm=>K E H
 | .exit k=>Q (.exit k) E H
 | .ret=>Q .ret E H
def Sub:Env→Env→Prop
 | [],_=>True
 | p::l,E=>(∃ v,look E p.1=some v∧v=p.2)∧Sub l E
inductive Cv where
 | lit (n:Nat)
 | frz (n:Nat)
 | slot (n e:Nat) (c:HC)
 | cell (i off e:Nat) (c:HC)
def emp (C:Cx) (sz:Nat):HC→Bool
 | .r T r 0=>Nat.beq sz (jP (C.ct T 0))
 | .xs []=>Nat.beq sz 1
 | _=>false
def jNy:SV→Bool
 | .sl0=>true
 | _=>false
def cvs (C:Cx) (E:Env) (H:Hp):List (Cv×Nat)→(Env→Hp→Prop)→Prop
 | [],Q=>Q E H
 | (.lit n,sz)::r,Q=>fL E n fun v=>match v with
  | .ts i g m z=>wU H i g fun hb=>(match hb.c with
   | .l l=>req (Nat.beq z 1) (vN l fun l0=>cvs C ((n,.ts i (Nat.succ g) m z)::E) (jG H i ⟨hb.e,Nat.succ g,.xs l0⟩) r Q)
   | _=>False)
  | _=>False
 | (.frz n,sz)::r,Q=>fL E n fun v=>match v with
  | .ts i g m z=>wU H i g fun hb=>(match hb.c with
   | .xs l=>cvs C ((n,.qs l)::E) (dead H i) r Q
   | _=>False)
  | _=>False
 | (.slot n e c,sz)::r,Q=>req (emp C sz c) (fL E n fun v=>req (jNy v) (cvs C ((n,.ts (jP H) 0 0 sz)::E) (H++[⟨e,0,c⟩]) r Q))
 | (.cell i off e c,sz)::r,Q=>req (emp C sz c) (match zO H i with
  | some hb=>(match hb.c with
   | .l l=>(match zO l off with
    | some v=>req (jNy v) (cvs C E (jG H i ⟨hb.e,hb.g,.l (jG l off (.ts (jP H) 0 0 sz))⟩++[⟨e,0,c⟩]) r Q)
    | none=>False)
   | _=>False)
  | none=>False)
def jYj:Hp→Hp→Prop
 | [],_=>True
 | a::r,b::s=>a=b∧jYj r s
 | _::_,[]=>False
def mJ:Env→Nat
 | []=>0
 | p::r=>mx (wJ p.2) (mJ r)
def lpQ {α:Type} (F:α→Env) (G:α→Hp) (I:α→Prop) (m:α→Nat) (k h0:Nat) (Q:QK) (e:E) (E:Env) (H:Hp):Prop:=match e with
 | .nrm=>∃ p,Sub (F p) E∧jYj (G p) H∧req (Nat.ble h0 (jP (G p))&&Nat.ble (mJ (F p)) (jP (G p))&&Nat.ble (vJ (G p)) (jP (G p))) (I p∧m p<k)
 | .exit i=>Q (.exit i) E H
 | .ret=>Q .ret E H
def fB (E:Env):List Nat→Env
 | []=>[]
 | n::r=>match look E n with
  | some v=>(n,v)::fB E r
  | none=>fB E r
@[irreducible] def jFz (C:Cx) (L:Nat) (body:Env→Hp→QK→Prop) (E:Env) (H:Hp) (Q:QK):Prop:=
 ∃ (ks:List Nat) (cv:List (Cv×Nat)),cvs C E H cv fun E' H'=>∃ (α:Type) (F:α→Env) (G:α→Hp) (I:α→Prop) (m:α→Nat),(∃ p,Sub (F p++fB E' ks) E'∧H'=G p∧I p∧m p<L)∧∀ p,I p→body (F p++fB E' ks) (G p) (lpQ (fun p=>F p++fB E' ks) G I m (m p) (jP (G p)) Q)
noncomputable def wK (C:Cx) (Γ:qJ) (L d:Nat) (c:K):Env→Hp→QK→Prop:=
 K.rec (motive:=fun _=>Env→Hp→QK→Prop)
  (fun E H Q=>Q .nrm E H)
  (fun ops E H Q=>wR C Γ d ops E H (Q .nrm))
  (fun ops E H Q=>wD C Γ d ops E H [] 0 [] (Q .nrm))
  (fun _ _ _ _ _ _=>False)
  (fun _ _ a b E H Q=>a E H (qQi (fun E H=>b E H Q) Q))
  (fun c _ _ a b E H Q=>vx E c fun c=>jWp c (a E H Q) (b E H Q))
  (fun id _ c E H Q=>c E H (qGs id Q))
  (fun _ c E H Q=>jFz C L (fun E H Q=>c E H Q) E H Q)
  (fun id E H Q=>Q (.exit id) E H)
  (fun E H Q=>Q .ret E H)
  (fun _ _ _=>False) c
def jGa (C:Cx) (E:Env) (H:Hp):List RV0→(List SV→Prop)→Prop
 | [],Q=>Q []
 | .t n::r,Q=>fL E n fun v=>jGa C E H r fun l=>Q (v::l)
 | .c a n::r,Q=>fL E a fun a=>wLd C H n a fun v=>jGa C E H r fun l=>Q (v::l)
def qEk:List SV→SV
 | [v]=>v
 | l=>.tup l
def sY (k:Nat):List Nat→Bool
 | []=>true
 | i::r=>Nat.ble k i&&sY k r
def jXp (C:Cx) (k:Nat) (H:Hp) (hb:HB) (Q:HB→Prop):Prop:=match hb.c,C.bt hb.e with
 | .l l,some ts=>aT C H ts l fun l fr=>req (sY k fr&&qF l) (Q ⟨hb.e,hb.g,.l l⟩)
 | .l l,none=>Q ⟨hb.e,hb.g,.l l⟩
 | _,_=>Q hb
def nN (C:Cx) (k:Nat) (H:Hp):Nat→Hp→(Hp→Prop)→Prop
 | 0,_,Q=>Q []
 | n+1,hb::r,Q=>jXp C k H hb fun hb=>nN C k H n r fun r=>Q (hb::r)
 | _+1,[],_=>False
def qDt (C:Cx) (f k:Nat) (res:List RV0) (Q:Q2) (e:E) (E:Env) (H:Hp):Prop:=match e with
 | .exit _=>False
 | _=>jGa C E H res fun l=>can C H (C.sg f).2 (qEk l) fun v fr=>nN C k H k H fun H'=>req (Nat.ble (wJ v) k&&Nat.ble (vJ H') k&&sY k fr) (Q v H')
def jJl:List SV→Nat→Env
 | [],_=>[]
 | v::r,k=>(k,v)::jJl r (k+1)
noncomputable def wF (C:Cx) (Γ:qJ) (L d:Nat) (f:Nat) (g:F) (l:List SV) (H:Hp) (Q:Q2):Prop:=req (Nat.ble (jP l) g.nt) (wK C Γ L d g.body (jJl l 0) H (qDt C f (jP H) g.res Q))
end
noncomputable section
set_option linter.all false
open Go
section
variable {α:Type}
theorem jZ:∀ (l:List α) (i:Nat),zO l i=l[i]?
 | [],i=>by cases i<;>rfl
 | a::l,0=>rfl
 | a::l,i+1=>by rw [List.getElem?_cons_succ]; exact jZ l i
theorem qG:∀ (l:List α),jP l=l.length
 | []=>rfl
 | a::l=>by simp [jP,qG l]
theorem jFj:∀ (l:List α) (i:Nat) (x:α),(jG l i x).length=l.length
 | [],_,_=>by simp [jG]
 | a::l,0,x=>by simp [jG]
 | a::l,i+1,x=>by simp [jG,jFj l i x]
theorem kC:∀ (l:List α) (i j:Nat) (x:α),(jG l i x)[j]?=if j=i∧i<l.length then some x else l[j]?
 | [],i,j,x=>by simp [jG]
 | a::l,0,0,x=>by simp [jG]
 | a::l,0,j+1,x=>by simp [jG]
 | a::l,i+1,0,x=>by simp [jG]
 | a::l,i+1,j+1,x=>by simp [jG,kC l i j x]
theorem gO {l:List α} {n:Nat} (h:n≤l.length):yG n l=some (l.take n):=by
 induction n generalizing l with
 | zero=>simp [yG]
 | succ n ih=>cases l with
  | nil=>simp at h
  | cons a l=>simp at h; simp [yG,ih h]
theorem jIn:∀ (vs l:List α),vs.length≤l.length→∃ r,jAz vs l=some r
 | [],l,_=>⟨l,rfl⟩
 | v::vs,[],h=>by simp at h
 | v::vs,a::l,h=>by
  obtain ⟨r,hr⟩:=jIn vs l (by simpa using h)
  exact ⟨v::r,by simp [jAz,hr]⟩
theorem mU:∀ (n:Nat) (vs l:List α),n+vs.length≤l.length→∃ r,yF n vs l=some r
 | 0,vs,l,h=>by simpa [yF] using jIn vs l (by omega)
 | n+1,vs,[],h=>by simp at h
 | n+1,vs,a::l,h=>by
  obtain ⟨r,hr⟩:=mU n vs l (by simp at h; omega)
  exact ⟨a::r,by simp [yF,hr]⟩
theorem jFl:∀ (l:List α),xL l.length l=true
 | []=>rfl
 | a::l=>by simpa [xL] using jFl l
end
def ShC (c c':AV):Prop:=c=c'∨(∃ k n n',c = .i k n∧c' = .i k n'∧(n'=2→n=2))∨(∃ x x',c = .b x∧c' = .b x')∨(∃ n v n' v',c = .s n v∧c' = .s n' v'∧n'≤SS∧v'<256^n'∧(nlP n v→nlP n' v'))
theorem ShC.trans {a b c:AV} (h:ShC a b) (k:ShC b c):ShC a c:=by
 rcases h with rfl | ⟨k1,n,n',rfl,rfl,g⟩ | ⟨x,x',rfl,rfl⟩ | ⟨n,v,n',v',rfl,rfl,h1,h2,g⟩
 ·exact k
 ·rcases k with rfl | ⟨k2,m,m',e,rfl,g'⟩ | ⟨x,x',e,rfl⟩ | ⟨a1,v,a2,v',e,rfl,h1,h2⟩
  ·exact .inr (.inl ⟨_,_,_,rfl,rfl,g⟩)
  ·cases e; exact .inr (.inl ⟨_,_,_,rfl,rfl,fun q=>g (g' q)⟩)
  ·cases e
  ·cases e
 ·rcases k with rfl | ⟨k2,m,m',e,rfl,g'⟩ | ⟨y,y',e,rfl⟩ | ⟨a1,v,a2,v',e,rfl,h1,h2⟩
  ·exact .inr (.inr (.inl ⟨_,_,rfl,rfl⟩))
  ·cases e
  ·cases e; exact .inr (.inr (.inl ⟨_,_,rfl,rfl⟩))
  ·cases e
 ·rcases k with rfl | ⟨k2,m,m',e,rfl,g'⟩ | ⟨y,y',e,rfl⟩ | ⟨a1,u,a2,u',e,rfl,h3,h4,g'⟩
  ·exact .inr (.inr (.inr ⟨_,_,_,_,rfl,rfl,h1,h2,g⟩))
  ·cases e
  ·cases e
  ·cases e; exact .inr (.inr (.inr ⟨_,_,_,_,rfl,rfl,h3,h4,fun q=>g' (g q)⟩))
def Pc (c c':AV):Prop:=(∀ k,c' = .i k 2→∃ k',c = .i k' 2)∧(∀ n v,c' = .s n v→nlP n v∨∃ n0 v0,c = .s n0 v0∧(nlP n0 v0→nlP n v))
theorem Pc.rfl' (c:AV):Pc c c:=⟨fun k e=>⟨k,e⟩,fun n v e=>.inr ⟨n,v,e,id⟩⟩
theorem ShC.pc {c c':AV} (h:ShC c c'):Pc c c':=by
 rcases h with rfl | ⟨k1,n,n',rfl,rfl,g⟩ | ⟨x,x',rfl,rfl⟩ | ⟨n,v,n',v',rfl,rfl,h1,h2,g⟩
 ·exact Pc.rfl' c
 ·exact ⟨fun k e=>by cases e; exact ⟨_,by rw [g rfl]⟩,fun n v e=>by cases e⟩
 ·exact ⟨fun k e=>by (cases e),fun n v e=>by cases e⟩
 ·exact ⟨fun k e=>by (cases e),fun m u e=>by cases e; exact .inr ⟨_,_,rfl,g⟩⟩
def jMs (x:SV) (c:AV):Prop:=(∀ k z,x = .i k z→c = .i k z)∧∀ n u,x = .s n u→c = .s n u
def rdC (f:Nat→AV) (off:Nat) (n:Option Nat) (v:SV):Prop:=match n with
 | none=>jMs v (f off)
 | some _=>∀ l,v = .agg l→∀ j x,l[j]?=some x→jMs x (f (off+j))
def jYt:AV→Prop
 | .i _ z=>z≠2
 | .s n w=>nlP n w
 | _=>True
theorem jYt.pc {c c':AV} (h:jYt c'):Pc c c':=by
 refine ⟨fun k e=>?_,fun n v e=>?_⟩
 ·subst e; exact absurd rfl h
 ·subst e; exact .inl h
structure Shp (b b':xY):Prop where
 len:b'.cells.length=b.cells.length
 elem:b'.elem=b.elem
 plain:b'.plain=b.plain
 cell:∀ (m:Nat) (c:AV),b.cells[m]?=some c→∃ c':AV,b'.cells[m]?=some c'∧ShC c c'
 tx:∀ (m n v:Nat),b.cells[m+1]?=some (.s n v)→(∀ x,b.cells[m]?≠some (.b x))→b'.cells[m+1]?=some (.s n v)
theorem Shp.rfl' (b:xY):Shp b b:=⟨rfl,rfl,rfl,fun m c h=>⟨c,h,.inl rfl⟩,fun m n v h _=>h⟩
theorem ShC.b {c:AV} {x:Bool} (h:ShC c (.b x)):∃ y,c = .b y:=by
 rcases h with rfl | ⟨_,_,_,_,e,_⟩ | ⟨y,_,rfl,_⟩ | ⟨_,_,_,_,_,e,_⟩
 ·exact ⟨_,rfl⟩
 ·cases e
 ·exact ⟨_,rfl⟩
 ·cases e
theorem Shp.trans {a b c:xY} (h:Shp a b) (k:Shp b c):Shp a c:=by
 refine ⟨k.len.trans h.len,k.elem.trans h.elem,k.plain.trans h.plain,fun m x hx=>?_,fun m n v hx hb=>?_⟩
 ·obtain ⟨y,hy,s⟩:=h.cell m x hx;obtain ⟨z,hz,s'⟩:=k.cell m y hy;exact ⟨z,hz,s.trans s'⟩
 ·refine k.tx m n v (h.tx m n v hx hb) fun x e=>?_;cases q:a.cells[m]? with
  | none=>
   have h1:=(List.getElem?_eq_some_iff.1 hx).1;have h2:=List.getElem?_eq_none_iff.1 q;omega
  | some y=>
   obtain ⟨y',e1,e2⟩:=h.cell m y q;rw [e] at e1; cases e1;obtain ⟨z,rfl⟩:=e2.b;exact hb z q
structure Wd where
 A:Nat→Prop
 K:Nat→Option xY
 as:Nat→Nat
def Wd.may (W:Wd) (t:List Ty) (b:Nat):Prop:=W.A b∨(nL t=true∧(W.K b).isSome=true)
def wN:(Nat→Nat)→Nat→Nat
 | _,0=>0
 | ρ,n+1=>ρ 0+wN (fun k=>ρ (k+1)) n
theorem jLf {k:Nat}:∀ {n:Nat} {ρ:Nat→Nat},k<n→ρ k≤wN ρ n:=by
 induction k with
 | zero=>intro n ρ h; cases n with
  | zero=>omega
  | succ n=>show ρ 0≤ρ 0+_; omega
 | succ k ih=>intro n ρ h; cases n with
  | zero=>omega
  | succ n=>have:=ih (n:=n) (ρ:=fun k=>ρ (k+1)) (by omega); show ρ (k+1)≤ρ 0+_; exact Nat.le_trans this (Nat.le_add_left _ _)
theorem jBx {ρ ρ':Nat→Nat}:∀ {n:Nat},(∀ k,k<n→ρ k=ρ' k)→wN ρ n=wN ρ' n:=by
 intro n
 induction n generalizing ρ ρ' with
 | zero=>intro _; rfl
 | succ n ih=>intro h; show ρ 0+_=ρ' 0+_; rw [h 0 (Nat.succ_pos _),ih fun k hk=>h (k+1) (by omega)]
def jGl (ρ ρ':Nat→Nat) (n:Nat):Nat→Nat:=fun k=>if k<n then ρ k else ρ' (k - n)
theorem qEg:∀ {n m:Nat} {ρ ρ':Nat→Nat},wN (jGl ρ ρ' n) (n+m)=wN ρ n+wN ρ' m:=by
 intro n
 induction n with
 | zero=>intro m ρ ρ'; rw [Nat.zero_add]; show wN _ m=0+_; rw [Nat.zero_add]; exact jBx fun k hk=>by simp [jGl]
 | succ n ih=>
  intro m ρ ρ';rw [show n+1+m=n+m+1 by omega]
  show jGl ρ ρ' (n+1) 0+wN (fun k=>jGl ρ ρ' (n+1) (k+1)) (n+m)=ρ 0+wN (fun k=>ρ (k+1)) n+_;have e:wN (fun k=>jGl ρ ρ' (n+1) (k+1)) (n+m)=wN (jGl (fun k=>ρ (k+1)) ρ' n) (n+m):=jBx fun k hk=>by
   simp only [jGl];by_cases h:k<n
   ·rw [if_pos h,if_pos (by omega)]
   ·rw [if_neg h,if_neg (by omega),show k+1 - (n+1)=k - n by omega]
  rw [e,ih];simp [jGl,Nat.add_assoc]
theorem qEh:∀ {p q n:Nat} {ρ:Nat→Nat},p+q≤n→wN (fun k=>ρ (p+k)) q≤wN ρ n:=by
 intro p q n
 induction p generalizing n with
 | zero=>
  intro ρ h
  induction q generalizing n ρ with
  | zero=>exact Nat.zero_le _
  | succ q ih=>cases n with
   | zero=>omega
   | succ n=>
    have:=ih (n:=n) (ρ:=fun k=>ρ (k+1)) (by omega)
    show ρ (0+0)+wN (fun k=>ρ (0+(k+1))) q≤ρ 0+wN (fun k=>ρ (k+1)) n;simp only [Nat.zero_add] at this ⊢;omega
 | succ p ih=>
  intro ρ h;cases n with
  | zero=>omega
  | succ n=>
   have:=ih (n:=n) (ρ:=fun k=>ρ (k+1)) (by omega)
   refine Nat.le_trans ?_ (Nat.le_trans this (Nat.le_add_left _ (ρ 0)));rw [jBx fun k hk=>by show ρ (p+1+k)=ρ (p+k+1); rw [show p+1+k=p+k+1 by omega]]
   exact Nat.le_refl _
def qMp:Ty→Ty→Prop
 | .q T r,.q T' r'=>T=T'∧r≤r'
 | .t m,.t m'=>m≤m'
 | t,t'=>t=t'
structure cpl (C:Cx) (T:Nat):Prop where
 len:∀ r,(C.ct T r).length=(C.ct T 0).length
 cp:∀ r,C.co T≤r→C.cp T r
 sub:∀ (ρ r j:Nat) (t':Ty),ρ≤r→(C.ct T r)[j]?=some t'→∃ t,(C.ct T ρ)[j]?=some t∧qMp t t'
 rp:∀ f f',(∀ j,j<(C.ct T 0).length→Pc (f j) (f' j))→C.rp T f→C.rp T f'
 tt:∀ r j m,(C.ct T r)[j]?=some (.t m)→∃ i,j=i+1∧∀ r',(C.ct T r')[i]?≠some .b
def oS (C:Cx) (T:Nat) (κ:Nat→Nat):Nat:=C.co T+wN κ (C.ct T 0).length
inductive TV (C:Cx) (W:Wd) (σ:Mem):Ty→AV→Prop where
  | i (k:IntKind) (n:Int):TV C W σ (.i k) (.i k n)
  | b (x:Bool):TV C W σ .b (.b x)
  | s (m n v:Nat) (h:n≤SS+m) (h0:v<256^n):TV C W σ (.s m) (.s n v)
  | t (m n v:Nat) (h:n≤m∧n≤TB) (h0:v<256^n):TV C W σ (.t m) (.s n v)
  | q0 (T r:Nat):TV C W σ (.q T r) .sl0
  | qe (T r b o:Nat):TV C W σ (.q T r) (.sl b o 0 (C.ct T 0).length)
  | q (T r b o n:Nat) (hn:n≤NB) (blk:xY) (hb:W.may (C.ct T 0) b) (hg:σ.t.get b=some blk) (κ:Nat→Nat→Nat) (hs:wN (fun k=>oS C T (κ k)) n≤r) (hp:cpl C T) (cs:Nat→AV)
      (hc:∀ m,m<n*(C.ct T 0).length→blk.cells[o+m]?=some (cs m))
      (ht:∀ k j ty,k<n→(C.ct T (C.co T+κ k j))[j]?=some ty→TV C W σ ty (cs (k*(C.ct T 0).length+j)))
      (hq:∀ k,k<n→C.rp T fun j=>cs (k*(C.ct T 0).length+j)):TV C W σ (.q T r) (.sl b o n (C.ct T 0).length)
structure wP (C:Cx):Prop where
 cp:∀ T r,C.co T≤r→C.cp T r
 len:∀ T r r',(C.ct T r).length=(C.ct T r').length
 sub:∀ (T r r' j:Nat) (t t':Ty),r≤r'→(C.ct T r)[j]?=some t→(C.ct T r')[j]?=some t'→qMp t t'
 str:∀ T r r',nL (C.ct T r)=nL (C.ct T r')
 pos:∀ T r,0<(C.ct T r).length
 rp:∀ T f f',(∀ j,j<(C.ct T 0).length→Pc (f j) (f' j))→C.rp T f→C.rp T f'
 tt:∀ T r j m,(C.ct T r)[j]?=some (.t m)→∃ i,j=i+1∧∀ r',(C.ct T r')[i]?≠some .b
 rstr:∀ T f,nL (C.ct T 0)=true→C.rp T f
 rs:∀ T s,C.rs T s→C.rp T fun j=>((s.map toR)[j]?).getD .ni
 rd:∀ T f off n v,C.rp T f→rdC f off n v→C.rd T off n v
section
variable {C:Cx} {W W':Wd} {σ σ':Mem}
theorem TV.sh {ty:Ty} {c c':AV} (h:TV C W σ ty c) (s:ShC c c') (ht:∀ m,ty = .t m→c'=c):TV C W σ ty c':=by
 rcases s with rfl | ⟨k1,n,n',rfl,rfl,_⟩ | ⟨x,x',rfl,rfl⟩ | ⟨n,v,n',v',rfl,rfl,h1,h2,_⟩
 ·exact h
 ·cases h; exact .i _ _
 ·cases h; exact .b _
 ·cases h with
  | s m _ _ _ _=>exact .s _ _ _ (by omega) h2
  | t m _ _ h3 h4=>have:=ht _ rfl; cases this; exact .t _ _ _ h3 h4
theorem Shp.row {T:Nat} (hp:cpl C T) {b b':xY} (hs:Shp b b') {p:Nat} {κ:Nat→Nat} (h:∀ (j:Nat) (ty:Ty),(C.ct T (κ j))[j]?=some ty→∃ c:AV,b.cells[p+j]?=some c∧TV C W σ ty c) :
  ∀ (j:Nat) (ty:Ty),(C.ct T (κ j))[j]?=some ty→∃ c:AV,b'.cells[p+j]?=some c∧TV C W σ ty c:=by
 intro j ty e;obtain ⟨c,e1,t⟩:=h j ty e;obtain ⟨c',e2,s⟩:=hs.cell _ _ e1;refine ⟨c',e2,t.sh s fun m hm=>?_⟩;subst hm;obtain ⟨i,rfl,g⟩:=hp.tt _ _ _ e;cases t with
 | t _ n v _ _=>
  have:=hs.tx (p+i) n v e1 fun x q=>by
   have hi:i<(C.ct T (κ i)).length:=by
    have:=(List.getElem?_eq_some_iff.1 e).1;rw [hp.len] at this ⊢; omega
   obtain ⟨c0,e3,t0⟩:=h i _ (List.getElem?_eq_some_iff.2 ⟨hi,rfl⟩);rw [q] at e3; cases e3;have g':=g (κ i);rw [List.getElem?_eq_getElem hi] at g';generalize (C.ct T (κ i))[i]=ty0 at t0 g';cases t0;exact g' rfl
  rw [show p+i+1=p+(i+1) by omega,e2] at this
  cases this; rfl
structure Go' (W:Wd) (σ:Mem) (W':Wd) (σ':Mem):Prop where
 A:∀ b,W.A b→W'.A b
 K:∀ b x,W.K b=some x→W'.K b=some x
 sh:∀ b,W.A b→∀ x,σ.t.get b=some x→∃ x',σ'.t.get b=some x'∧Shp x x'
 kk:∀ b x,W.K b=some x→σ.t.get b=some x→σ'.t.get b=some x
theorem Go'.refl:Go' W σ W σ:=⟨fun _ h=>h,fun _ _ h=>h,fun _ _ x h=>⟨x,h,Shp.rfl' x⟩,fun _ _ _ h=>h⟩
theorem Go'.trans {W2:Wd} {σ2:Mem} (h:Go' W σ W' σ') (k:Go' W' σ' W2 σ2):Go' W σ W2 σ2:=by
 refine ⟨fun b hb=>k.A _ (h.A _ hb),fun b x hx=>k.K _ _ (h.K _ _ hx),fun b hb x hx=>?_,fun b x hx hg=>k.kk _ _ (h.K _ _ hx) (h.kk _ _ hx hg)⟩;obtain ⟨y,hy,s⟩:=h.sh b hb x hx;obtain ⟨z,hz,s'⟩:=k.sh b (h.A _ hb) y hy;exact ⟨z,hz,s.trans s'⟩
theorem Go'.may (h:Go' W σ W' σ') {t:List Ty} {b:Nat} (k:W.may t b):W'.may t b:=by
 rcases k with k | ⟨k1,k2⟩
 ·exact .inl (h.A _ k)
 ·refine .inr ⟨k1,?_⟩;obtain ⟨x,hx⟩:=Option.isSome_iff_exists.1 k2;rw [h.K _ _ hx]; rfl
def KOK (W:Wd) (σ:Mem):Prop:=∀ b x,W.K b=some x→σ.t.get b=some x
theorem Go'.blk (h:Go' W σ W' σ') (hK:KOK W σ) {t:List Ty} {b:Nat} (k:W.may t b) {x:xY} (hx:σ.t.get b=some x):∃ x',σ'.t.get b=some x'∧Shp x x':=by
 rcases k with k | ⟨k1,k2⟩
 ·exact h.sh _ k _ hx
 ·obtain ⟨y,hy⟩:=Option.isSome_iff_exists.1 k2;have:σ.t.get b=some y:=hK _ _ hy;rw [this] at hx;cases hx;exact ⟨_,h.kk _ _ hy this,Shp.rfl' _⟩
theorem TV.go (h:Go' W σ W' σ') (hK:KOK W σ) {ty:Ty} {v:AV} (t:TV C W σ ty v):TV C W' σ' ty v:=by
 induction t with
 | i k n=>exact .i _ _
 | b x=>exact .b _
 | s m n v h1 h2=>exact .s _ _ _ h1 h2
 | t m n v h1 h2=>exact .t _ _ _ h1 h2
 | q0 T r=>exact .q0 _ _
 | qe T r b o=>exact .qe _ _ _ _
 | q T r b o n hn blk hb hg κ hs hp cs hc ht hq ih=>
  obtain ⟨blk',hg',hs'⟩:=h.blk hK hb hg;refine .q T r b o n hn blk' (h.may hb) hg' κ hs hp (fun m=>(blk'.cells[o+m]?).getD (.ni)) ?_ ?_ ?_
  ·intro m hm;obtain ⟨c',hc',_⟩:=hs'.cell _ _ (hc m hm);rw [hc']; rfl
  ·intro k j ty hk hj;have hj':j<(C.ct T 0).length:=by rw [←hp.len (C.co T+κ k j)]; exact (List.getElem?_eq_some_iff.1 hj).1
   have hm:k*(C.ct T 0).length+j<n*(C.ct T 0).length:=by
    calc k*(C.ct T 0).length+j<k*(C.ct T 0).length+(C.ct T 0).length:=by omega
     _=(k+1)*(C.ct T 0).length:=by rw [Nat.add_mul,Nat.one_mul]
     _≤n*(C.ct T 0).length:=Nat.mul_le_mul_right _ hk
   obtain ⟨c',hc',t'⟩:=hs'.row hp (p:=o+k*(C.ct T 0).length) (κ:=fun j=>C.co T+κ k j) (fun j ty hj=>by
    have hj':j<(C.ct T 0).length:=by rw [←hp.len (C.co T+κ k j)]; exact (List.getElem?_eq_some_iff.1 hj).1
    have hm:k*(C.ct T 0).length+j<n*(C.ct T 0).length:=by
     calc k*(C.ct T 0).length+j<k*(C.ct T 0).length+(C.ct T 0).length:=by omega
      _=(k+1)*(C.ct T 0).length:=by rw [Nat.add_mul,Nat.one_mul]
      _≤n*(C.ct T 0).length:=Nat.mul_le_mul_right _ hk
    exact ⟨_,by rw [Nat.add_assoc]; exact hc _ hm,ih k j ty hk hj⟩) j ty hj
   show TV C W' σ' ty ((blk'.cells[o+_]?).getD .ni);rw [←Nat.add_assoc,hc'];exact t'
  ·intro k hk;refine hp.rp _ _ (fun j hj=>?_) (hq k hk);have hm:k*(C.ct T 0).length+j<n*(C.ct T 0).length:=by
    calc k*(C.ct T 0).length+j<k*(C.ct T 0).length+(C.ct T 0).length:=by omega
     _=(k+1)*(C.ct T 0).length:=by rw [Nat.add_mul,Nat.one_mul]
     _≤n*(C.ct T 0).length:=Nat.mul_le_mul_right _ hk
   obtain ⟨c',hc',s'⟩:=hs'.cell _ _ (hc _ hm);show Pc _ ((blk'.cells[o+_]?).getD .ni);rw [hc'];exact s'.pc
theorem TV.rank {ty:Ty} {v:AV} (t:TV C W σ ty v) (ty':Ty) (h:qMp ty ty'):TV C W σ ty' v:=by
 cases t with
 | i k n=>cases ty'<;>cases h; exact .i _ _
 | b x=>cases ty'<;>cases h; exact .b _
 | s m n v h1 h2=>cases ty'<;>cases h; exact .s _ _ _ h1 h2
 | t m n v h1 h2=>
  cases ty' with
  | t m'=>exact .t _ _ _ ⟨Nat.le_trans h1.1 h,h1.2⟩ h2
  | _=>cases h
 | q0 T r=>
  cases ty' with
  | q T' r'=>exact .q0 _ _
  | _=>cases h
 | qe T r b o=>
  cases ty' with
  | q T' r'=>obtain ⟨rfl,hr⟩:=h; exact .qe _ _ _ _
  | _=>cases h
 | q T r b o n hn blk hb hg κ hs hp cs hc ht hq=>
  cases ty' with
  | q T' r'=>obtain ⟨rfl,hr⟩:=h; exact .q T r' b o n hn blk hb hg κ (Nat.le_trans hs hr) hp cs hc ht hq
  | _=>cases h
theorem cpl.of (hC:wP C) (T:Nat):cpl C T:=⟨fun r=>hC.len _ _ _,fun r hr=>hC.cp _ _ hr,fun ρ r j t' hr hj=>by
 have hj':j<(C.ct T ρ).length:=by rw [hC.len T ρ r]; exact (List.getElem?_eq_some_iff.1 hj).1
 obtain ⟨t0,ht0⟩:∃ t0,(C.ct T ρ)[j]?=some t0:=⟨_,List.getElem?_eq_some_iff.2 ⟨hj',rfl⟩⟩;exact ⟨t0,ht0,hC.sub _ _ _ _ _ _ hr ht0 hj⟩,hC.rp T,hC.tt T⟩
theorem TV.up {T r:Nat} {κ:Nat→Nat} (hp:cpl C T) (hr:oS C T κ≤r) {f:Nat→Option AV} (h:∀ (j:Nat) (ty:Ty),(C.ct T (C.co T+κ j))[j]?=some ty→∃ c:AV,f j=some c∧TV C W σ ty c) :
  ∀ (j:Nat) (ty:Ty),(C.ct T r)[j]?=some ty→∃ c:AV,f j=some c∧TV C W σ ty c:=by
 intro j ty hj;have hj':j<(C.ct T 0).length:=by rw [←hp.len r]; exact (List.getElem?_eq_some_iff.1 hj).1
 have hk:C.co T+κ j≤r:=by
  have:=jLf (ρ:=κ) hj';unfold oS at hr;omega
 obtain ⟨t0,ht0,st⟩:=hp.sub _ r j ty hk hj;obtain ⟨c,e,t⟩:=h j t0 ht0;exact ⟨c,e,t.rank ty st⟩
def zM (C:Cx) (W:Wd) (σ:Mem) (T r n:Nat) (cs:List AV):Prop:=∃ κ:Nat→Nat→Nat,wN (fun k=>oS C T (κ k)) n≤r∧cpl C T∧cs.length=n*(C.ct T 0).length ∧
 (∀ (k j:Nat) (ty:Ty),k<n→(C.ct T (C.co T+κ k j))[j]?=some ty→∃ c:AV,cs[k*(C.ct T 0).length+j]?=some c∧TV C W σ ty c) ∧
 ∀ k,k<n→C.rp T fun j=>(cs[k*(C.ct T 0).length+j]?).getD .ni
theorem zM.len {T r n:Nat} {cs:List AV} (h:zM C W σ T r n cs):cs.length=n*(C.ct T 0).length:=by obtain ⟨κ,_,_,h,_⟩:=h; exact h
theorem zM.cell {T r n:Nat} {cs:List AV} (h:zM C W σ T r n cs) {k:Nat} (hk:k<n):C.cp T r∧∀ (j:Nat) (ty:Ty),(C.ct T r)[j]?=some ty→∃ c:AV,cs[k*(C.ct T 0).length+j]?=some c∧TV C W σ ty c:=by
 obtain ⟨κ,h1,h2,h3,h4,_⟩:=h;have hr:oS C T (κ k)≤r:=Nat.le_trans (jLf (ρ:=fun k=>oS C T (κ k)) hk) h1;exact ⟨h2.cp _ (Nat.le_trans (Nat.le_add_right _ _) hr),TV.up h2 hr fun j ty e=>h4 k j ty hk e⟩
theorem zM.rp {T r n:Nat} {cs:List AV} (h:zM C W σ T r n cs) {k:Nat} (hk:k<n):C.rp T fun j=>(cs[k*(C.ct T 0).length+j]?).getD .ni:=by
 obtain ⟨κ,h1,h2,h3,h4,h5⟩:=h;exact h5 k hk
theorem zM.mono {T r r' n:Nat} {cs:List AV} (h:zM C W σ T r n cs) (hr:r≤r'):zM C W σ T r' n cs:=by
 obtain ⟨κ,h1,h⟩:=h; exact ⟨κ,Nat.le_trans h1 hr,h⟩
theorem zM.go (h:Go' W σ W' σ') (hK:KOK W σ) {T r n:Nat} {cs:List AV} (t:zM C W σ T r n cs):zM C W' σ' T r n cs:=by
 obtain ⟨κ,h1,h2,h3,h4,h5⟩:=t;exact ⟨κ,h1,h2,h3,fun k j ty hk e=>by obtain ⟨c,e1,e2⟩:=h4 k j ty hk e; exact ⟨c,e1,e2.go h hK⟩,h5⟩
theorem zM.nil {T r:Nat} (hp:cpl C T):zM C W σ T r 0 []:=⟨fun _ _=>0,Nat.zero_le _,hp,by simp,fun k j ty hk=>absurd hk (Nat.not_lt_zero _),fun k hk=>absurd hk (Nat.not_lt_zero _)⟩
theorem qDv {k j n w:Nat} (hk:k<n) (hj:j<w):k*w+j<n*w:=by
 have:(k+1)*w≤n*w:=Nat.mul_le_mul_right _ hk;rw [Nat.add_mul,Nat.one_mul] at this;omega
theorem zM.app {T r r' n m:Nat} {cs ds:List AV} (h:zM C W σ T r n cs) (h':zM C W σ T r' m ds):zM C W σ T (r+r') (n+m) (cs++ds):=by
 obtain ⟨κ,a1,a2,a3,a4,a5⟩:=h;obtain ⟨κ',b1,b2,b3,b4,b5⟩:=h';have sel:∀ k,(fun k=>oS C T (if k<n then κ k else κ' (k - n))) k=jGl (fun k=>oS C T (κ k)) (fun k=>oS C T (κ' k)) n k:=fun k=>by
  simp only [jGl]; split<;>rfl
 have shift:∀ {k j:Nat},¬ k<n→k*(C.ct T 0).length+j - n*(C.ct T 0).length=(k - n)*(C.ct T 0).length+j∧n*(C.ct T 0).length≤k*(C.ct T 0).length+j:=fun {k j} q=>by
  have hk':k*(C.ct T 0).length=n*(C.ct T 0).length+(k - n)*(C.ct T 0).length:=by rw [←Nat.add_mul]; congr 1; omega
  omega
 refine ⟨fun k=>if k<n then κ k else κ' (k - n),?_,a2,by rw [List.length_append,a3,b3,Nat.add_mul],fun k j ty hk e=>?_,fun k hk=>?_⟩
 ·rw [jBx fun k _=>sel k,qEg]; omega
 ·by_cases q:k<n
  ·simp only [if_pos q] at e;obtain ⟨c,e1,e2⟩:=a4 k j ty q e;exact ⟨c,by rw [List.getElem?_append_left (List.getElem?_eq_some_iff.1 e1).1]; exact e1,e2⟩
  ·simp only [if_neg q] at e;obtain ⟨c,e1,e2⟩:=b4 (k - n) j ty (by omega) e
   refine ⟨c,?_,e2⟩;rw [List.getElem?_append_right (by rw [a3]; exact (shift q).2),a3,(shift q).1]
   exact e1
 ·by_cases q:k<n
  ·refine a2.rp _ _ (fun j hj=>?_) (a5 k q);show Pc _ (((cs++ds)[k*(C.ct T 0).length+j]?).getD .ni);rw [List.getElem?_append_left (by rw [a3]; exact qDv q hj)]
   exact Pc.rfl' _
  ·refine a2.rp _ _ (fun j hj=>?_) (b5 (k - n) (by omega))
   show Pc _ (((cs++ds)[k*(C.ct T 0).length+j]?).getD .ni);rw [List.getElem?_append_right (by rw [a3]; exact (shift q).2),a3,(shift q).1]
   exact Pc.rfl' _
theorem zM.tv {T r n b o:Nat} {cs:List AV} (h:zM C W σ T r n cs) (hn:n≤NB) {blk:xY} (hb:W.may (C.ct T 0) b) (hg:σ.t.get b=some blk) (hcs:∀ m,m<n*(C.ct T 0).length→blk.cells[o+m]?=cs[m]?):TV C W σ (.q T r) (.sl b o n (C.ct T 0).length):=by
 obtain ⟨κ,h1,h2,h3,h4,h5⟩:=h;refine .q T r b o n hn blk hb hg κ h1 h2 (fun m=>(cs[m]?).getD .ni) (fun m hm=>?_) (fun k j ty hk e=>?_) (fun k hk=>h5 k hk)
 ·rw [hcs m hm,List.getElem?_eq_getElem (by rw [h3]; exact hm)]; rfl
 ·obtain ⟨c,e1,e2⟩:=h4 k j ty hk e;show TV C W σ ty ((cs[k*(C.ct T 0).length+j]?).getD .ni);rw [e1]; exact e2
end
end
noncomputable section
set_option linter.all false
open Go
def hasB (H:Hp) (i g:Nat) (P:HB→Prop):Prop:=∃ hb,H[i]?=some hb∧g≤hb.g∧(hb.g=g→P hb)
def qB:HC→Prop
 | .l _=>True
 | .xr _ _=>True
 | .r _ _ n=>n≠0
 | .xs l=>l≠[]
 | .rl _ _ n _=>n≠0
 | .dead=>False
def sX (C:Cx) (a n sz:Nat) (v:AV):HC→Prop
 | .l l=>v = .sl a 0 n sz∧l.length=n*sz∧0<n
 | .xr w l=>l.length=n∧sz=w∧0<n∧v = .sl a 0 n sz
 | .r T r m=>m=n∧sz=(C.ct T 0).length∧v=(if n=0 then .sl0 else .sl a 0 n sz)
 | .xs l=>l.length=n∧sz=1∧v=(if n=0 then .sl0 else .sl a 0 n sz)
 | .rl T r m _=>m=n∧sz=(C.ct T 0).length∧v=(if n=0 then .sl0 else .sl a 0 n sz)
 | .dead=>True
def jLi (C:Cx) (a k off:Nat) (v:AV):HC→Prop
 | .r T r m=>k<m∧v = .p a (k*(C.ct T 0).length+off)
 | .rl T r m _=>k<m∧v = .p a (k*(C.ct T 0).length+off)
 | _=>True
def QV (C:Cx) (W:Wd) (σ:Mem) (T r n:Nat) (v:AV):Prop:=TV C W σ (.q T r) v∧((v = .sl0∧n=0)∨∃ b o,v = .sl b o n (C.ct T 0).length)
def PV (C:Cx) (W:Wd) (σ:Mem) (T r off:Nat) (v:AV):Prop:=∃ b o blk,v = .p b (o+off)∧W.may (C.ct T 0) b∧σ.t.get b=some blk∧C.cp T r∧(cpl C T∧C.rp T fun j=>(blk.cells[o+j]?).getD .ni) ∧
 ∀ (j:Nat) (ty:Ty),(C.ct T r)[j]?=some ty→∃ c:AV,blk.cells[o+j]?=some c∧TV C W σ ty c
def gB (l:List (Nat×Nat)):Prop:=∀ p,p∈l→p.2<256^p.1
def XV (W:Wd) (l:List (Nat×Nat)) (v:AV):Prop:=gB l∧((v = .sl0∧l=[])∨∃ b o,v = .sl b o l.length 1∧(l=[]∨∃ blk,W.K b=some blk∧∀ (m:Nat) (p:Nat×Nat),l[m]?=some p→blk.cells[o+m]?=some (.s p.1 p.2)))
mutual
def nd (K:Nat→Option xY):Nd→AV→Prop
 | .i k n,v=>v = .i k n
 | .b x,v=>v = .b x
 | .s n u,v=>v = .s n u∧u<256^n
 | .q w l,v=>(v = .sl0∧l=[])∨∃ b o,v = .sl b o l.length w∧(l=[]∨∃ blk,K b=some blk∧ndR K l w fun m=>blk.cells[o+m]?)
def nds (K:Nat→Option xY):List Nd→(Nat→Option AV)→Prop
 | [],_=>True
 | c::r,f=>(∃ x,f 0=some x∧nd K c x)∧nds K r fun m=>f (m+1)
def ndR (K:Nat→Option xY):List (List Nd)→Nat→(Nat→Option AV)→Prop
 | [],_,_=>True
 | c::r,w,f=>(c.length=w∧nds K c f)∧ndR K r w fun m=>f (m+w)
end
mutual
def sv (C:Cx) (W:Wd) (H:Hp) (σ:Mem):SV→AV→Prop
 | .b x,v=>v = .b x
 | .i k n,v=>v = .i k n
 | .s n u,v=>v = .s n u∧u<256^n
 | .p0,v=>v = .p0
 | .sl0,v=>v = .sl0
 | .tp i g off,v=>v.one=true∧hasB H i g fun hb=>v = .p (W.as i) off
 | .te i g k off,v=>v.one=true∧hasB H i g fun hb=>jLi C (W.as i) k off v hb.c
 | .ts i g n sz,v=>v.one=true∧hasB H i g fun hb=>sX C (W.as i) n sz v hb.c
 | .q T r n,v=>QV C W σ T r n v
 | .qp T r off,v=>PV C W σ T r off v
 | .qs l,v=>XV W l v
 | .xs p,v=>p.2<256^p.1∧∃ b o blk,v = .p b o∧W.K b=some blk∧blk.cells[o]?=some (.s p.1 p.2)
 | .f fn a c,v=>∃ a' c',v = .f fn a' c'∧svs C W H σ a a'∧svs C W H σ c c'
 | .agg l,v=>∃ l',v = .agg l'∧svs C W H σ l l'
 | .tup l,v=>∃ l',v = .tup l'∧svs C W H σ l l'
 | .fis n,v=>∃ l:List Int,v = .fi l∧l.length=n
 | .fqs,v=>∃ z,v = .fq z
 | .qx w l,v=>nd W.K (.q w l) v
 | .xp l,v=>∃ b o blk,v = .p b o∧W.K b=some blk∧nds W.K l fun m=>blk.cells[o+m]?
def svs (C:Cx) (W:Wd) (H:Hp) (σ:Mem):List SV→List AV→Prop
 | [],l=>l=[]
 | x::r,l=>∃ y t,l=y::t∧sv C W H σ x y∧svs C W H σ r t
end
def zV:HC→HC→Prop
 | .l l,.l l'=>l.length=l'.length
 | .r T r n,.r T' r' n'=>T=T'∧r=r'∧n=n'
 | .rl T r n _,.rl T' r' n' _=>T=T'∧r=r'∧n=n'
 | .rl T r n _,.r T' r' n'=>T=T'∧r=r'∧n=n'
 | .xs l,.xs l'=>l=l'
 | .xr w l,.xr w' l'=>w=w'∧l=l'
 | .dead,.dead=>True
 | _,_=>False
theorem zV.refl (c:HC):zV c c:=by cases c<;>simp [zV]
theorem zV.trans {a b c:HC} (h:zV a b) (k:zV b c):zV a c:=by
 cases a<;>cases b<;>simp only [zV] at h<;>cases c<;>simp only [zV] at k ⊢
 all_goals first | omega | (obtain ⟨rfl,rfl,rfl⟩:=h; exact k) | (obtain ⟨rfl,rfl⟩:=h; exact k) | (subst h; exact k)
theorem zV.live {a b:HC} (h:zV a b):qB a↔qB b:=by
 cases a<;>cases b<;>simp only [zV] at h<;>simp only [qB]
 all_goals first | (obtain ⟨rfl,rfl,rfl⟩:=h; rfl) | (obtain ⟨rfl,rfl⟩:=h; rfl) | (subst h; rfl) | trivial
def kY (W:Wd) (H:Hp) (W':Wd) (H':Hp):Prop:=∀ (i:Nat) (hb:HB),H[i]?=some hb→∃ hb':HB,H'[i]?=some hb'∧hb.g≤hb'.g∧(hb'.g=hb.g→W'.as i=W.as i∧zV hb.c hb'.c)
theorem kY.refl (W:Wd) (H:Hp):kY W H W H:=fun i hb h=>⟨hb,h,Nat.le_refl _,fun _=>⟨rfl,zV.refl _⟩⟩
theorem kY.trans {W W1 W2:Wd} {H H1 H2:Hp} (h:kY W H W1 H1) (k:kY W1 H1 W2 H2):kY W H W2 H2:=by
 intro i hb hi;obtain ⟨hb1,h1,g1,s1⟩:=h i hb hi;obtain ⟨hb2,h2,g2,s2⟩:=k i hb1 h1;refine ⟨hb2,h2,by omega,fun e=>?_⟩
 have e1:hb1.g=hb.g:=by omega
 have e2:hb2.g=hb1.g:=by omega
 obtain ⟨a1,c1⟩:=s1 e1;obtain ⟨a2,c2⟩:=s2 e2;exact ⟨a2.trans a1,c1.trans c2⟩
section
variable {C:Cx} {W W':Wd} {H H':Hp} {σ σ':Mem}
theorem QV.go (h:Go' W σ W' σ') (hK:KOK W σ) {T r n:Nat} {v:AV} (t:QV C W σ T r n v):QV C W' σ' T r n v:=⟨t.1.go h hK,t.2⟩
theorem PV.go (h:Go' W σ W' σ') (hK:KOK W σ) {T r n:Nat} {v:AV} (t:PV C W σ T r n v):PV C W' σ' T r n v:=by
 obtain ⟨b,o,blk,rfl,hb,hg,hp,⟨hcp,hrp⟩,hc⟩:=t;obtain ⟨blk',hg',hs⟩:=h.blk hK hb hg;refine ⟨b,o,blk',rfl,h.may hb,hg',hp,⟨hcp,hcp.rp _ _ (fun j hj=>?_) hrp⟩,fun j ty hj=>?_⟩
 ·obtain ⟨ty,hty⟩:∃ ty,(C.ct T r)[j]?=some ty:=⟨_,List.getElem?_eq_some_iff.2 ⟨by rw [hcp.len r]; exact hj,rfl⟩⟩
  obtain ⟨c,h1,_⟩:=hc j ty hty;obtain ⟨c',h3,h4⟩:=hs.cell _ _ h1;rw [h1,h3];exact h4.pc
 exact hs.row hcp (κ:=fun _=>r) (fun j ty hj=>by obtain ⟨c,h1,h2⟩:=hc j ty hj; exact ⟨c,h1,h2.go h hK⟩) j ty hj
theorem XV.go (h:Go' W σ W' σ') {l:List (Nat×Nat)} {v:AV} (t:XV W l v):XV W' l v:=by
 obtain ⟨t0,t⟩:=t;refine ⟨t0,?_⟩;rcases t with t | ⟨b,o,e,t⟩
 ·exact .inl t
 ·refine .inr ⟨b,o,e,?_⟩;rcases t with t | ⟨blk,t1,t2⟩
  ·exact .inl t
  ·exact .inr ⟨blk,h.K _ _ t1,t2⟩
theorem hasB.go (hH:kY W H W' H') {i g:Nat} {P P':HB→Prop} (h:hasB H i g P) (hP:∀ hb hb',H[i]?=some hb→H'[i]?=some hb'→hb'.g=hb.g→W'.as i=W.as i→zV hb.c hb'.c→P hb→P' hb'):hasB H' i g P':=by
 obtain ⟨hb,h1,h2,h3⟩:=h;obtain ⟨hb',k1,k2,k3⟩:=hH i hb h1;refine ⟨hb',k1,by omega,fun e=>?_⟩
 have e1:hb'.g=hb.g:=by omega
 obtain ⟨a,s⟩:=k3 e1;exact hP hb hb' h1 k1 e1 a s (h3 (by omega))
theorem sX.same {a n sz:Nat} {v:AV} {c c':HC} (s:zV c c') (h:sX C a n sz v c):sX C a n sz v c':=by
 cases c<;>cases c'<;>simp only [zV] at s<;>simp only [sX] at h ⊢
 all_goals first | (rw [←s]; exact h) | (obtain ⟨rfl,rfl,rfl⟩:=s; exact h) | (subst s; exact h)
theorem jLi.same {a n sz:Nat} {v:AV} {c c':HC} (s:zV c c') (h:jLi C a n sz v c):jLi C a n sz v c':=by
 cases c<;>cases c'<;>simp only [zV] at s<;>simp only [jLi] at h ⊢
 all_goals (obtain ⟨rfl,rfl,rfl⟩:=s; exact h)
mutual
theorem nd.mono {K K':Nat→Option xY} (h:∀ b x,K b=some x→K' b=some x):∀ (c:Nd) (v:AV),nd K c v→nd K' c v
 | .i _ _,_,k=>k
 | .b _,_,k=>k
 | .s _ _,_,k=>k
 | .q w l,v,k=>by
  simp only [nd] at k ⊢;rcases k with k | ⟨b,o,e,k⟩
  ·exact .inl k
  ·refine .inr ⟨b,o,e,?_⟩;rcases k with k | ⟨blk,k1,k2⟩
   ·exact .inl k
   ·exact .inr ⟨blk,h _ _ k1,ndR.mono h l w _ k2⟩
theorem nds.mono {K K':Nat→Option xY} (h:∀ b x,K b=some x→K' b=some x):∀ (l:List Nd) (f:Nat→Option AV),nds K l f→nds K' l f
 | [],_,_=>by simp only [nds]
 | c::r,f,k=>by
  simp only [nds] at k ⊢;obtain ⟨⟨x,e,k1⟩,k2⟩:=k;exact ⟨⟨x,e,nd.mono h c x k1⟩,nds.mono h r _ k2⟩
theorem ndR.mono {K K':Nat→Option xY} (h:∀ b x,K b=some x→K' b=some x):∀ (l:List (List Nd)) (w:Nat) (f:Nat→Option AV),ndR K l w f→ndR K' l w f
 | [],_,_,_=>by simp only [ndR]
 | c::r,w,f,k=>by
  simp only [ndR] at k ⊢;exact ⟨⟨k.1.1,nds.mono h c f k.1.2⟩,ndR.mono h r w _ k.2⟩
end
structure On (C:Cx) (W:Wd) (H:Hp) (σ:Mem) (W':Wd) (H':Hp) (σ':Mem):Prop where
 go:Go' W σ W' σ'
 hp:kY W H W' H'
 k:KOK W σ
mutual
theorem sv.on (h:On C W H σ W' H' σ'):∀ (s:SV) (v:AV),sv C W H σ s v→sv C W' H' σ' s v
 | .b x,v,k=>k
 | .i _ _,v,k=>k
 | .s _ _,v,k=>k
 | .p0,v,k=>k
 | .sl0,v,k=>k
 | .tp i g off,v,k=>⟨k.1,hasB.go h.hp k.2 fun hb hb' _ _ _ a s p=>by rw [a]; exact p⟩
 | .te i g m off,v,k=>⟨k.1,hasB.go h.hp k.2 fun hb hb' _ _ _ a s p=>by rw [a]; exact p.same s⟩
 | .ts i g n sz,v,k=>⟨k.1,hasB.go h.hp k.2 fun hb hb' _ _ _ a s p=>by rw [a]; exact p.same s⟩
 | .q _ _ _,v,k=>QV.go h.go h.k k
 | .qp _ _ _,v,k=>PV.go h.go h.k k
 | .qs _,v,k=>XV.go h.go k
 | .xs p,v,k=>by
  obtain ⟨k0,b,o,blk,e,h1,h2⟩:=k;exact ⟨k0,b,o,blk,e,h.go.K _ _ h1,h2⟩
 | .f fn a c,v,k=>by
  obtain ⟨a',c',e,h1,h2⟩:=k;exact ⟨a',c',e,svs.on h a a' h1,svs.on h c c' h2⟩
 | .agg l,v,k=>by
  obtain ⟨l',e,h1⟩:=k;exact ⟨l',e,svs.on h l l' h1⟩
 | .tup l,v,k=>by
  obtain ⟨l',e,h1⟩:=k;exact ⟨l',e,svs.on h l l' h1⟩
 | .fis _,v,k=>k
 | .fqs,v,k=>k
 | .qx w l,v,k=>nd.mono h.go.K _ _ k
 | .xp l,v,k=>by
  obtain ⟨b,o,blk,e,h1,h2⟩:=k;exact ⟨b,o,blk,e,h.go.K _ _ h1,nds.mono h.go.K _ _ h2⟩
theorem svs.on (h:On C W H σ W' H' σ'):∀ (s:List SV) (v:List AV),svs C W H σ s v→svs C W' H' σ' s v
 | [],v,k=>k
 | x::r,v,k=>by
  obtain ⟨y,t,e,h1,h2⟩:=k;exact ⟨y,t,e,sv.on h x y h1,svs.on h r t h2⟩
end
theorem svs.len:∀ {s:List SV} {v:List AV},svs C W H σ s v→v.length=s.length
 | [],v,h=>by simp only [svs] at h; subst h; rfl
 | x::r,v,h=>by obtain ⟨y,t,rfl,h1,h2⟩:=h; simp [svs.len h2]
theorem svs.nth:∀ {s:List SV} {v:List AV},svs C W H σ s v→∀ (i:Nat) (x:SV),s[i]?=some x→∃ y,v[i]?=some y∧sv C W H σ x y
 | [],v,h,i,x,e=>by simp at e
 | a::r,v,h,0,x,e=>by obtain ⟨y,t,rfl,h1,h2⟩:=h; simp at e; subst e; exact ⟨y,rfl,h1⟩
 | a::r,v,h,i+1,x,e=>by obtain ⟨y,t,rfl,h1,h2⟩:=h; simp at e ⊢; exact svs.nth h2 i x e
theorem svs.of:∀ {s:List SV} {v:List AV},v.length=s.length→(∀ (i:Nat) (x:SV),s[i]?=some x→∃ y,v[i]?=some y∧sv C W H σ x y)→svs C W H σ s v
 | [],v,h,_=>by simp at h; simp [svs,h]
 | a::r,[],h,_=>by simp at h
 | a::r,y::t,h,k=>by
  refine ⟨y,t,rfl,?_,svs.of (by simpa using h) fun i x e=>by simpa using k (i+1) x (by simpa using e)⟩
  obtain ⟨y',e,h'⟩:=k 0 a rfl;simp at e; subst e; exact h'
theorem svs.app {a b:List SV} {u v:List AV} (h:svs C W H σ a u) (k:svs C W H σ b v):svs C W H σ (a++b) (u++v):=by
 refine svs.of (by simp [h.len,k.len]) fun i x e=>?_
 rw [List.getElem?_append] at e ⊢;rw [h.len];split at e
 ·rename_i hi; rw [if_pos hi]; exact h.nth i x e
 ·rename_i hi; rw [if_neg hi]; exact k.nth _ x e
theorem svs.take {s:List SV} {v:List AV} (h:svs C W H σ s v) (n:Nat):svs C W H σ (s.take n) (v.take n):=by
 refine svs.of (by simp [h.len]) fun i x e=>?_
 rw [List.getElem?_take] at e ⊢;split at e
 ·rename_i hi; rw [if_pos hi]; exact h.nth i x e
 ·cases e
theorem svs.drop {s:List SV} {v:List AV} (h:svs C W H σ s v) (n:Nat):svs C W H σ (s.drop n) (v.drop n):=by
 refine svs.of (by simp [h.len]) fun i x e=>?_
 rw [List.getElem?_drop] at e ⊢;exact h.nth _ x e
mutual
theorem sv.ofA:∀ (v:AV),okA v=true→sv C W H σ (ofA v) v
 | .b _,_=>rfl
 | .i _ _,_=>rfl
 | .s m u,k=>by
  refine ⟨rfl,?_⟩;exact Nat.le_of_ble_eq_true k
 | .p0,_=>rfl
 | .sl0,_=>rfl
 | .agg l,k=>⟨l,rfl,svs.ofAs l k⟩
 | .tup l,k=>⟨l,rfl,svs.ofAs l k⟩
 | .p _ _,k=>by simp [okA] at k
 | .sl _ _ _ _,k=>by simp [okA] at k
 | .f0,k=>by simp [okA] at k
 | .f fn a c,k=>by
  simp only [okA,Bool.and_eq_true] at k;exact ⟨a,c,rfl,svs.ofAs a k.1,svs.ofAs c k.2⟩
 | .ni,k=>by simp [okA] at k
 | .fi _,k=>by simp [okA] at k
 | .fq _,k=>by simp [okA] at k
theorem svs.ofAs:∀ (l:List AV),gJ l=true→svs C W H σ (ofAs l) l
 | [],_=>rfl
 | a::l,k=>by
  simp only [gJ,Bool.and_eq_true] at k;exact ⟨a,l,rfl,sv.ofA a k.1,svs.ofAs l k.2⟩
end
theorem sv.one {s:SV} {v:AV} (h:sv C W H σ s v) (k:qZ s=true):v.one=true:=by
 cases s
 case b=>cases h; rfl
 case i=>cases h; rfl
 case s=>obtain ⟨rfl,_⟩:=h; rfl
 case p0=>cases h; rfl
 case sl0=>cases h; rfl
 case tp=>exact h.1
 case te=>exact h.1
 case ts=>exact h.1
 case q=>rcases h.2 with ⟨rfl,_⟩ | ⟨b,o,rfl⟩<;>rfl
 case qp=>obtain ⟨b,o,blk,rfl,_⟩:=h; rfl
 case qs=>rcases h.2 with ⟨rfl,_⟩ | ⟨b,o,rfl,_⟩<;>rfl
 case xs=>obtain ⟨_,b,o,blk,rfl,_⟩:=h; rfl
 case f=>obtain ⟨a',c',rfl,_⟩:=h; rfl
 case fis=>obtain ⟨l,rfl,_⟩:=h; rfl
 case fqs=>obtain ⟨z,rfl⟩:=h; rfl
 case qx=>rcases h with ⟨rfl,_⟩ | ⟨b,o,rfl,_⟩<;>rfl
 case xp=>obtain ⟨b,o,blk,rfl,_⟩:=h; rfl
 case agg=>simp [qZ] at k
 case tup=>simp [qZ] at k
theorem jRa {v:AV} (h:v.one=true):v.cells=[v]:=by cases v<;>first | rfl | simp [AV.one] at h
theorem sv.cells {s:SV} {v:AV} (h:sv C W H σ s v):svs C W H σ (yK s) v.cells:=by
 by_cases k:qZ s=true
 ·rw [jRa (h.one k)];have:yK s=[s]:=by cases s<;>first | rfl | simp [qZ] at k
  rw [this];exact ⟨v,[],rfl,h,rfl⟩
 ·cases s<;>simp [qZ] at k
  case agg l=>obtain ⟨l',rfl,k⟩:=h; exact k
  case tup l=>obtain ⟨l',rfl,k⟩:=h; exact ⟨_,_,rfl,⟨_,rfl,k⟩,rfl⟩
theorem svs.ones:∀ {s:List SV} {v:List AV},svs C W H σ s v→qF s=true→jS v=true
 | [],v,h,_=>by simp only [svs] at h; subst h; rfl
 | x::r,v,h,k=>by
  obtain ⟨y,t,rfl,h1,h2⟩:=h;simp only [qF,Bool.and_eq_true] at k;simp [jS,h1.one k.1,h2.ones k.2]
def zD (C:Cx) (W:Wd) (H:Hp) (σ:Mem):HC→List AV→Prop
 | .l l,cs=>svs C W H σ l cs∧qF l=true
 | .r T r n,cs=>zM C W σ T r n cs
 | .xs l,cs=>cs=l.map (fun p=>AV.s p.1 p.2)∧gB l
 | .xr w l,cs=>ndR W.K l w (fun m=>cs[m]?)∧cs.length=l.length*w∧jS cs=true
 | .rl T r n l,cs=>zM C W σ T r n cs∧svs C W H σ l (cs.drop ((n - 1)*(C.ct T 0).length))∧qF l=true
 | .dead,_=>True
def Own (W:Wd) (H:Hp) (b:Nat):Prop:=∃ (i:Nat) (hb:HB),H[i]?=some hb∧qB hb.c∧W.as i=b
structure Rl (C:Cx) (W:Wd) (H:Hp) (σ:Mem):Prop where
 inj:∀ (i j:Nat) (hi hj:HB),H[i]?=some hi→H[j]?=some hj→qB hi.c→qB hj.c→W.as i=W.as j→i=j
 blk:∀ (i:Nat) (hb:HB),H[i]?=some hb→qB hb.c→∃ blk:xY,σ.t.get (W.as i)=some blk∧blk.elem=hb.e∧blk.plain=true∧zD C W H σ hb.c blk.cells
 lt:∀ (i:Nat) (hb:HB),H[i]?=some hb→qB hb.c→W.as i<σ.nx
 nA:∀ (i:Nat) (hb:HB),H[i]?=some hb→qB hb.c→¬ W.A (W.as i)∧W.K (W.as i)=none
 A:∀ b,W.A b→b<σ.nx∧(∃ blk,σ.t.get b=some blk)∧W.K b=none
 K:∀ b x,W.K b=some x→b<σ.nx∧σ.t.get b=some x
theorem Rl.kok (h:Rl C W H σ):KOK W σ:=fun b x hx=>(h.K b x hx).2
structure Mv (W:Wd) (H:Hp) (σ:Mem) (W':Wd) (H':Hp) (σ':Mem):Prop where
 go:Go' W σ W' σ'
 hp:kY W H W' H'
 nx:σ.nx≤σ'.nx
 fr:∀ b,b<σ.nx→¬ W.A b→¬ Own W H b→σ'.t.get b=σ.t.get b
 nA:∀ b,b<σ.nx→W'.A b→W.A b∨Own W H b
 nK:∀ b,b<σ.nx→(W'.K b).isSome=true→(W.K b).isSome=true∨Own W H b
 own:∀ b,b<σ.nx→Own W' H' b→Own W H b
theorem Mv.refl:Mv W H σ W H σ:=⟨Go'.refl,kY.refl _ _,Nat.le_refl _,fun _ _ _ _=>rfl,fun _ _ h=>.inl h,fun _ _ h=>.inl h,fun _ _ h=>h⟩
theorem Mv.trans {W2:Wd} {H2:Hp} {σ2:Mem} (h:Mv W H σ W' H' σ') (k:Mv W' H' σ' W2 H2 σ2):Mv W H σ W2 H2 σ2:=by
 have hnx:=h.nx;refine ⟨h.go.trans k.go,h.hp.trans k.hp,Nat.le_trans h.nx k.nx,fun b hb h1 h2=>?_,fun b hb h1=>?_,fun b hb h1=>?_,fun b hb h1=>?_⟩
 ·rw [k.fr b (by omega) ?_ ?_,h.fr b hb h1 h2]
  ·intro h3; rcases h.nA b hb h3 with h3 | h3
   ·exact h1 h3
   ·exact h2 h3
  ·intro h3; exact h2 (h.own b hb h3)
 ·rcases k.nA b (by omega) h1 with h3 | h3
  ·exact h.nA b hb h3
  ·exact .inr (h.own b hb h3)
 ·rcases k.nK b (by omega) h1 with h3 | h3
  ·exact h.nK b hb h3
  ·exact .inr (h.own b hb h3)
 ·exact h.own b hb (k.own b (by omega) h1)
theorem Rl.on (h:Rl C W H σ) (m:Mv W H σ W' H' σ'):On C W H σ W' H' σ':=⟨m.go,m.hp,h.kok⟩
def zY (C:Cx) (W:Wd) (H:Hp) (σ:Mem) (E:Env) (τ:T):Prop:=∀ (n:Nat) (s:SV),look E n=some s→sv C W H σ s ((X.t n).ev τ)
theorem zY.on (h:On C W H σ W' H' σ') {E:Env} {τ:T} (k:zY C W H σ E τ):zY C W' H' σ' E τ:=fun n s e=>sv.on h _ _ (k n s e)
theorem zH {E:Env} {τ:T} (k:zY C W H σ E τ) {x:X} {Q:P1} (h:vx E x Q):∃ s,Q s∧sv C W H σ s (x.ev τ):=by
 cases x with
 | k v=>
  simp only [vx] at h;by_cases e:okA v=true
  ·rw [e] at h; exact ⟨_,h,sv.ofA v e⟩
  ·simp only [Bool.not_eq_true] at e; rw [e] at h; exact h.elim
 | t n=>
  simp only [vx,fL] at h;split at h
  ·rename_i s hs; exact ⟨s,h,k n s hs⟩
  ·exact h.elim
theorem aH {E:Env} {τ:T} (k:zY C W H σ E τ):∀ {l:List X} {Q:List SV→Prop},vxs E l Q→∃ s,Q s∧svs C W H σ s (evs τ l)
 | [],Q,h=>⟨[],h,rfl⟩
 | x::r,Q,h=>by
  obtain ⟨s,h1,h2⟩:=zH k (x:=x) (Q:=fun v=>vxs E r fun l=>Q (v::l)) h;obtain ⟨l,h3,h4⟩:=aH k h1;exact ⟨s::l,h3,_,_,rfl,h2,h4⟩
theorem zY.put {E:Env} {τ:T} (k:zY C W H σ E τ) {d:Option Nat} {s:SV} {v:AV} (h:sv C W H σ s v):zY C W H σ (sV E d s) (dO τ d v):=by
 cases d with
 | none=>exact k
 | some d=>
  intro n s' e;simp only [sV,look] at e;simp only [dO,X.ev,Tr.get_set30 _ _ _ _ (Nat.zero_le _)];by_cases q:d=n
  ·subst q;simp at e;subst e;simpa using h
  ·have:Nat.beq d n=false:=by cases hq:Nat.beq d n with | false=>rfl | true=>exact absurd (Nat.eq_of_beq_eq_true hq) q
   rw [this] at e;rw [if_neg (Ne.symm q)];exact k n s' e
end
end
noncomputable section
set_option linter.all false
open Go
theorem qMi {n v m u:Nat} (h1:v<256^n) (h2:u<256^m):v+u*256^n<256^(n+m):=by
 rw [Nat.pow_add];have h3:(u+1)*256^n≤256^m*256^n:=Nat.mul_le_mul_right _ h2;rw [Nat.add_mul,Nat.one_mul] at h3;rw [Nat.mul_comm (256^n)];omega
theorem qJa {v a m k:Nat} (hk:k<m):v / 256^a % 256^m / 256^k % 256=v / 256^(a+k) % 256:=by
 obtain ⟨d,rfl⟩:∃ d,m=k+(d+1):=⟨m - k - 1,by omega⟩
 rw [Nat.pow_add 256 k (d+1),Nat.mod_mul_right_div_self,Nat.div_div_eq_div_mul,←Nat.pow_add];exact Nat.mod_mod_of_dvd _ ⟨256^d,by rw [Nat.pow_succ,Nat.mul_comm]⟩
theorem jH {b:Bool} {p:Prop} (h:req b p):b=true∧p:=by
 cases b with
 | true=>exact ⟨rfl,h⟩
 | false=>exact h.elim
theorem jJy {a b:IntKind} (h:eqK a b=true):a=b:=by cases a<;>cases b<;>first | rfl | simp [eqK] at h
theorem jQj (k:IntKind) (n:Int) (hk:okK k=true):rng k (k.wrap n):=by
 cases k<;>simp [okK] at hk<;>simp only [rng,IntKind.wrap,IntKind.bits,IntKind.signed]<;>simp<;>(try split)<;>omega
theorem jLp (k:IntKind) (n:Int) (h:rng k n):k.wrap n=n:=by
 cases k<;>simp only [rng] at h<;>simp only [IntKind.wrap,IntKind.bits,IntKind.signed]<;>simp<;>(try split)<;>omega
theorem qFa (k:IntKind) (n:Int):jQi k n=k.wrap n:=by
 cases k<;>simp only [jQi];split
 ·rename_i h;refine (jLp .i64 n ?_).symm;cases n with
  | ofNat m=>have:=Nat.le_of_ble_eq_true h; simp only [rng]; have e:Int.ofNat m=(m:Int):=rfl; rw [e]; omega
  | negSucc m=>have:=Nat.le_of_ble_eq_true h; simp only [rng,Int.negSucc_eq]; omega
 ·rfl
theorem jRs (k:IntKind) (n:Int):mkI k n=some (.i k (k.wrap n)):=by simp only [mkI,bZ,qFa]
theorem eY {k:IntKind} {n:Int} (h:rng k n):mkI k n=some (.i k n):=by rw [jRs,jLp k n h]
theorem hY (a b:Int):ltI a b=decide (a<b):=by
 cases a<;>cases b<;>simp only [ltI]<;>(first | (simp [Nat.blt_eq]; omega) | skip)
 all_goals (rw [Bool.eq_iff_iff]; simp [Nat.blt_eq]; try omega)
theorem mE {b:Bool} {p q:Prop} (h:brn b p q):(b=true∧p)∨(b=false∧q):=by cases b<;>simp_all [brn]
theorem uL (a b:Nat):Nat.beq a b=decide (a=b):=by
 by_cases h:a=b
 ·subst h; simp
 ·simp only [h,decide_false]; cases q:Nat.beq a b with | false=>rfl | true=>exact absurd (Nat.eq_of_beq_eq_true q) h
theorem qLt (k:IntKind) (n:Int):mkR k n=some (.i k n):=by simp only [mkR,bZ]
theorem qJf {k:IntKind} {a p:Int} (hp:0<p) (h:rng k a):rng k (a.fdiv p):=by
 rw [Int.fdiv_eq_ediv_of_nonneg _ (Int.le_of_lt hp)];have h1:(0≤a→0≤a / p∧a / p≤a):=fun h=>⟨Int.ediv_nonneg h (Int.le_of_lt hp),Int.ediv_le_self _ h⟩;have h2:(a<0→a≤a / p∧a / p≤0):=fun h=>⟨by rw [Int.le_ediv_iff_mul_le hp]; have:=Int.mul_nonneg (a:=0 - a) (b:=p - 1) (by omega) (by omega); rw [Int.mul_sub,Int.sub_mul] at this; omega,by have:=Int.ediv_neg_of_neg_of_pos h hp; omega⟩
 by_cases h0:0≤a
 ·have:=h1 h0; cases k<;>simp only [rng] at h ⊢ <;> omega
 ·have:=h2 (by omega); cases k<;>simp only [rng] at h ⊢ <;> omega
theorem tU (a b:Int):eqI a b=decide (a=b):=by
 cases a<;>cases b<;>simp only [eqI]<;>(rw [Bool.eq_iff_iff]; simp<;>try omega)
section
variable {C:Cx} {W:Wd} {H:Hp} {σ:Mem}
theorem oX {p:Prop} [Decidable p] {Q:P1} (h:spl p Q):Q (.b (decide p)):=by
 by_cases q:p
 ·have:=h.1 q; simpa [q] using this
 ·have:=h.2 q; simpa [q] using this
theorem jWe {p:Prop} [Decidable p] {Q:P1} (h:qJg p Q):Q (.b (!decide p)):=by
 by_cases q:p
 ·have:=h.2 q; simpa [q] using this
 ·have:=h.1 q; simpa [q] using this
def PO (C:Cx) (W:Wd) (H:Hp) (σ:Mem) (r:Option AV) (Q:P1):Prop:=∃ v s,r=some v∧Q s∧sv C W H σ s v
theorem jJk {k:IntKind} {Q:P1} (h:jMe k Q) (n:Int):PO C W H σ (mkI k n) Q:=by
 obtain ⟨hk,h⟩:=jH h;exact ⟨_,_,jRs k n,h _ (jQj k n hk),rfl⟩
theorem qRk {o:BinOp} {k:IntKind} {a b:Int} {Q:P1} (h:wI o k a b Q):PO C W H σ (bS o k a b) Q:=by
 cases o<;>simp only [wI] at h<;>try exact h.elim
 case add=>exact ⟨_,_,eY h.1,h.2,rfl⟩
 case sub=>exact ⟨_,_,eY h.1,h.2,rfl⟩
 case mul=>exact ⟨_,_,eY h.1,h.2,rfl⟩
 case quo=>
  have hb:eqI b 0=false:=by rw [tU]; have:=h.1.2; simp; omega
  exact ⟨_,_,by simp only [bS,hb]; rw [Int.tdiv_eq_ediv_of_nonneg h.1.1]; exact eY h.2.1,h.2.2,rfl⟩
 case rem=>
  have hb:eqI b 0=false:=by rw [tU]; have:=h.1.2; simp; omega
  exact ⟨_,_,by simp only [bS,hb]; rw [Int.tmod_eq_emod_of_nonneg h.1.1]; simp only [mkR,bZ]; rfl,h.2,rfl⟩
 case and=>exact jJk h _
 case or=>exact jJk h _
 case eql=>exact ⟨_,_,rfl,oX h,by simp [sv,tU]⟩
 case neq=>exact ⟨_,_,rfl,jWe h,by simp [sv,tU]⟩
 case lss=>exact ⟨_,_,rfl,oX h,by simp [sv,hY]⟩
 case leq=>exact ⟨_,_,rfl,oX h,by simp only [sv,hY]; congr 1; rw [Bool.eq_iff_iff]; simp⟩
 case gtr=>exact ⟨_,_,rfl,oX h,by simp [sv,hY]⟩
 case geq=>exact ⟨_,_,rfl,oX h,by simp only [sv,hY]; congr 1; rw [Bool.eq_iff_iff]; simp⟩
theorem qNa {o:BinOp} {s t:SV} {x y:AV} {Q:P1} (hx:sv C W H σ s x) (hy:sv C W H σ t y) (h:wBi o s t Q):PO C W H σ (jXl o x y) Q:=by
 unfold wBi at h;split at h
 ·rename_i k a k' b;cases hx; cases hy;simp only [jXl];have h0:∀ {b:Int},0≤b→ltI b 0=false:=fun hb=>by rw [hY]; simpa using hb
  rcases mE h with ⟨hs,h⟩ | ⟨hs,h⟩
  ·rw [if_pos hs];cases o<;>simp [jBn] at hs<;>simp only [wSh] at h
   ·rw [h0 h.1]; exact jJk h.2 _
   ·obtain ⟨hb,hr,hq⟩:=h;obtain ⟨hk,hq⟩:=jH hq;rw [h0 hb];exact ⟨_,_,by simp only [qLt]; rfl,hq _ (qJf (Int.pow_pos (by omega)) hr),rfl⟩
  ·rw [hs];obtain ⟨hk,h'⟩:=jH h;simp only [hk,if_true];cases jJy hk;exact qRk h'
 ·rename_i n v m u;obtain ⟨rfl,h1⟩:=hx;obtain ⟨rfl,h2⟩:=hy;simp only [jXl];cases o<;>simp only [wS] at h<;>try exact h.elim
  case add=>
   have:Nat.ble (Nat.add n m) 140737488355328=true:=Nat.ble_eq_true_of_le h.1;refine ⟨.s (n+m) (Nat.add v (Nat.mul u (Nat.pow 256 n))),.s (n+m) (v+u*256^n),by simp only [qGq,this,if_true,nY]; rfl,h.2 h1 h2,rfl,?_⟩
   exact qMi h1 h2
  case eql=>exact ⟨_,_,rfl,oX (h h1 h2),by simp [sv,eqS,uL]⟩
  case neq=>exact ⟨_,_,rfl,jWe (h h1 h2),by simp [sv,eqS,uL]⟩
 ·exact h.elim
theorem qNv {o:UnOp} {s:SV} {x:AV} {Q:P1} (hx:sv C W H σ s x) (h:wUn o s Q):PO C W H σ (unA o x) Q:=by
 unfold wUn at h;split at h
 ·rename_i b;cases hx;rcases mE h with ⟨rfl,h⟩ | ⟨rfl,h⟩<;>exact ⟨_,_,rfl,h,rfl⟩
 ·cases hx;exact ⟨_,_,eY h.1,h.2,rfl⟩
 ·exact h.elim
theorem qNm {s t:SV} {x i:X} {τ:T} {Q:P1} (hx:sv C W H σ s (x.ev τ)) (hy:sv C W H σ t (i.ev τ)) (h:wIx s t Q):PO C W H σ (xIx x i τ) Q:=by
 unfold wIx at h;split at h
 ·rename_i n v k j;obtain ⟨hx,h1⟩:=hx;obtain ⟨⟨h2,h3⟩,h⟩:=h;obtain ⟨m,rfl⟩:=Int.eq_ofNat_of_zero_le h2;have hy':i.ev τ = .i k (m:Int):=hy;have h4:Nat.blt m n=true:=by simp [Nat.blt_eq]; omega
  refine ⟨.i .u8 (.ofNat (v / 256^m % 256)),_,?_,h ?_ ?_,?_⟩
  ·simp only [xIx,hx,hy',asN,h4,if_true,qI,show ((m:Int))=Int.ofNat m from rfl];rfl
  ·unfold byZ; omega
  ·unfold byZ; omega
  ·unfold byZ; simp [sv]
 ·exact h.elim
theorem qCf {s:SV} {v:AV} {Q:Int→Prop} (hx:sv C W H σ s v) (h:iOf s Q):∃ k n,v = .i k n∧Q n:=by
 unfold iOf at h;split at h
 ·exact ⟨_,_,hx,h⟩
 ·exact h.elim
theorem kV {E:Env} {τ:T} (he:zY C W H σ E τ) {x:Option X} {d:Int} {Q:Int→Prop} (h:jAx E x d Q):∃ n,Q n∧((x=none∧n=d)∨∃ k,X.evO τ x=some (.i k n)):=by
 cases x with
 | none=>exact ⟨d,h,.inl ⟨rfl,rfl⟩⟩
 | some x=>
  obtain ⟨s,h1,h2⟩:=zH he (x:=x) (Q:=fun v=>iOf v Q) h;obtain ⟨k,n,e,h3⟩:=qCf h2 h1;exact ⟨n,h3,.inr ⟨k,by simp [X.evO,e]⟩⟩
theorem jXm {lo hi:Option AV} {n p q:Nat} (h1:(lo=none∧p=0)∨∃ k,lo=some (.i k (Int.ofNat p))) (h2:(hi=none∧q=n)∨∃ k,hi=some (.i k (Int.ofNat q))) (hpq:p≤q) (hq:q≤n):fE n lo hi=some (p,q):=by
 have c1:Nat.ble p q=true:=Nat.ble_eq_true_of_le hpq;have c2:Nat.ble q n=true:=Nat.ble_eq_true_of_le hq;rcases h1 with ⟨rfl,rfl⟩ | ⟨k,rfl⟩<;>rcases h2 with ⟨rfl,rfl⟩ | ⟨k',rfl⟩<;>simp only [fE,asN,c1,c2]<;>rfl
theorem bT {τ:T} {lo hi:Option X} {n:Nat} {a b:Int} (h1:(lo=none∧a=0)∨∃ k,X.evO τ lo=some (.i k a)) (h2:(hi=none∧b=(n:Int))∨∃ k,X.evO τ hi=some (.i k b)) (h:0≤a∧a≤b∧b≤(n:Int)) :
  fE n (X.evO τ lo) (X.evO τ hi)=some (a.toNat,b.toNat):=by
 obtain ⟨ha,hab,hbn⟩:=h;obtain ⟨p,rfl⟩:=Int.eq_ofNat_of_zero_le ha;obtain ⟨q,rfl⟩:=Int.eq_ofNat_of_zero_le (Int.le_trans ha hab);have h1':(X.evO τ lo=none∧p=0)∨∃ k,X.evO τ lo=some (.i k (Int.ofNat p)):=by
  rcases h1 with ⟨rfl,e⟩ | h
  ·exact .inl ⟨rfl,by omega⟩
  ·exact .inr h
 have h2':(X.evO τ hi=none∧q=n)∨∃ k,X.evO τ hi=some (.i k (Int.ofNat q)):=by
  rcases h2 with ⟨rfl,e⟩ | h
  ·exact .inl ⟨rfl,by omega⟩
  ·exact .inr h
 exact jXm h1' h2' (by omega) (by omega)
theorem qNt {E:Env} {τ:T} (he:zY C W H σ E τ) {s:SV} {x:X} {lo hi:Option X} {Q:P1} (hx:sv C W H σ s (x.ev τ)) (h:wSs s lo hi E Q):PO C W H σ (xSs x lo hi τ) Q:=by
 unfold wSs at h;split at h
 ·rename_i n v;obtain ⟨hx,h0⟩:=hx;obtain ⟨a,h,ha⟩:=kV he h;obtain ⟨b,h,hb⟩:=kV he h;obtain ⟨hab,h⟩:=h;have:=bT ha hb hab;have e:((b.toNat - a.toNat:Nat):Int)=b - a:=by omega
  have e0:Nat.mod (Nat.div v (Nat.pow 256 a.toNat)) (Nat.pow 256 (Nat.sub b.toNat a.toNat))<256^(b.toNat - a.toNat):=Nat.mod_lt _ (Nat.pow_pos (by omega))
  exact ⟨_,_,by simp only [xSs,hx,this,pW,nY]; rfl,h _ _ e e0 (fun k hk=>qJa hk),rfl,e0⟩
 ·exact h.elim
theorem qNo {s:SV} {x:X} {τ:T} {Q:P1} (hx:sv C W H σ s (x.ev τ)) (h:wLn s Q):PO C W H σ (xLn x τ) Q:=by
 unfold wLn at h;split at h
 ·obtain ⟨hx,h0⟩:=hx;exact ⟨_,_,by simp only [xLn,hx]; rfl,h,rfl⟩
 ·exact h.elim
theorem qNq {s t:SV} {x y:X} {τ:T} {Q:P1} (hx:sv C W H σ s (x.ev τ)) (hy:sv C W H σ t (y.ev τ)) (h:wMx s t Q):PO C W H σ (xMx x y τ) Q:=by
 unfold wMx at h;split at h
 ·rename_i k a k' b;obtain ⟨hk,h⟩:=jH h;have hx':x.ev τ = .i k a:=hx;have hy':y.ev τ = .i k' b:=hy;refine ⟨.i k (max a b),_,?_,h,rfl⟩;simp only [xMx,hx',hy',hk,if_true,hY];by_cases c:a<b
  ·simp [c,Int.max_eq_right (Int.le_of_lt c)]
  ·simp [c,Int.max_eq_left (Int.not_lt.1 c)]
 ·exact h.elim
theorem qNp {s t:SV} {x y:X} {τ:T} {Q:P1} (hx:sv C W H σ s (x.ev τ)) (hy:sv C W H σ t (y.ev τ)) (h:wMn s t Q):PO C W H σ (xMn x y τ) Q:=by
 unfold wMn at h;split at h
 ·rename_i k a k' b;obtain ⟨hk,h⟩:=jH h;have hx':x.ev τ = .i k a:=hx;have hy':y.ev τ = .i k' b:=hy;refine ⟨.i k (min a b),_,?_,h,rfl⟩;simp only [xMn,hx',hy',hk,if_true,hY];by_cases c:b<a
  ·simp [c,Int.min_eq_right (Int.le_of_lt c)]
  ·simp [c,Int.min_eq_left (Int.not_lt.1 c)]
 ·exact h.elim
theorem qNe {k:IntKind} {s:SV} {x:X} {τ:T} {Q:P1} (hx:sv C W H σ s (x.ev τ)) (h:wCi k s Q):PO C W H σ (xCi k x τ) Q:=by
 unfold wCi at h;split at h
 ·rename_i k' n;obtain ⟨hk,h⟩:=jH h;have hx':x.ev τ = .i k' n:=hx;exact ⟨_,_,by simp only [xCi,hx',jRs],h _ (jQj k n hk) (fun q=>jLp k n q),rfl⟩
 ·exact h.elim
theorem qNj {n:Nat} {s:SV} {x:X} {τ:T} {Q:P1} (hx:sv C W H σ s (x.ev τ)) (h:wEx n s Q):PO C W H σ (xEx n x τ) Q:=by
 unfold wEx at h;split at h
 ·rename_i l;obtain ⟨l',hx',hl⟩:=hx;split at h
  ·rename_i s hs;rw [jZ] at hs;obtain ⟨v,h1,h2⟩:=hl.nth _ _ hs;exact ⟨v,s,by simp only [xEx,hx',iD,h1],h,h2⟩
  ·exact h.elim
 ·exact h.elim
theorem qEt {s t u:SV} {x y z:X} {τ:T} {Q:P1} (hx:sv C W H σ s (x.ev τ)) (hy:sv C W H σ t (y.ev τ)) (hz:sv C W H σ u (z.ev τ)) (h:jWq s t u Q):PO C W H σ (vC x y z τ) Q:=by
 unfold jWq at h;split at h
 ·have hx':x.ev τ=_:=hx;rcases mE h with ⟨rfl,h⟩ | ⟨rfl,h⟩
  ·exact ⟨_,_,by simp only [vC,hx'],h,hy⟩
  ·exact ⟨_,_,by simp only [vC,hx'],h,hz⟩
 ·exact h.elim
end
end
noncomputable section
set_option linter.all false
open Go
def vS (W:Wd) (H:Hp):Key→Nat→Prop
 | .h i,b=>∃ hb:HB,H[i]?=some hb∧qB hb.c∧W.as i=b
 | .a,b=>W.A b∨(W.K b).isSome=true
 | .c,b=>(W.K b).isSome=true
def Tc (t:Tch) (W:Wd) (H:Hp) (σ:Mem) (W':Wd) (H':Hp) (σ':Mem):Prop:=∀ κ,hM t κ=false→∀ b,(vS W H κ b↔vS W' H' κ b)∧(vS W H κ b→σ'.t.get b=σ.t.get b)
theorem Tc.refl (t:Tch) (W:Wd) (H:Hp) (σ:Mem):Tc t W H σ W H σ:=fun _ _ _=>⟨Iff.rfl,fun _=>rfl⟩
theorem uW {i:Nat} {l:List Nat} (h:sU i l=false):i ∉ l:=by
 induction l with
 | nil=>simp
 | cons a l ih=>
  simp only [sU,Bool.or_eq_false_iff,uL,decide_eq_false_iff_not] at h;simp only [List.mem_cons,not_or];exact ⟨fun e=>h.1 e.symm,ih h.2⟩
section
variable {C:Cx} {W W':Wd} {H H':Hp} {σ σ':Mem}
theorem qU {i g:Nat} {Q:HB→Prop} (h:wU H i g Q):∃ hb,H[i]?=some hb∧hb.g=g∧Q hb:=by
 unfold wU at h;rw [jZ] at h;split at h
 ·rename_i hb hh;obtain ⟨e,h⟩:=jH h;exact ⟨hb,hh,Nat.eq_of_beq_eq_true e,h⟩
 ·exact h.elim
theorem qS {i g:Nat} {P:HB→Prop} (h:hasB H i g P) {hb:HB} (e:H[i]?=some hb) (eg:hb.g=g):P hb:=by
 obtain ⟨hb',h1,h2,h3⟩:=h;rw [e] at h1; cases h1;exact h3 eg
theorem zD.on (h:On C W H σ W' H' σ') {c:HC} {cs:List AV} (k:zD C W H σ c cs):zD C W' H' σ' c cs:=by
 cases c with
 | l l=>exact ⟨svs.on h _ _ k.1,k.2⟩
 | r T r n=>
  exact zM.go h.go h.k k
 | xs l=>exact k
 | xr w l=>exact ⟨ndR.mono h.go.K _ _ _ k.1,k.2⟩
 | rl T r n l=>
  exact ⟨zM.go h.go h.k k.1,svs.on h _ _ k.2.1,k.2.2⟩
 | dead=>trivial
theorem jLl (h:Rl C W H σ) {i:Nat} {hb hb':HB} (hi:H[i]?=some hb) (hl:qB hb.c) (hg:hb'.g=hb.g) (he:hb'.e=hb.e) (hs:zV hb.c hb'.c)
  {blk blk':xY} (hblk:σ.t.get (W.as i)=some blk) (e1:blk'.elem=blk.elem) (e2:blk'.plain=blk.plain)
  (hget:∀ b,σ'.t.get b=if b=W.as i then some blk' else σ.t.get b) (hnx:σ'.nx=σ.nx)
  (hc:On C W H σ W (jG H i hb') σ'→zD C W (jG H i hb') σ' hb'.c blk'.cells) :
  Rl C W (jG H i hb') σ'∧Mv W H σ W (jG H i hb') σ'∧Tc ⟨false,[i]⟩ W H σ W (jG H i hb') σ':=by
 have hil:i<H.length:=(List.getElem?_eq_some_iff.1 hi).1;have hget':∀ (j:Nat) (x:HB),(jG H i hb')[j]?=some x→(j=i∧x=hb')∨(j≠i∧H[j]?=some x):=by
  intro j x hx;rw [kC] at hx;by_cases e:j=i
  ·rw [if_pos ⟨e,hil⟩] at hx; cases hx; exact .inl ⟨e,rfl⟩
  ·rw [if_neg (fun q=>e q.1)] at hx; exact .inr ⟨e,hx⟩
 have hset:(jG H i hb')[i]?=some hb':=by rw [kC,if_pos ⟨rfl,hil⟩]
 have hlive:qB hb'.c:=hs.live.1 hl;have old:∀ (j:Nat) (x:HB),(jG H i hb')[j]?=some x→qB x.c→∃ y,H[j]?=some y∧qB y.c:=by
  intro j x hx hlx;rcases hget' j x hx with ⟨rfl,rfl⟩ | ⟨_,hx⟩
  ·exact ⟨hb,hi,hl⟩
  ·exact ⟨x,hx,hlx⟩
 have hA:=(h.nA i hb hi hl).1;have hK:=(h.nA i hb hi hl).2;have go:Go' W σ W σ':=by
  refine ⟨fun _ h=>h,fun _ _ h=>h,fun b hbA x hx=>?_,fun b x hx hgx=>?_⟩
  ·refine ⟨x,?_,Shp.rfl' x⟩;rw [hget,if_neg (by intro e; rw [e] at hbA; exact hA hbA)]; exact hx
  ·rw [hget,if_neg (fun e=>by rw [e,hK] at hx; cases hx)]; exact hgx
 have hp:kY W H W (jG H i hb'):=by
  intro j x hx;by_cases e:j=i
  ·subst e;rw [hi] at hx; cases hx;exact ⟨hb',hset,by omega,fun _=>⟨rfl,hs⟩⟩
  ·exact ⟨x,by rw [kC,if_neg (fun q=>e q.1)]; exact hx,Nat.le_refl _,fun _=>⟨rfl,zV.refl _⟩⟩
 have on:On C W H σ W (jG H i hb') σ':=⟨go,hp,h.kok⟩;have own:∀ b,Own W (jG H i hb') b→Own W H b:=by
  rintro b ⟨j,x,hx,hlx,e⟩;obtain ⟨y,hy,hly⟩:=old j x hx hlx;exact ⟨j,y,hy,hly,e⟩
 refine ⟨⟨?_,?_,?_,?_,?_,?_⟩,⟨go,hp,by omega,?_,fun b _ q=>.inl q,fun b _ q=>.inl q,fun b _ q=>own b q⟩,?_⟩
 ·intro j k x y hx hy hlx hly e;obtain ⟨x',hx',hlx'⟩:=old j x hx hlx;obtain ⟨y',hy',hly'⟩:=old k y hy hly;exact h.inj j k x' y' hx' hy' hlx' hly' e
 ·intro j x hx hlx;rcases hget' j x hx with ⟨rfl,rfl⟩ | ⟨hj,hx⟩
  ·obtain ⟨b0,g1,g2,g3,g4⟩:=h.blk _ hb hi hl;rw [hblk] at g1; cases g1;exact ⟨blk',by rw [hget,if_pos rfl],by rw [e1,g2,he],by rw [e2,g3],hc on⟩
  ·obtain ⟨b0,g1,g2,g3,g4⟩:=h.blk j x hx hlx;refine ⟨b0,?_,g2,g3,g4.on on⟩;rw [hget,if_neg (fun e=>hj (h.inj j i x hb hx hi hlx hl e))];exact g1
 ·intro j x hx hlx;obtain ⟨y,hy,hly⟩:=old j x hx hlx;rw [hnx]; exact h.lt j y hy hly
 ·intro j x hx hlx;obtain ⟨y,hy,hly⟩:=old j x hx hlx;exact h.nA j y hy hly
 ·intro b hb;obtain ⟨g1,⟨x,g2⟩,g3⟩:=h.A b hb;exact ⟨by omega,⟨x,by rw [hget,if_neg (by intro e; rw [e] at hb; exact hA hb)]; exact g2⟩,g3⟩
 ·intro b x hx;obtain ⟨g1,g2⟩:=h.K b x hx;exact ⟨by omega,go.kk b x hx g2⟩
 ·intro b hlt h1 h2;rw [hget,if_neg];intro e;exact h2 ⟨i,hb,hi,hl,e.symm⟩
 ·intro κ hκ b;cases κ with
  | h j=>
   have hj:j≠i:=by have:=uW hκ; simpa using this
   have e:(jG H i hb')[j]?=H[j]?:=by rw [kC,if_neg (fun q=>hj q.1)]
   refine ⟨by simp only [vS,e],fun hk=>?_⟩
   obtain ⟨x,hx,hlx,rfl⟩:=hk;rw [hget,if_neg (fun e=>hj (h.inj j i x hb hx hi hlx hl e))]
  | a=>
   refine ⟨Iff.rfl,fun hk=>?_⟩;rw [hget,if_neg];rintro rfl;rcases hk with hk | hk
   ·exact hA hk
   ·rw [hK] at hk; cases hk
  | c=>
   refine ⟨Iff.rfl,fun hk=>?_⟩;rw [hget,if_neg];rintro rfl;simp only [vS,hK] at hk;cases hk
theorem qCx (h:Rl C W H σ) {e:Nat} {c:HC} {blk:xY} (hl:qB c) (he:blk.elem=e) (hpl:blk.plain=true)
  (hget:∀ b,σ'.t.get b=if b=σ.nx then some blk else σ.t.get b) (hnx:σ'.nx=σ.nx+1)
  (hc:∀ W',On C W H σ W' (H++[⟨e,0,c⟩]) σ'→zD C W' (H++[⟨e,0,c⟩]) σ' c blk.cells) :
  ∃ W',Rl C W' (H++[⟨e,0,c⟩]) σ'∧Mv W H σ W' (H++[⟨e,0,c⟩]) σ'∧Tc ⟨false,[H.length]⟩ W H σ W' (H++[⟨e,0,c⟩]) σ'∧W'.as H.length=σ.nx:=by
 let W':Wd:=⟨W.A,W.K,fun j=>if j=H.length then σ.nx else W.as j⟩
 have has:∀ j,j<H.length→W'.as j=W.as j:=fun j hj=>if_neg (by omega)
 have hgetl:∀ (j:Nat) (x:HB),H[j]?=some x→(H++[⟨e,0,c⟩])[j]?=some x:=fun j x hx=>by rw [List.getElem?_append_left (List.getElem?_eq_some_iff.1 hx).1]; exact hx
 have hget':∀ (j:Nat) (x:HB),(H++[⟨e,0,c⟩])[j]?=some x→(j=H.length∧x=⟨e,0,c⟩)∨(j<H.length∧H[j]?=some x):=by
  intro j x hx;by_cases hj:j<H.length
  ·rw [List.getElem?_append_left hj] at hx; exact .inr ⟨hj,hx⟩
  ·rw [List.getElem?_append_right (by omega)] at hx
   have:j - H.length=0:=by
    cases q:j - H.length with
    | zero=>rfl
    | succ n=>rw [q] at hx; simp at hx
   rw [this] at hx;simp at hx;exact .inl ⟨by omega,hx.symm⟩
 have go:Go' W σ W' σ':=by
  refine ⟨fun _ h=>h,fun _ _ h=>h,fun b hbA x hx=>⟨x,?_,Shp.rfl' x⟩,fun b x hx hgx=>?_⟩
  ·have:=(h.A b hbA).1; rw [hget,if_neg (by omega)]; exact hx
  ·have:=(h.K b x hx).1; rw [hget,if_neg (by omega)]; exact hgx
 have hp:kY W H W' (H++[⟨e,0,c⟩]):=fun j x hx=>⟨x,hgetl j x hx,Nat.le_refl _,fun _=>⟨has j (List.getElem?_eq_some_iff.1 hx).1,zV.refl _⟩⟩;have on:On C W H σ W' (H++[⟨e,0,c⟩]) σ':=⟨go,hp,h.kok⟩;refine ⟨W',⟨?_,?_,?_,?_,?_,?_⟩,⟨go,hp,by omega,?_,fun b _ q=>.inl q,fun b _ q=>.inl q,?_⟩,?_,if_pos rfl⟩
 ·intro j k x y hx hy hlx hly q;rcases hget' j x hx with ⟨rfl,rfl⟩ | ⟨hj,hx⟩<;>rcases hget' k y hy with ⟨rfl,rfl⟩ | ⟨hk,hy⟩
  ·rfl
  ·rw [has k hk,show W'.as H.length=σ.nx from if_pos rfl] at q;have:=h.lt k y hy hly; omega
  ·rw [has j hj,show W'.as H.length=σ.nx from if_pos rfl] at q;have:=h.lt j x hx hlx; omega
  ·rw [has j hj,has k hk] at q; exact h.inj j k x y hx hy hlx hly q
 ·intro j x hx hlx;rcases hget' j x hx with ⟨rfl,rfl⟩ | ⟨hj,hx⟩
  ·exact ⟨blk,by rw [show W'.as H.length=σ.nx from if_pos rfl,hget,if_pos rfl],he,hpl,hc W' on⟩
  ·obtain ⟨b0,g1,g2,g3,g4⟩:=h.blk j x hx hlx;have:=h.lt j x hx hlx;exact ⟨b0,by rw [has j hj,hget,if_neg (by omega)]; exact g1,g2,g3,g4.on on⟩
 ·intro j x hx hlx;rcases hget' j x hx with ⟨rfl,rfl⟩ | ⟨hj,hx⟩
  ·rw [show W'.as H.length=σ.nx from if_pos rfl]; omega
  ·have:=h.lt j x hx hlx; rw [has j hj]; omega
 ·intro j x hx hlx;rcases hget' j x hx with ⟨rfl,rfl⟩ | ⟨hj,hx⟩
  ·rw [show W'.as H.length=σ.nx from if_pos rfl];refine ⟨fun q=>by have:=(h.A _ q).1; omega,?_⟩
   show W.K σ.nx=none;cases q:W.K σ.nx with
   | none=>rfl
   | some x=>have:=(h.K _ _ q).1; omega
  ·rw [has j hj]; exact h.nA j x hx hlx
 ·intro b hb;obtain ⟨g1,⟨x,g2⟩,g3⟩:=h.A b hb;exact ⟨by omega,⟨x,by rw [hget,if_neg (by omega)]; exact g2⟩,g3⟩
 ·intro b x hx;obtain ⟨g1,g2⟩:=h.K b x hx;exact ⟨by omega,go.kk b x hx g2⟩
 ·intro b hlt h1 h2;rw [hget,if_neg (by omega)]
 ·rintro b hlt ⟨j,x,hx,hlx,q⟩;rcases hget' j x hx with ⟨rfl,rfl⟩ | ⟨hj,hx⟩
  ·rw [show W'.as H.length=σ.nx from if_pos rfl] at q; omega
  ·rw [has j hj] at q; exact ⟨j,x,hx,hlx,q⟩
 ·intro κ hκ b;cases κ with
  | h j=>
   have hj:j≠H.length:=by have:=uW hκ; simpa using this
   have e':(H++[⟨e,0,c⟩])[j]?=H[j]?:=by
    by_cases q:j<H.length
    ·rw [List.getElem?_append_left q]
    ·rw [List.getElem?_eq_none (by simp; omega),List.getElem?_eq_none (by omega)]
   have e2:W'.as j=W.as j:=if_neg hj;refine ⟨by simp only [vS,e',e2],fun hk=>?_⟩
   obtain ⟨x,hx,hlx,rfl⟩:=hk;have:=h.lt j x hx hlx;rw [hget,if_neg (by omega)]
  | a=>
   refine ⟨Iff.rfl,fun hk=>?_⟩;rw [hget,if_neg];rintro rfl;rcases hk with hk | hk
   ·have:=(h.A _ hk).1; omega
   ·obtain ⟨x,hx⟩:=Option.isSome_iff_exists.1 hk;have:=(h.K _ _ hx).1; omega
  | c=>
   refine ⟨Iff.rfl,fun hk=>?_⟩;rw [hget,if_neg];rintro rfl;obtain ⟨x,hx⟩:=Option.isSome_iff_exists.1 hk;have:=(h.K _ _ hx).1; omega
end
end
end Go.Proofs.YtdlhiljbhepliaaGreatDoor.Ev
