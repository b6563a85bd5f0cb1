/-
A checker of the conditions of runs, computed: linear terms, what is tH, values told by terms. Definitions alone. No program is named here.
-/
import Derived.Test.YtdlhiljbhepliaaGreatDoorWd
namespace Go.Proofs.YtdlhiljbhepliaaGreatDoor.Ev.Rf
noncomputable section
set_option linter.all false
open Go
structure LT where
 c:Int
 l:List (Nat×Int)
structure Rv where
 z:Int
 l:List (Nat×Nat)
 g:Nat
structure Gn where
 v:Nat
 o:Nat
def g0:Gn:=⟨0,0⟩
def Gn.up (g:Gn):Gn:=⟨g.v,Nat.succ g.o⟩
abbrev Rho:=Nat→Rv
def geZ:Int→Bool
 | .ofNat _=>true
 | .negSucc _=>false
def isZ:Int→Bool
 | .ofNat m=>Nat.beq m 0
 | .negSucc _=>false
def jNv (v:Nat) (a:Int):List (Nat×Int)→List (Nat×Int)
 | []=>[(v,a)]
 | p::r=>bif Nat.beq v p.1 then bJ (a+p.2) fun s=>bif isZ s then r else (v,s)::r else bif Nat.blt p.1 v then (v,a)::p::r else p::jNv v a r
def jQs:List (Nat×Int)→List (Nat×Int)→List (Nat×Int)
 | [],m=>m
 | p::r,m=>jNv p.1 p.2 (jQs r m)
def jFn (k:Int):List (Nat×Int)→List (Nat×Int)
 | []=>[]
 | p::r=>bJ (k*p.2) fun a=>(p.1,a)::jFn k r
def LT.con (c:Int):LT:=⟨c,[]⟩
def LT.var (v:Nat):LT:=⟨0,[(v,1)]⟩
def LT.add (s t:LT):LT:=bJ (s.c+t.c) fun c=>⟨c,jQs s.l t.l⟩
def LT.smul (k:Int) (t:LT):LT:=bif isZ k then ⟨0,[]⟩ else bJ (k*t.c) fun c=>⟨c,jFn k t.l⟩
def LT.sub (s t:LT):LT:=s.add (t.smul (-1))
def LT.addc (t:LT) (k:Int):LT:=bJ (t.c+k) fun c=>⟨c,t.l⟩
def LT.neg (t:LT):LT:=t.smul (-1)
def LT.isC (t:LT):Bool:=match t.l with
 | []=>true
 | _::_=>false
def evL (ρ:Rho):List (Nat×Int)→Int
 | []=>0
 | p::r=>p.2*(ρ p.1).z+evL ρ r
def LT.ev (ρ:Rho) (t:LT):Int:=t.c+evL ρ t.l
def scL (n:Nat):List (Nat×Int)→Bool
 | []=>true
 | p::r=>Nat.blt p.1 n&&scL n r
def LT.sc (n:Nat) (t:LT):Bool:=scL n t.l
def jXk:List (Nat×Int)→List (Nat×Int)→Bool
 | [],[]=>true
 | p::r,q::s=>Nat.beq p.1 q.1&&(eqI p.2 q.2&&jXk r s)
 | _,_=>false
def LT.beq (s t:LT):Bool:=eqI s.c t.c&&jXk s.l t.l
def qOx (v:Nat):List (Nat×Int)→Int
 | []=>0
 | p::r=>bif Nat.beq p.1 v then p.2 else bif Nat.blt p.1 v then 0 else qOx v r
def qBi (a b:Int) (t f:LT):Option LT:=match a,b with
 | .ofNat m,.ofNat k=>(match m,k with
  | 0,_=>none
  | _+1,0=>none
  | m+1,k+1=>some ((t.smul (.ofNat (k+1))).add (f.smul (.negSucc m))))
 | .negSucc m,.negSucc k=>some ((t.smul (.ofNat (k+1))).add (f.smul (.negSucc m)))
 | _,_=>none
def Gn.den (ρ:Rho) (g:Gn):Nat:=(match g.v with | 0=>0 | j+1=>(ρ j).g)+g.o
def Gn.sc (n:Nat) (g:Gn):Bool:=Nat.ble g.v n
def Gn.beq (g h:Gn):Bool:=Nat.beq g.v h.v&&Nat.beq g.o h.o
inductive SX where
 | b (x:Bool)
 | bv (t:LT)
 | i (k:IntKind) (t:LT)
 | s (n c:LT)
 | p0
 | sl0
 | tp (i:Nat) (g:Gn) (off:Nat)
 | te (i:Nat) (g:Gn) (k:LT) (off:Nat)
 | ts (i:Nat) (g:Gn) (n:LT) (sz:Nat)
 | q (T:Nat) (r n:LT)
 | qp (T:Nat) (r:LT) (off:Nat)
 | qs (j:Nat)
 | xs (n c:LT)
 | f (fn:Nat) (a c:List SX)
 | agg (l:List SX)
 | tup (l:List SX)
 | fis (n:LT)
 | fqs
inductive HCX where
 | l (l:List SX)
 | r (T:Nat) (r n:LT)
 | xs (j:Nat)
 | rl (T:Nat) (r n:LT) (l:List SX)
 | dead
structure HX where
 e:Nat
 g:Gn
 c:HCX
abbrev EX:=List (Nat×SX)
inductive TE where
 | by_ (c t r:LT)
 | el (j:Nat) (t n c:LT)
 | ln (j:Nat) (n m:LT)
 | ca (f:Nat) (a:List SX) (r:SX)
 | dv (a:LT) (b:Int) (q:LT)
 | ng (g c a b:LT)
structure Sx where
 n:Nat
 E:EX
 H:List HX
 F:List LT
 N:List LT
 B:List TE
mutual
noncomputable def SX.den (ρ:Rho):SX→SV
 | .b x=>.b x
 | .bv t=>.b (decide (0<t.ev ρ))
 | .i k t=>.i k (t.ev ρ)
 | .s n c=>.s (n.ev ρ).toNat (c.ev ρ).toNat
 | .p0=>.p0
 | .sl0=>.sl0
 | .tp i g o=>.tp i (g.den ρ) o
 | .te i g k o=>.te i (g.den ρ) (k.ev ρ).toNat o
 | .ts i g n z=>.ts i (g.den ρ) (n.ev ρ).toNat z
 | .q T r n=>.q T (r.ev ρ).toNat (n.ev ρ).toNat
 | .qp T r o=>.qp T (r.ev ρ).toNat o
 | .qs j=>.qs (ρ j).l
 | .xs n c=>.xs ((n.ev ρ).toNat,(c.ev ρ).toNat)
 | .f fn a c=>.f fn (jR ρ a) (jR ρ c)
 | .agg l=>.agg (jR ρ l)
 | .tup l=>.tup (jR ρ l)
 | .fis n=>.fis (n.ev ρ).toNat
 | .fqs=>.fqs
noncomputable def jR (ρ:Rho):List SX→List SV
 | []=>[]
 | x::l=>x.den ρ::jR ρ l
end
noncomputable def HCX.den (ρ:Rho):HCX→HC
 | .l m=>.l (jR ρ m)
 | .r T R n=>.r T (R.ev ρ).toNat (n.ev ρ).toNat
 | .xs j=>.xs (ρ j).l
 | .rl T R n m=>.rl T (R.ev ρ).toNat (n.ev ρ).toNat (jR ρ m)
 | .dead=>.dead
noncomputable def HX.den (ρ:Rho) (h:HX):HB:=⟨h.e,h.g.den ρ,h.c.den ρ⟩
noncomputable def denH (ρ:Rho) (H:List HX):Hp:=H.map (HX.den ρ)
noncomputable def denE (ρ:Rho):EX→Env
 | []=>[]
 | p::r=>(p.1,p.2.den ρ)::denE ρ r
mutual
def SX.sc (n:Nat):SX→Bool
 | .b _=>true
 | .bv t=>t.sc n
 | .i _ t=>t.sc n
 | .s a c=>a.sc n&&c.sc n
 | .p0=>true
 | .sl0=>true
 | .tp _ g _=>g.sc n
 | .te _ g k _=>g.sc n&&k.sc n
 | .ts _ g a _=>g.sc n&&a.sc n
 | .q _ r a=>r.sc n&&a.sc n
 | .qp _ r _=>r.sc n
 | .qs j=>Nat.blt j n
 | .xs a c=>a.sc n&&c.sc n
 | .f _ a c=>scs n a&&scs n c
 | .agg l=>scs n l
 | .tup l=>scs n l
 | .fis a=>a.sc n
 | .fqs=>true
def scs (n:Nat):List SX→Bool
 | []=>true
 | x::l=>x.sc n&&scs n l
end
def HCX.sc (n:Nat):HCX→Bool
 | .l m=>scs n m
 | .r _ R a=>R.sc n&&a.sc n
 | .xs j=>Nat.blt j n
 | .rl _ R a m=>R.sc n&&(a.sc n&&scs n m)
 | .dead=>true
def scH (n:Nat):List HX→Bool
 | []=>true
 | h::r=>h.g.sc n&&(h.c.sc n&&scH n r)
def scF (n:Nat):List LT→Bool
 | []=>true
 | t::r=>t.sc n&&scF n r
def TE.sc (n:Nat):TE→Bool
 | .by_ c t r=>c.sc n&&(t.sc n&&r.sc n)
 | .el j t a c=>Nat.blt j n&&(t.sc n&&(a.sc n&&c.sc n))
 | .ln j a m=>Nat.blt j n&&(a.sc n&&m.sc n)
 | .ca _ a r=>scs n a&&r.sc n
 | .dv a _ q=>a.sc n&&q.sc n
 | .ng g c a b=>g.sc n&&(c.sc n&&(a.sc n&&b.sc n))
def scB (n:Nat):List TE→Bool
 | []=>true
 | t::r=>t.sc n&&scB n r
def scE (n:Nat):EX→Bool
 | []=>true
 | p::r=>p.2.sc n&&scE n r
mutual
def SX.beq:SX→SX→Bool
 | .b x,.b y=>bif x then y else !y
 | .bv s,.bv t=>s.beq t
 | .i k s,.i k' t=>eqK k k'&&s.beq t
 | .s n c,.s m d=>n.beq m&&c.beq d
 | .p0,.p0=>true
 | .sl0,.sl0=>true
 | .tp i g o,.tp i' g' o'=>Nat.beq i i'&&(g.beq g'&&Nat.beq o o')
 | .te i g k o,.te i' g' k' o'=>Nat.beq i i'&&(g.beq g'&&(k.beq k'&&Nat.beq o o'))
 | .ts i g k o,.ts i' g' k' o'=>Nat.beq i i'&&(g.beq g'&&(k.beq k'&&Nat.beq o o'))
 | .q T r n,.q T' r' n'=>Nat.beq T T'&&(r.beq r'&&n.beq n')
 | .qp T r o,.qp T' r' o'=>Nat.beq T T'&&(r.beq r'&&Nat.beq o o')
 | .qs j,.qs k=>Nat.beq j k
 | .xs n c,.xs m d=>n.beq m&&c.beq d
 | .f g a c,.f g' a' c'=>Nat.beq g g'&&(jGj a a'&&jGj c c')
 | .agg l,.agg m=>jGj l m
 | .tup l,.tup m=>jGj l m
 | .fis a,.fis b=>a.beq b
 | .fqs,.fqs=>true
 | _,_=>false
def jGj:List SX→List SX→Bool
 | [],[]=>true
 | x::l,y::m=>x.beq y&&jGj l m
 | _,_=>false
end
mutual
def ofX:AV→SX
 | .b x=>.b x
 | .i k n=>.i k (.con n)
 | .s n v=>.s (.con (.ofNat n)) (.con (.ofNat v))
 | .p0=>.p0
 | .sl0=>.sl0
 | .agg l=>.agg (oJ l)
 | .tup l=>.tup (oJ l)
 | .f fn a c=>.f fn (oJ a) (oJ c)
 | _=>.tup []
def oJ:List AV→List SX
 | []=>[]
 | x::l=>ofX x::oJ l
end
def jAb:SX:=.tup []
inductive TyX where
 | i (k:IntKind)
 | b
 | s (m:Nat)
 | t (d:Nat)
 | q (T:Nat) (d:Option Nat)
structure dZ where
 k:Nat
 F:List LT
 N:List LT
 B:List TE
 r:SX
 H:List HX
structure CtX where
 np:Nat
 dep:LT
 args:List SX
 H:List HX
 F:List LT
 N:List LT
 B:List TE
 posts:List dZ
structure Alt where
 k:Nat
 E:EX
 H:Option (List (Option HX))
 F:List LT
 N:List LT
 B:List TE
 m:LT
inductive CvX where
 | lit (n m:Nat)
 | frz (n:Nat)
 | slot (n e:Nat) (c:HCX)
 | cell (i off e:Nat) (c:HCX)
structure Ann where
 once:Bool
 ks:List Nat
 sp:List LT
 se:List LT
 cv:List (CvX×Nat)
 alts:List Alt
def nlA (c:AV):Prop:=∀ n v,c = .s n v→nlP n v
def rpK (l:List (Nat×Option Nat)) (f:Nat→AV):Prop:=∀ p,p∈l→(match p.2 with | none=>True | some g=>∃ k,f g = .i k 2)→nlA (f p.1)
def rsK (l:List (Nat×Option Nat)) (row:List SV):Prop:=∀ p,p∈l→(match p.2 with | none=>True | some g=>∃ k,row[g]?=some (.i k 2))→∀ n v,row[p.1]?=some (.s n v)→nlP n v
def rdK (l:List (Nat×Option Nat)) (off:Nat) (n:Option Nat) (v:SV):Prop:=match n with
 | none=>∀ p,p∈l→p.1=off→p.2=none→∀ m w,v = .s m w→nlP m w
 | some _=>off=0→∀ r,v = .agg r→rsK l r
structure PX where
 ct:Nat→List TyX
 cp:Nat→Bool
 ak:Nat→Option AK
 bt:Nat→Option (List AT)
 sg:Nat→List AT×AT
 cs:Nat→List CtX
 rl:Bool
 fz:Bool
 rv:Nat
 rf:Bool
 rk:Nat→List (Nat×Option Nat)
def TyX.at (r:Nat):TyX→Ty
 | .i k=>.i k
 | .b=>.b
 | .s m=>.s m
 | .t d=>.t (r - d)
 | .q T none=>.q T 0
 | .q T (some d)=>.q T (r - d)
def PX.C (P:PX) (G:Nat→List SV→SV→Prop):Cx:=⟨fun T r=>(P.ct T).map (TyX.at r),fun T r=>if P.cp T=true then 1≤r else True,fun T=>bif P.cp T then 1 else 0,P.ak,P.bt,P.sg,G,fun T=>rpK (P.rk T),fun T=>rsK (P.rk T),fun T=>rdK (P.rk T)⟩
end
noncomputable section
set_option linter.all false
open Go
structure qKs where
 ask:List LT→LT→Nat
 asm:Sx→LT→Nat
 te:Sx→TE→Nat
 mg:Sx→Nat
 dn:Sx→Nat
 cst:List LT→LT→LT→Nat
 ng:Sx→LT→LT→LT→LT→Nat
 sl:Sx→LT→LT→LT→Nat
structure Tp where
 m:Option qKs
 l:List Nat
inductive Rs where
 | ok (s:Tp)
 | bad (tag:Nat) (st:Sx) (g:List LT)
abbrev An:=Tp→Rs
def done:An:=fun s=>.ok s
def qOw (tag:Nat) (st:Sx) (g:List LT):An:=fun _=>.bad tag st g
def no1 (tag:Nat) (st:Sx):An:=qOw tag st []
def jJ (c:Bool) (tag:Nat) (st:Sx) (g:List LT) (r:An):An:=match c with
 | true=>r
 | false=>qOw tag st g
def aR (a b:An):An:=fun s=>match a s with
 | .ok s=>b s
 | .bad t st g=>.bad t st g
def pop (st:Sx) (f:qKs→Nat) (k:Nat→An):An:=fun s=>match s.m with
 | some m=>(match f m with | c=>k c ⟨s.m,c::s.l⟩)
 | none=>(match s.l with
  | []=>.bad 200 st []
  | c::r=>k c ⟨none,r⟩)
def qDz (k:Nat→An) (s:Tp) (st:Sx):List An→Nat→Rs
 | [],_=>.bad 201 st []
 | a::r,i=>match a ⟨s.m,i::s.l⟩ with
  | .ok s'=>k i s'
  | .bad _ _ _=>qDz k s st r (Nat.succ i)
def sel (st:Sx) (l:List An) (k:Nat→An):An:=fun s=>match s.m with
 | some _=>qDz k s st l 0
 | none=>(match s.l with
  | []=>.bad 202 st []
  | c::r=>(match zO l c with
   | some a=>aR a (k c) ⟨none,r⟩
   | none=>.bad 203 st []))
def Sx.addF (st:Sx) (t:LT):Sx:=⟨st.n,st.E,st.H,t::st.F,st.N,st.B⟩
def Sx.addN (st:Sx) (t:LT):Sx:=⟨st.n,st.E,st.H,st.F,t::st.N,st.B⟩
def Sx.addB (st:Sx) (t:TE):Sx:=⟨st.n,st.E,st.H,st.F,st.N,t::st.B⟩
def Sx.setE (st:Sx) (E:EX):Sx:=⟨st.n,E,st.H,st.F,st.N,st.B⟩
def Sx.setH (st:Sx) (H:List HX):Sx:=⟨st.n,st.E,H,st.F,st.N,st.B⟩
def Sx.up (st:Sx) (n:Nat):Sx:=⟨n,st.E,st.H,st.F,st.N,st.B⟩
def chk (F:List LT):Nat→Nat→LT→Bool
 | 0,_,_=>false
 | n+1,c,t=>match t.l with
  | []=>geZ t.c
  | p::_=>match zO F (Nat.pred (Nat.mod c 1024)) with
   | some f=>(match qBi p.2 (qOx p.1 f.l) t f with
    | some u=>chk F n (Nat.div c 1024) u
    | none=>false)
   | none=>false
def ask (st:Sx) (t:LT) (r:An):An:=match t.l with
 | []=>jJ (geZ t.c) 1 st [t] r
 | _::_=>pop st (fun m=>m.ask st.F t) fun c=>jJ (chk st.F 40 c t) 1 st [t] r
def LT.not (t:LT):LT:=(t.smul (-1)).addc (-1)
def inN (d:LT):List LT→Bool
 | []=>false
 | x::r=>d.beq x||(d.neg.beq x||inN d r)
def jBc (st:Sx) (t:LT) (k:Sx→An):Nat→Nat→An
 | 0,_=>jJ (t.sc st.n) 2 st [t] (k (st.addF t))
 | n+1,c=>match Nat.mod c 4 with
  | 0=>jJ (t.sc st.n) 2 st [t] (k (st.addF t))
  | 1=>k st
  | 2=>jJ (chk st.F 40 (Nat.div c 4) t.not) 204 st [t] done
  | _=>(match zO st.N (Nat.div c 4) with
   | some d=>jJ (d.beq t||d.neg.beq t) 205 st [t] (pop st (fun m=>m.asm st (t.addc (-1))) (jBc st (t.addc (-1)) k n))
   | none=>no1 206 st)
def xZ (st:Sx) (t:LT) (k:Sx→An):An:=match t.l with
 | []=>bif geZ t.c then k st else done
 | _::_=>pop st (fun m=>m.asm st t) (jBc st t k 1)
def fresh (st:Sx) (k:LT→Sx→An):An:=qH (Nat.succ st.n) fun m=>k (.var st.n) (st.up m)
def xge (st:Sx) (t:LT) (k:Bool→Sx→An):An:=match t.l with
 | []=>k (geZ t.c) st
 | _::_=>aR (xZ st t (k true)) (xZ st t.not (k false))
def qGl (st:Sx) (d:LT) (k:Sx→An):An:=match d.l with
 | []=>bif isZ d.c then done else k st
 | _::_=>sel st [ask st d done,ask st d.neg done,done] fun i=>match i with
  | 0=>xZ st (d.addc (-1)) k
  | 1=>xZ st (d.neg.addc (-1)) k
  | _=>jJ (d.sc st.n) 3 st [d] (k (st.addN d))
def xeq (st:Sx) (d:LT) (k:Bool→Sx→An):An:=match d.l with
 | []=>k (isZ d.c) st
 | _::_=>bif inN d st.N then k false st else aR (xZ st d fun st=>xZ st d.neg (k true)) (qGl st d (k false))
def kE (st:Sx) (a b:LT) (r:An):An:=bif a.beq b then r else ask st (a.sub b) (ask st (b.sub a) r)
def uV (E:EX) (n:Nat):Option SX:=List.rec (motive:=fun _=>Option SX) none (fun p _ ih=>Bool.rec (motive:=fun _=>Option SX) ih (some p.2) (Nat.beq p.1 n)) E
theorem jEa {p:Nat×SX} {l:EX} {n:Nat}:uV (p::l) n=bif Nat.beq p.1 n then some p.2 else uV l n:=by
 show Bool.rec (motive:=fun _=>Option SX) (uV l n) (some p.2) (Nat.beq p.1 n)=_;cases Nat.beq p.1 n<;>rfl
def xv (st:Sx) (x:X) (k:SX→An):An:=match x with
 | .k v=>jJ (okA v) 4 st [] (k (ofX v))
 | .t n=>(match uV st.E n with | some v=>k v | none=>no1 5 st)
def xvs (st:Sx) (l:List X) (k:List SX→An):An:=match l with
 | []=>k []
 | x::r=>xv st x fun v=>xvs st r fun l=>k (v::l)
abbrev K1:=SX→Sx→An
def jKz (k:IntKind) (t:LT):List LT:=match k with
 | .i64=>[t.addc 9223372036854775808,(t.neg).addc 9223372036854775807]
 | .u8=>[t,(t.neg).addc 255]
 | .i32=>[t.addc 2147483648,(t.neg).addc 2147483647]
 | .u64=>[t,(t.neg).addc 18446744073709551615]
 | _=>[.con (-1)]
def jQv (st:Sx):List LT→An→An
 | [],k=>k
 | t::r,k=>ask st t (jQv st r k)
def addFs (st:Sx):List LT→Sx
 | []=>st
 | t::r=>(addFs st r).addF t
def jZs (k:IntKind) (st:Sx) (Q:K1):An:=jJ (okK k) 6 st [] (fresh st fun v st=>Q (.i k v) (addFs st (jKz k v)))
def jTj (k:IntKind) (t:LT) (st:Sx) (Q:K1):An:=jQv st (jKz k t) (Q (.i k t) st)
def jDy (a:LT) (b:Int):List TE→Option LT
 | []=>none
 | t::r=>match t with
  | .dv a' b' q=>bif a'.beq a&&eqI b' b then some q else jDy a b r
  | _=>jDy a b r
def xDv (a b:LT) (st:Sx) (Q:LT→Sx→An):An:=jJ (b.isC&&(decide (0<b.c)&&a.sc st.n)) 202 st [a] (ask st a (match jDy a b.c st.B with
 | some q=>Q q st
 | none=>fresh st fun q st=>Q q ((addFs st [q,a.sub (q.smul b.c),((q.smul b.c).sub a).addc (b.c - 1)]).addB (.dv a b.c q))))
def xRm (a b:LT) (st:Sx) (Q:LT→Sx→An):An:=jJ (a.sc st.n&&b.sc st.n) 203 st [a,b] (ask st a (ask st (b.addc (-1)) (fresh st fun q st=>Q q (addFs st [q,(b.sub q).addc (-1),a.sub q]))))
def xI (o:BinOp) (k:IntKind) (a b:LT) (st:Sx) (Q:K1):An:=match o with
 | .add=>jTj k (a.add b) st Q
 | .sub=>jTj k (a.sub b) st Q
 | .mul=>bif a.isC then jTj k (b.smul a.c) st Q else bif b.isC then jTj k (a.smul b.c) st Q else no1 8 st
 | .quo=>xDv a b st fun q st=>jTj k q st Q
 | .rem=>bif b.isC then xDv a b st fun q st=>Q (.i k (a.sub (q.smul b.c))) st else xRm a b st fun q st=>Q (.i k q) st
 | .and=>jZs k st Q
 | .or=>jZs k st Q
 | .eql=>xeq st (a.sub b) fun r st=>Q (.b r) st
 | .neq=>xeq st (a.sub b) fun r st=>Q (.b (!r)) st
 | .lss=>xge st ((b.sub a).addc (-1)) fun r st=>Q (.b r) st
 | .leq=>xge st (b.sub a) fun r st=>Q (.b r) st
 | .gtr=>xge st ((a.sub b).addc (-1)) fun r st=>Q (.b r) st
 | .geq=>xge st (a.sub b) fun r st=>Q (.b r) st
 | _=>no1 9 st
def xSh (o:BinOp) (k:IntKind) (a b:LT) (st:Sx) (Q:K1):An:=match o with
 | .shl=>ask st b (jZs k st Q)
 | .shr=>ask st b (jQv st (jKz k a) (jZs k st Q))
 | _=>no1 10 st
def qJz:Int:=1000000000000
def qAg:Int:=100000000000000
def jGk:Int:=1000000
def qJw (n v m u:LT) (st:Sx) (Q:Bool→Sx→An):An:=
 bif n.beq m&&v.beq u then Q true st else
 bif (n.isC&&(v.isC&&(m.isC&&u.isC)))&&((geZ n.c&&geZ v.c)&&(geZ m.c&&geZ u.c)) then Q (eqI n.c m.c&&eqI v.c u.c) st else
 ask st n (ask st m (aR (xZ st (n.sub m) fun st=>xZ st (m.sub n) (Q true))
  (bif m.isC&&isZ m.c then xZ st (n.addc (-1)) (Q false) else bif n.isC&&isZ n.c then xZ st (m.addc (-1)) (Q false) else Q false st)))
def xS (o:BinOp) (n v m u:LT) (st:Sx) (Q:K1):An:=match o with
 | .add=>ask st n (ask st m (ask st ((n.add m).neg.addc qJz) (fresh st fun w st=>Q (.s (n.add m) w) st)))
 | .eql=>qJw n v m u st fun r st=>Q (.b r) st
 | .neq=>qJw n v m u st fun r st=>Q (.b (!r)) st
 | _=>no1 11 st
def xBi (o:BinOp) (x y:SX) (st:Sx) (Q:K1):An:=match x,y with
 | .i k a,.i k' b=>bif jBn o then xSh o k a b st Q else jJ (eqK k k') 12 st [] (xI o k a b st Q)
 | .s n v,.s m u=>xS o n v m u st Q
 | _,_=>no1 13 st
def xUn (o:UnOp) (x:SX) (st:Sx) (Q:K1):An:=match o,x with
 | .not,.b b=>Q (.b (!b)) st
 | .not,.bv t=>Q (.bv (t.neg.addc 1)) st
 | .neg,.i k a=>jTj k a.neg st Q
 | _,_=>no1 14 st
def jJe (v:SX) (st:Sx) (k:Bool→Sx→An):An:=match v with
 | .b x=>k x st
 | .bv t=>xge st (t.addc (-1)) k
 | _=>no1 15 st
def vC (c a b:SX) (st:Sx) (Q:K1):An:=jJe c st fun r st=>Q (bif r then a else b) st
def xBe (g:Bool) (x y:SX) (st:Sx) (Q:K1):An:=jJe x st fun a st=>jJe y st fun c st=>Q (.b (bif g then !(a==c) else a==c)) st
def hU (v k:LT):List TE→Option LT
 | []=>none
 | t::r=>match t with
  | .by_ c i b=>bif c.beq v&&i.beq k then some b else hU v k r
  | _=>hU v k r
def jTx (v k:Int):Int:=.ofNat (Nat.mod (Nat.div v.toNat (Nat.pow 256 k.toNat)) 256)
def xIx (x i:SX) (st:Sx) (Q:K1):An:=match x,i with
 | .s n v,.i _ k=>ask st k (ask st ((n.sub k).addc (-1)) (
   bif v.isC&&k.isC then Q (.i .u8 (.con (jTx v.c k.c))) st else
   match hU v k st.B with
   | some b=>Q (.i .u8 b) st
   | none=>jJ (v.sc st.n&&k.sc st.n) 16 st [v,k] (fresh st fun b st=>Q (.i .u8 b) ((addFs st [b,b.neg.addc 255]).addB (.by_ v k b)))))
 | _,_=>no1 17 st
def qFu (x:SX) (st:Sx) (Q:LT→An):An:=match x with
 | .i _ k=>Q k
 | _=>no1 18 st
def pZ (st:Sx) (x:Option X) (d:LT) (Q:LT→An):An:=match x with
 | some x=>xv st x fun v=>qFu v st Q
 | none=>Q d
def xLn (x:SX) (st:Sx) (Q:K1):An:=match x with
 | .s n _=>ask st n (Q (.i .i64 n) st)
 | _=>no1 20 st
def xMx (x y:SX) (st:Sx) (Q:K1):An:=match x,y with
 | .i k a,.i k' b=>jJ (eqK k k') 12 st [] (xge st (b.sub a) fun r st=>Q (.i k (bif r then b else a)) st)
 | _,_=>no1 21 st
def xMn (x y:SX) (st:Sx) (Q:K1):An:=match x,y with
 | .i k a,.i k' b=>jJ (eqK k k') 12 st [] (xge st (b.sub a) fun r st=>Q (.i k (bif r then a else b)) st)
 | _,_=>no1 22 st
def xCi (k:IntKind) (x:SX) (st:Sx) (Q:K1):An:=match x with
 | .i _ n=>sel st [jQv st (jKz k n) done,done] fun i=>match i with
  | 0=>jJ (okK k) 6 st [] (Q (.i k n) st)
  | _=>jZs k st Q
 | _=>no1 23 st
def xEx (n:Nat) (x:SX) (st:Sx) (Q:K1):An:=match x with
 | .tup l=>(match zO l n with | some v=>Q v st | none=>no1 24 st)
 | _=>no1 25 st
mutual
def jAi:SX→Bool
 | .b _=>true
 | .bv _=>true
 | .i _ _=>true
 | .s _ _=>true
 | .tup l=>lS l
 | _=>false
def lS:List SX→Bool
 | []=>true
 | x::l=>jAi x&&lS l
end
def qPt:SX→Bool
 | .agg _=>false
 | .tup _=>false
 | _=>true
def gV:List SX→Bool
 | []=>true
 | v::r=>qPt v&&gV r
def vL:SX→List SX
 | .agg l=>l
 | v=>[v]
def hbX (H:List HX) (i:Nat) (g:Gn):Option HX:=match zO H i with
 | some hb=>bif hb.g.beq g then some hb else none
 | none=>none
def jZi (R:LT) (d:Option Nat):LT:=match d with
 | none=>.con 0
 | some d=>R.addc (0 - .ofNat d)
def SSi:Int:=22200
def TBi:Int:=4000000000
def xTy (R:LT) (t:TyX) (st:Sx) (Q:K1):An:=match t with
 | .i k=>fresh st fun v st=>Q (.i k v) st
 | .b=>fresh st fun v st=>Q (.bv v) (addFs st [v,v.neg.addc 1])
 | .s m=>fresh st fun n st=>fresh st fun c st=>Q (.s n c) (addFs st [n,n.neg.addc (SSi + .ofNat m)])
 | .t d=>ask st (R.addc (0 - .ofNat d)) (fresh st fun n st=>fresh st fun c st=>Q (.s n c) (addFs st [n,(R.addc (0 - .ofNat d)).sub n,n.neg.addc TBi]))
 | .q T d=>fresh st fun n st=>Q (.q T (jZi R d) n) (addFs st [n,n.neg.addc jGk])
def qJx (R:LT):List TyX→Sx→(List SX→Sx→An)→An
 | [],st,Q=>Q [] st
 | t::r,st,Q=>xTy R t st fun v st=>qJx R r st fun l st=>Q (v::l) st
def jIo:List (Nat×Option Nat)→Nat→LT→LT→List TE
 | [],_,_,_=>[]
 | p::l,off,m,c=>match p.2 with
  | none=>bif Nat.beq p.1 off then .ng (.con 2) c (.con 0) m::jIo l off m c else jIo l off m c
  | some _=>jIo l off m c
def rdR (r:List SX):List (Nat×Option Nat)→List TE
 | []=>[]
 | p::l=>match zO r p.1 with
  | some (.s m c)=>(match p.2 with
   | none=>.ng (.con 2) c (.con 0) m::rdR r l
   | some g=>(match zO r g with
    | some (.i _ t)=>.ng t c (.con 0) m::rdR r l
    | _=>rdR r l))
  | _=>rdR r l
def qIs (l:List (Nat×Option Nat)) (off:Nat) (n:Option Nat) (v:SX):List TE:=match n,v with
 | none,.s m c=>jIo l off m c
 | some _,.agg r=>bif Nat.beq off 0 then rdR r l else []
 | _,_=>[]
def jTl (st:Sx):List TE→Sx
 | []=>st
 | t::r=>(jTl st r).addB t
def jWx (R:LT) (l:List TyX) (off:Nat) (n:Option Nat) (st:Sx) (Q:K1):An:=match n with
 | none=>(match zO l off with | some t=>xTy R t st Q | none=>no1 26 st)
 | some n=>(match yG n (yB off l) with | some l=>qJx R l st fun l st=>Q (.agg l) st | none=>no1 27 st)
def xLd (P:PX) (n:Option Nat) (a:SX) (st:Sx) (Q:K1):An:=match a with
 | .tp i g off=>(match hbX st.H i g with
  | some hb=>(match hb.c with
   | .l l=>(match n with
    | none=>(match zO l off with | some v=>Q v st | none=>no1 28 st)
    | some n=>(match yG n (yB off l) with | some l=>Q (.agg l) st | none=>no1 29 st))
   | _=>no1 30 st)
  | none=>no1 31 st)
 | .te i g k off=>(match hbX st.H i g with
  | some hb=>(match hb.c with
   | .r T R _=>jWx R (P.ct T) off n st fun v st=>Q v (jTl st (qIs (P.rk T) off n v))
   | .rl T R m l=>ask st k (jJ ((k.addc 1).beq m) 191 st [k,m] (match n with
    | none=>(match zO l off with | some v=>Q v st | none=>no1 192 st)
    | some n=>(match yG n (yB off l) with | some l=>Q (.agg l) st | none=>no1 193 st)))
   | _=>no1 32 st)
  | none=>no1 33 st)
 | .qp T R off=>jWx R (P.ct T) off n st fun v st=>Q v (jTl st (qIs (P.rk T) off n v))
 | .xs m c=>(match n with | none=>Q (.s m c) st | some _=>no1 34 st)
 | .fqs=>(match n with | none=>fresh st fun v st=>Q (.i .i64 v) st | some _=>no1 36 st)
 | _=>no1 35 st
def jZn:List TyX→Bool
 | [.s _]=>true
 | _=>false
def jWh:List TyX→Nat
 | [.s m]=>m
 | _=>0
def oA (j:Nat):List TE→Option (LT×LT)
 | []=>none
 | t::r=>match t with
  | .ln i n m=>bif Nat.beq i j then some (n,m) else oA j r
  | _=>oA j r
def jNq (st:Sx):List LT→An→An
 | [],k=>k
 | d::r,k=>match d.l with
  | []=>jJ (!isZ d.c) 238 st [d] (jNq st r k)
  | _::_=>bif inN d st.N then jNq st r k else sel st [ask st (d.addc (-1)) done,ask st (d.neg.addc (-1)) done] fun _=>jNq st r k
def nlC (v:Int):Nat→Int→Bool
 | 0,_=>true
 | n+1,k => !isZ (jTx v k - 10)&&nlC v n (k+1)
def eR (st:Sx) (g c b:LT):Nat→LT→An→An
 | 0,_,_=>no1 260 st
 | f+1,a,k=>pop st (fun m=>m.ng st g c a b) fun x=>
  bif Nat.beq x 0 then ask st (a.sub b) k else
  bif Nat.beq x 1 then ask st (g.addc (-3)) k else
  bif Nat.beq x 2 then ask st (g.neg.addc 1) k else
  bif Nat.beq x 3 then jJ (c.isC&&(a.isC&&(b.isC&&nlC c.c (b.c - a.c).toNat a.c))) 261 st [] k else
  match zO st.B (Nat.sub x 4) with
  | some (.ng g' c' a' m)=>jJ (c.beq c'&&(g'.beq g||g'.beq (.con 2))) 262 st [] (ask st (a.sub a') (eR st g c b f m k))
  | some (.by_ c' i x)=>jJ (c.beq c') 263 st [] (kE st a i (jNq st [x.addc (-10)] (eR st g c b f (a.addc 1) k)))
  | _=>no1 264 st
def xSs (x:SX) (lo hi:Option X) (st:Sx) (Q:K1):An:=match x with
 | .s n v=>ask st n (pZ st lo (.con 0) fun a=>pZ st hi n fun b=>ask st a (ask st (b.sub a) (ask st (n.sub b) (pop st (fun m=>m.sl st v a b) fun x=>bif Nat.beq x 0 then fresh st fun w st=>Q (.s (b.sub a) w) st else eR st (.con 2) v b 9 a (fresh st fun w st=>Q (.s (b.sub a) w) (st.addB (.ng (.con 2) w (.con 0) (b.sub a))))))))
 | _=>no1 19 st
def xRk (st:Sx) (r:List SX):List (Nat×Option Nat)→An→An
 | [],k=>k
 | p::l,k=>match zO r p.1 with
  | some (.s n c)=>(match p.2 with
   | none=>eR st (.con 2) c n 9 (.con 0) (xRk st r l k)
   | some g=>(match zO r g with
    | some (.i _ t)=>eR st t c n 9 (.con 0) (xRk st r l k)
    | _=>xRk st r l k))
  | _=>xRk st r l k
def aJ (st:Sx):List SX→An→An
 | [],k=>k
 | x::r,k=>match x with
  | .i _ t=>jNq st [t.addc (-2)] (aJ st r k)
  | .s n c=>eR st (.con 2) c n 9 (.con 0) (aJ st r k)
  | _=>aJ st r k
def qHu (P:PX) (st:Sx) (R:LT) (t:TyX) (v:SX) (k:An):An:=match t,v with
 | .i d,.i d' _=>jJ (eqK d d') 210 st [] k
 | .b,.b _=>k
 | .b,.bv _=>k
 | .s m,.s n _=>ask st (n.neg.addc (SSi + .ofNat m)) k
 | .t d,.s n _=>ask st ((R.addc (0 - .ofNat d)).sub n) (ask st (n.neg.addc TBi) k)
 | .q _ _,.sl0=>k
 | .q T d,.q T' R' _=>jJ (Nat.beq T T') 211 st [] (ask st ((jZi R d).sub R') k)
 | .q T d,.qs j=>jJ (jZn (P.ct T) && !P.cp T) 212 st [] (match oA j st.B with | some (n,m)=>ask st (n.neg.addc jGk) (ask st (m.neg.addc (SSi + .ofNat (jWh (P.ct T)))) k) | none=>no1 213 st)
 | _,_=>no1 214 st
def jNk (P:PX) (st:Sx) (R:LT):List TyX→List SX→An→An
 | [],[],k=>k
 | t::r,v::l,k=>qHu P st R t v (jNk P st R r l k)
 | _,_,_=>no1 215 st
def qBv:TyX→Bool
 | .q _ _=>false
 | .t _=>false
 | .s m=>Nat.beq m 0
 | _=>true
def jBm:List TyX→Bool
 | []=>true
 | t::r=>qBv t&&jBm r
def qDb:List TyX→Bool
 | []=>true
 | .s _::_=>false
 | _::r=>qDb r
def qDf (ct:List TyX) (off:Nat) (l:List TyX):Bool:=qDb l||(match off,l with
 | k+1,[_]=>(match zO ct k with | some .b=>true | _=>false)
 | _,_=>false)
abbrev KH:=Sx→Tch→An
def xSt (P:PX) (n:Nat) (a x:SX) (st:Sx) (Q:KH):An:=jJ (xL n (vL x)&&gV (vL x)) 36 st [] (match a with
 | .tp i g off=>(match hbX st.H i g with
  | some hb=>(match hb.c with
   | .l l=>(match yF off (vL x) l with | some l=>jJ (scs st.n l) 37 st [] (Q (st.setH (jG st.H i ⟨hb.e,hb.g,.l l⟩)) ⟨false,[i]⟩) | none=>no1 38 st)
   | _=>no1 39 st)
  | none=>no1 40 st)
 | .te i g _ off=>(match hbX st.H i g with
  | some hb=>(match hb.c with
   | .r T _ _=>(match yG n (yB off (P.ct T)) with | some l=>jJ (Nat.ble off (jP (P.ct T))) 41 st [] (jNk P st (.con 0) l (vL x) (aJ st (vL x) (Q st ⟨false,[i]⟩))) | none=>no1 42 st)
   | _=>no1 43 st)
  | none=>no1 44 st)
 | .qp T R off=>(match yG n (yB off (P.ct T)) with | some l=>jJ (jBm l&&(qDf (P.ct T) off l&&(!jZn (P.ct T)&&Nat.ble off (jP (P.ct T))))) 45 st [] (jNk P st R l (vL x) (aJ st (vL x) (Q st ⟨true,[]⟩))) | none=>no1 46 st)
 | _=>no1 47 st)
def xNc (x:SX) (st:Sx) (Q:K1):An:=match x with
 | .tp i g off=>(match hbX st.H i g with | some _=>Q (.tp i g off) st | none=>no1 48 st)
 | .te i g k off=>(match hbX st.H i g with
  | some hb=>(match hb.c with | .r _ _ _=>Q (.te i g k off) st | .rl _ _ _ _=>Q (.te i g k off) st | _=>no1 49 st)
  | none=>no1 50 st)
 | .qp T R off=>Q (.qp T R off) st
 | .f f a c=>Q (.f f a c) st
 | _=>no1 51 st
def xFa (off:Nat) (x:SX) (st:Sx) (Q:K1):An:=match x with
 | .tp i g o=>(match hbX st.H i g with | some _=>qH (Nat.add o off) fun o=>Q (.tp i g o) st | none=>no1 52 st)
 | .te i g k o=>(match hbX st.H i g with
  | some hb=>(match hb.c with | .r _ _ _=>qH (Nat.add o off) fun o=>Q (.te i g k o) st | .rl _ _ _ _=>qH (Nat.add o off) fun o=>Q (.te i g k o) st | _=>no1 53 st)
  | none=>no1 54 st)
 | .qp T R o=>qH (Nat.add o off) fun o=>Q (.qp T R o) st
 | .xs n c=>jJ (Nat.beq off 0) 55 st [] (Q (.xs n c) st)
 | _=>no1 56 st
def jDz (j:Nat) (k:LT):List TE→Option (LT×LT)
 | []=>none
 | t::r=>match t with
  | .el i u n c=>bif Nat.beq i j&&u.beq k then some (n,c) else jDz j k r
  | _=>jDz j k r
def xIa (P:PX) (sz:Nat) (x y:SX) (st:Sx) (Q:K1):An:=qFu y st fun k=>match x with
 | .ts i g n sz'=>jJ (Nat.beq sz sz') 57 st [] (ask st k (ask st ((n.sub k).addc (-1)) (match hbX st.H i g with
  | some hb=>(match hb.c with
   | .l _=>(match k.l with
    | []=>qH (Nat.mul k.c.toNat sz) fun o=>Q (.tp i g o) st
    | _::_=>pop st (fun m=>m.cst st.F k n) fun c=>ask st (k.addc (0 - .ofNat c)) (ask st (k.neg.addc (.ofNat c)) (qH (Nat.mul c sz) fun o=>Q (.tp i g o) st)))
   | .r T R _=>jJ (Nat.beq sz (jP (P.ct T))) 59 st [] (Q (.te i g k 0) st)
   | .rl T R _ _=>jJ (Nat.beq sz (jP (P.ct T))) 59 st [] (Q (.te i g k 0) st)
   | _=>no1 60 st)
  | none=>no1 61 st)))
 | .q T R n=>jJ (Nat.beq sz (jP (P.ct T))) 62 st [] (ask st k (ask st ((n.sub k).addc (-1)) (bif P.cp T then xZ st (R.addc (-1)) (Q (.qp T R 0)) else Q (.qp T R 0) st)))
 | .qs j=>jJ (Nat.beq sz 1) 63 st [] (match oA j st.B with
  | some (n,m)=>ask st k (ask st ((n.sub k).addc (-1)) (match jDz j k st.B with
   | some (a,c)=>Q (.xs a c) st
   | none=>jJ (Nat.blt j st.n&&(k.sc st.n&&m.sc st.n)) 64 st [k] (fresh st fun a st=>fresh st fun c st=>Q (.xs a c) ((addFs st [a,m.sub a,c]).addB (.el j k a c)))))
  | none=>no1 65 st)
 | .fis n=>jJ (Nat.beq sz 1) 67 st [] (ask st k (ask st ((n.sub k).addc (-1)) (Q .fqs st)))
 | _=>no1 66 st
def vR (H:List HX) (i:Nat):List HX:=match zO H i with
 | some hb=>jG H i ⟨hb.e,hb.g.up,.dead⟩
 | none=>H
abbrev KO:=SX→Sx→Tch→An
def xSl (P:PX) (sz:Nat) (x:SX) (lo hi:Option X) (st:Sx) (Q:KO):An:=match x with
 | .sl0=>pZ st lo (.con 0) fun a=>pZ st hi (.con 0) fun b=>ask st a (ask st (b.sub a) (ask st b.neg (Q .sl0 st t0)))
 | .q T R n=>jJ (Nat.beq sz (jP (P.ct T))) 67 st [] (ask st n (pZ st lo (.con 0) fun a=>pZ st hi n fun b=>ask st a (ask st (b.sub a) (ask st (n.sub b) (Q (.q T R (b.sub a)) st t0)))))
 | .qs j=>jJ (Nat.beq sz 1) 68 st [] (match oA j st.B with
  | some (n,m)=>ask st n (pZ st lo (.con 0) fun a=>pZ st hi n fun b=>ask st a (ask st (b.sub a) (ask st (n.sub b) (jJ (m.sc st.n&&(a.sc st.n&&b.sc st.n)) 69 st [] (fresh st fun j' st=>Q (.qs (Nat.pred st.n)) (st.addB (.ln (Nat.pred st.n) (b.sub a) m)) t0)))))
  | none=>no1 70 st)
 | .ts i g n sz'=>(match hbX st.H i g with
  | some hb=>(match hb.c with
   | .xs j=>jJ (Nat.beq sz 1) 71 st [] (match oA j st.B with
    | some (n,m)=>ask st n (pZ st lo (.con 0) fun a=>pZ st hi n fun b=>ask st a (ask st (b.sub a) (ask st (n.sub b) (jJ (m.sc st.n&&(a.sc st.n&&b.sc st.n)) 69 st [] (fresh st fun j' st=>Q (.qs (Nat.pred st.n)) ((st.addB (.ln (Nat.pred st.n) (b.sub a) m)).setH (vR st.H i)) ⟨true,[i]⟩)))))
    | none=>no1 72 st)
   | _=>no1 73 st)
  | none=>no1 74 st)
 | _=>no1 75 st
def xLm (x:SX) (st:Sx) (Q:K1):An:=match x with
 | .sl0=>Q (.i .i64 (.con 0)) st
 | .ts i g n _=>(match hbX st.H i g with
  | some hb=>(match hb.c with | .dead=>no1 76 st | _=>ask st n (Q (.i .i64 n) st))
  | none=>no1 77 st)
 | .q _ _ n=>ask st n (Q (.i .i64 n) st)
 | .qs j=>(match oA j st.B with | some (n,_)=>ask st n (Q (.i .i64 n) st) | none=>no1 78 st)
 | .fis n=>ask st n (Q (.i .i64 n) st)
 | _=>no1 79 st
def jHl (st:Sx):List (Nat×Nat×X)→List SX→(List SX→An)→An
 | [],z,Q=>Q z
 | (off,n,x)::r,z,Q=>xv st x fun v=>jJ (xL n (vL v)&&gV (vL v)) 80 st [] (match yF off (vL v) z with | some z=>jHl st r z Q | none=>no1 81 st)
def jTg (st:Sx) (e:Nat) (c:HCX) (Q:Nat→Sx→Tch→An):An:=jJ (c.sc st.n) 82 st [] (qH (jP st.H) fun i=>Q i (st.setH (st.H++[⟨e,g0,c⟩])) ⟨false,[i]⟩)
def rkC:TyX→SX→LT
 | .q _ (some _),.q _ R _=>R
 | .t _,.s n _=>n
 | _,_=>.con 0
def coX (P:PX) (T:Nat):Int:=bif P.cp T then 1 else 0
def jKb (P:PX) (st:Sx) (T:Nat):List TyX→List SX→(LT→An)→An
 | [],[],Q=>Q (.con 0)
 | t::ts,v::l,Q=>ask st (rkC t v) (qHu P st ((rkC t v).addc (coX P T)) t v (jKb P st T ts l fun R=>Q ((rkC t v).add R)))
 | _,_,_=>no1 216 st
def nP (P:PX) (st:Sx) (T:Nat):Nat→List SX→(LT→An)→An
 | 0,l,Q=>(match l with | []=>Q (.con 0) | _::_=>no1 216 st)
 | n+1,l,Q=>(match yG (jP (P.ct T)) l with | some r=>xRk st r (P.rk T) <| jKb P st T (P.ct T) r fun x=>nP P st T n (yB (jP (P.ct T)) l) fun R=>Q ((x.add R).addc (coX P T)) | none=>no1 217 st)
def jWf (P:PX) (T:Nat) (x:SX) (st:Sx) (Q:LT→LT→An):An:=match x with
 | .sl0=>Q (.con 0) (.con 0)
 | .q T' R' m=>jJ (Nat.beq T T') 83 st [R'] (ask st R' (Q R' m))
 | .ts j g m sz=>jJ (Nat.beq sz (jP (P.ct T))) 84 st [] (match hbX st.H j g with
  | some hb=>(match hb.c with
   | .l l=>(match m.l with | []=>nP P st T m.c.toNat l fun R=>Q R m | _::_=>no1 86 st)
   | _=>no1 87 st)
  | none=>no1 88 st)
 | _=>no1 89 st
def pQ (st:Sx) (m:LT):List SX→An→An
 | [],k=>k
 | .s n _::r,k=>ask st n (ask st (m.sub n) (pQ st m r k))
 | _::_,_=>no1 218 st
def jPt (P:PX) (m:LT) (x:SX) (st:Sx) (Q:LT→An):An:=match x with
 | .sl0=>Q (.con 0)
 | .qs j=>(match oA j st.B with | some (n,m')=>ask st (m.sub m') (Q n) | none=>no1 91 st)
 | .ts j g n sz=>jJ (Nat.beq sz 1) 92 st [] (match hbX st.H j g with
  | some hb=>(match hb.c with
   | .l l=>(match n.l with | []=>jJ (xL n.c.toNat l&&geZ n.c) 93 st [] (pQ st m l (Q n)) | _::_=>no1 94 st)
   | _=>no1 95 st)
  | none=>no1 96 st)
 | _=>no1 97 st
def qEb (st:Sx) (x:SX) (Q:List SX→An):An:=match x with
 | .ts j g m sz=>jJ (m.beq (.con 1)) 186 st [m] (match hbX st.H j g with
  | some hb=>(match hb.c with
   | .l l=>jJ (xL sz l) 187 st [] (Q l)
   | _=>no1 188 st)
  | none=>no1 189 st)
 | _=>no1 190 st
def oK (st:Sx) (n:LT) (by_:Nat) (k:An):An:=ask st n (ask st ((n.smul (.ofNat by_)).neg.addc qAg) (ask st (n.neg.addc qAg) k))
def LM:LT:=.con 30000
def xAp (P:PX) (e sz by_:Nat) (s x:SX) (st:Sx) (Q:KO):An:=match s with
 | .sl0=>(match P.ak e with
  | some (.ty T r)=>jJ (Nat.beq sz (jP (P.ct T))) 98 st [] (jWf P T x st fun R m=>oK st m by_ (jTg st e (.r T R m) fun i st t=>Q (.ts i g0 m sz) st t))
  | some .str=>jJ (Nat.beq sz 1) 100 st [] (jPt P LM x st fun m=>oK st m by_ (jJ (m.sc st.n) 101 st [m] (fresh st fun _ st=>jTg (st.addB (.ln (Nat.pred st.n) m LM)) e (.xs (Nat.pred st.n)) fun i st t=>Q (.ts i g0 m sz) st t)))
  | none=>no1 102 st)
 | .ts i g n sz'=>jJ (Nat.beq sz sz') 103 st [] (match hbX st.H i g with
  | some hb=>jJ (Nat.beq hb.e e) 104 st [] (match hb.c with
   | .r T R _=>jJ (Nat.beq sz (jP (P.ct T))) 105 st [] (jWf P T x st fun R2 m=>ask st R (ask st n (ask st m (oK st (n.add m) by_ (jJ ((R.add R2).sc st.n&&(n.add m).sc st.n) 106 st [n,m] (bif P.rl then qEb st x fun l=>jJ (m.beq (.con 1)&&scs st.n l) 185 st [m] (Q (.ts i g.up (n.add m) sz) (st.setH (jG st.H i ⟨e,g.up,.rl T (R.add R2) (n.add m) l⟩)) ⟨false,[i]⟩)
     else Q (.ts i g.up (n.add m) sz) (st.setH (jG st.H i ⟨e,g.up,.r T (R.add R2) (n.add m)⟩)) ⟨false,[i]⟩))))))
   | .xs j=>jJ (Nat.beq sz 1) 107 st [] (match oA j st.B with
    | some (n',m')=>jJ (m'.sc st.n) 108 st [n,n'] (kE st n n' (jPt P m' x st fun m=>ask st n (ask st m (oK st (n.add m) by_ (jJ ((n.add m).sc st.n) 109 st [n,m] (fresh st fun _ st=>Q (.ts i g.up (n.add m) sz) ((st.addB (.ln (Nat.pred st.n) (n.add m) m')).setH (jG st.H i ⟨e,g.up,.xs (Nat.pred st.n)⟩)) ⟨false,[i]⟩))))))
    | none=>no1 110 st)
   | .l l=>jJ (Nat.beq sz 1) 178 st [] (pQ st LM l (kE st n (.con (.ofNat (jP l))) (jPt P LM x st fun m=>ask st n (ask st (m.addc (-1)) (oK st (n.add m) by_ (jJ ((n.add m).sc st.n) 179 st [n,m] (fresh st fun _ st=>Q (.ts i g.up (n.add m) sz) ((st.addB (.ln (Nat.pred st.n) (n.add m) LM)).setH (jG st.H i ⟨e,g.up,.xs (Nat.pred st.n)⟩)) ⟨false,[i]⟩)))))))
   | _=>no1 111 st)
  | none=>no1 112 st)
 | _=>no1 113 st
def qFp (P:PX) (T:Nat) (v:SX) (st:Sx) (Q:SX→List Nat→Sx→An):An:=match v with
 | .sl0=>Q (.q T (.con 0) (.con 0)) [] st
 | .q T' R n=>Q (.q T' R n) [] st
 | .ts i g n sz=>(match hbX st.H i g with
  | some hb=>(match hb.c with
   | .r T' R _=>ask st (n.neg.addc jGk) (Q (.q T' R n) [i] st)
   | .l l=>jJ (Nat.beq sz (jP (P.ct T))&&n.isC) 114 st [] (nP P st T n.c.toNat l fun R=>ask st (n.neg.addc jGk) (jJ (R.sc st.n) 115 st [R] (Q (.q T R n) [i] st)))
   | _=>no1 116 st)
  | none=>no1 117 st)
 | _=>no1 118 st
def qFr (v:SX) (st:Sx) (Q:SX→List Nat→Sx→An):An:=match v with
 | .sl0=>fresh st fun _ st=>Q (.qs (Nat.pred st.n)) [] (st.addB (.ln (Nat.pred st.n) (.con 0) (.con 0)))
 | .qs j=>Q (.qs j) [] st
 | .ts i g n sz=>(match hbX st.H i g with
  | some hb=>(match hb.c with
   | .xs j=>Q (.qs j) [i] st
   | _=>no1 119 st)
  | none=>no1 120 st)
 | _=>no1 121 st
mutual
def jLr (P:PX):AT→SX→Sx→(SX→List Nat→Sx→An)→An
 | .any,v,st,Q=>Q v [] st
 | .q T,v,st,Q=>qFp P T v st Q
 | .qs,v,st,Q=>qFr v st Q
 | .x _,_,st,_=>no1 265 st
 | .agg ts,.agg l,st,Q=>pX P ts l st fun l f st=>Q (.agg l) f st
 | .agg ts,.tup l,st,Q=>pX P ts l st fun l f st=>Q (.tup l) f st
 | .agg _,_,st,_=>no1 122 st
def pX (P:PX):List AT→List SX→Sx→(List SX→List Nat→Sx→An)→An
 | [],[],st,Q=>Q [] [] st
 | t::ts,v::l,st,Q=>jLr P t v st fun v f st=>pX P ts l st fun l f' st=>Q (v::l) (f++f') st
 | _,_,st,_=>no1 123 st
end
def kI (H:List HX):List Nat→List HX
 | []=>H
 | i::r=>kI (vR H i) r
mutual
def pA:SX→Nat
 | .tp i _ _=>Nat.succ i
 | .te i _ _ _=>Nat.succ i
 | .ts i _ _ _=>Nat.succ i
 | .f _ a c=>mx (nJ a) (nJ c)
 | .agg l=>nJ l
 | .tup l=>nJ l
 | _=>0
def nJ:List SX→Nat
 | []=>0
 | x::l=>mx (pA x) (nJ l)
end
def jAa:Nat→List HX→List HX
 | 0,_=>[]
 | _+1,[]=>[]
 | n+1,a::l=>a::jAa n l
def jVf (H:List HX):List Nat→Bool
 | []=>true
 | i::r=>(match zO H i with | some hb=>(match hb.c with | .l _=>false | .rl _ _ _ _=>false | _=>true) | none=>true)&&jVf H r
def mQ:List HX→Nat
 | []=>0
 | hb::r=>mx (match hb.c with | .l l=>nJ l | .rl _ _ _ l=>nJ l | _=>0) (mQ r)
def cnX:List AT→List SX→List SX
 | t::ts,v::l=>(match t,v with | .q T,.sl0=>.q T (.con 0) (.con 0) | _,v=>v)::cnX ts l
 | _,l=>l
def qEw (P:PX) (hb:HX):HX:=match hb.c with
 | .rl T r n _=>⟨hb.e,hb.g,.r T r n⟩
 | .l l=>(match P.bt hb.e with | some ts=>⟨hb.e,hb.g,.l (cnX ts l)⟩ | none=>hb)
 | _=>hb
def jQh (P:PX):List HX→List HX
 | []=>[]
 | hb::r=>qEw P hb::jQh P r
def jHq (H:List HX) (k:Nat):Nat:=mx k (mQ (jAa k H))
structure Sb where
 t:Nat→LT
 l:Nat→Nat
 g:Nat→Gn
def jNx (s:Sb):List (Nat×Int)→LT
 | []=>⟨0,[]⟩
 | p::r=>((s.t p.1).smul p.2).add (jNx s r)
def LT.inst (s:Sb) (t:LT):LT:=(jNx s t.l).addc t.c
def Gn.inst (s:Sb) (g:Gn):Gn:=match g.v with
 | 0=>g
 | j+1=>⟨(s.g j).v,Nat.add (s.g j).o g.o⟩
mutual
def SX.inst (s:Sb):SX→SX
 | .b x=>.b x
 | .bv t=>.bv (t.inst s)
 | .i k t=>.i k (t.inst s)
 | .s n c=>.s (n.inst s) (c.inst s)
 | .p0=>.p0
 | .sl0=>.sl0
 | .tp i g o=>.tp i (g.inst s) o
 | .te i g k o=>.te i (g.inst s) (k.inst s) o
 | .ts i g n z=>.ts i (g.inst s) (n.inst s) z
 | .q T r n=>.q T (r.inst s) (n.inst s)
 | .qp T r o=>.qp T (r.inst s) o
 | .qs j=>.qs (s.l j)
 | .xs n c=>.xs (n.inst s) (c.inst s)
 | .f fn a c=>.f fn (nS s a) (nS s c)
 | .agg l=>.agg (nS s l)
 | .tup l=>.tup (nS s l)
 | .fis n=>.fis (n.inst s)
 | .fqs=>.fqs
def nS (s:Sb):List SX→List SX
 | []=>[]
 | x::l=>x.inst s::nS s l
end
def HCX.inst (s:Sb):HCX→HCX
 | .l m=>.l (nS s m)
 | .r T R n=>.r T (R.inst s) (n.inst s)
 | .xs j=>.xs (s.l j)
 | .rl T R n m=>.rl T (R.inst s) (n.inst s) (nS s m)
 | .dead=>.dead
def gF (s:Sb):List HX→List HX
 | []=>[]
 | h::r=>⟨h.e,h.g.inst s,h.c.inst s⟩::gF s r
def wV (s:Sb):List LT→List LT
 | []=>[]
 | t::r=>t.inst s::wV s r
def TE.inst (s:Sb):TE→TE
 | .by_ c t r=>.by_ (c.inst s) (t.inst s) (r.inst s)
 | .el j t n c=>.el (s.l j) (t.inst s) (n.inst s) (c.inst s)
 | .ln j n m=>.ln (s.l j) (n.inst s) (m.inst s)
 | .ca f a r=>.ca f (nS s a) (r.inst s)
 | .dv a b q=>.dv (a.inst s) b (q.inst s)
 | .ng g c a b=>.ng (g.inst s) (c.inst s) (a.inst s) (b.inst s)
def nI (s:Sb):List TE→List TE
 | []=>[]
 | t::r=>t.inst s::nI s r
def jAj (s:Sb):EX→EX
 | []=>[]
 | p::r=>(p.1,p.2.inst s)::jAj s r
structure Bv where
 t:LT
 l:Nat
 g:Gn
abbrev Bd:=List (Nat×Bv)
def lkB:Bd→Nat→Option Bv
 | [],_=>none
 | p::r,v=>bif Nat.beq p.1 v then some p.2 else lkB r v
def bLT (lo hi:Nat) (p t:LT) (σ:Bd):Bd:=match p.l with
 | [q]=>bif Nat.ble lo q.1&&(Nat.blt q.1 hi&&eqI q.2 1) then (match lkB σ q.1 with | some _=>σ | none=>(q.1,⟨t.addc (0 - p.c),0,g0⟩)::σ) else σ
 | _=>σ
def bL (lo hi:Nat) (j j':Nat) (σ:Bd):Bd:=bif Nat.ble lo j&&Nat.blt j hi then (match lkB σ j with | some _=>σ | none=>(j,⟨.con 0,j',g0⟩)::σ) else σ
def bG (lo hi:Nat) (p g:Gn) (σ:Bd):Bd:=match p.v with
 | 0=>σ
 | j+1=>bif Nat.ble lo j&&Nat.blt j hi then (match lkB σ j with | some _=>σ | none=>(j,⟨.con 0,0,⟨g.v,Nat.sub g.o p.o⟩⟩)::σ) else σ
mutual
def bX (lo hi:Nat):SX→SX→Bd→Bd
 | .bv p,.b x,σ=>bLT lo hi p (.con (bif x then 1 else 0)) σ
 | .bv p,.bv t,σ=>bLT lo hi p t σ
 | .i _ p,.i _ t,σ=>bLT lo hi p t σ
 | .s n c,.s m d,σ=>bLT lo hi c d (bLT lo hi n m σ)
 | .tp _ g _,.tp _ g' _,σ=>bG lo hi g g' σ
 | .te _ g k _,.te _ g' k' _,σ=>bG lo hi g g' (bLT lo hi k k' σ)
 | .ts _ g k _,.ts _ g' k' _,σ=>bG lo hi g g' (bLT lo hi k k' σ)
 | .q _ r n,.q _ r' n',σ=>bLT lo hi n n' (bLT lo hi r r' σ)
 | .qp _ r _,.qp _ r' _,σ=>bLT lo hi r r' σ
 | .qs j,.qs j',σ=>bL lo hi j j' σ
 | .xs n c,.xs m d,σ=>bLT lo hi c d (bLT lo hi n m σ)
 | .f _ a c,.f _ a' c',σ=>bXs lo hi c c' (bXs lo hi a a' σ)
 | .agg l,.agg m,σ=>bXs lo hi l m σ
 | .tup l,.tup m,σ=>bXs lo hi l m σ
 | .fis n,.fis m,σ=>bLT lo hi n m σ
 | _,_,σ=>σ
def bXs (lo hi:Nat):List SX→List SX→Bd→Bd
 | [],_,σ=>σ
 | _::_,[],σ=>σ
 | x::l,y::m,σ=>bXs lo hi l m (bX lo hi x y σ)
end
def bC (lo hi:Nat) (x y:HCX) (σ:Bd):Bd:=match x,y with
 | .l l,.l m=>bXs lo hi l m σ
 | .r _ r n,.r _ r' n'=>bLT lo hi n n' (bLT lo hi r r' σ)
 | .xs j,.xs j'=>bL lo hi j j' σ
 | _,_=>σ
def bH (lo hi:Nat):List HX→List HX→Bd→Bd
 | [],_,σ=>σ
 | _::_,[],σ=>σ
 | x::l,y::m,σ=>bH lo hi l m (bG lo hi x.g y.g (bC lo hi x.c y.c σ))
def bTE (lo hi:Nat) (p t:TE) (σ:Bd):Bd:=match p,t with
 | .by_ _ _ b,.by_ _ _ b'=>bLT lo hi b b' σ
 | .el _ _ n c,.el _ _ n' c'=>bLT lo hi c c' (bLT lo hi n n' σ)
 | .ln _ n m,.ln _ n' m'=>bLT lo hi m m' (bLT lo hi n n' σ)
 | .ca _ _ v,.ca _ _ v'=>bX lo hi v v' σ
 | _,_=>σ
def jMj (lo hi:Nat) (s:Bd→Sb) (st:Sx):List TE→Bd→(Bd→An)→An
 | [],σ,k=>k σ
 | p::r,σ,k=>pop st (fun m=>m.te st (p.inst (s σ))) fun c=>match c with
  | 0=>jMj lo hi s st r σ k
  | c+1=>(match zO st.B c with
   | some t=>jMj lo hi s st r (bTE lo hi p t σ) k
   | none=>jMj lo hi s st r σ k)
mutual
def eqv (st:Sx):SX→SX→An→An
 | .b x,.b y,k=>jJ (bif x then y else !y) 220 st [] k
 | .bv s,.bv t,k=>kE st s t k
 | .bv s,.b y,k=>(match s.l with | []=>jJ (bif y then geZ (s.c - 1) else geZ (0 - s.c)) 221 st [] k | _::_=>no1 222 st)
 | .i d s,.i d' t,k=>jJ (eqK d d') 223 st [] (kE st s t k)
 | .s n c,.s m d,k=>kE st n m (kE st c d k)
 | .p0,.p0,k=>k
 | .sl0,.sl0,k=>k
 | .tp i g o,.tp i' g' o',k=>jJ (Nat.beq i i'&&(g.beq g'&&Nat.beq o o')) 224 st [] k
 | .te i g j o,.te i' g' j' o',k=>jJ (Nat.beq i i'&&(g.beq g'&&Nat.beq o o')) 225 st [] (kE st j j' k)
 | .ts i g j o,.ts i' g' j' o',k=>jJ (Nat.beq i i'&&(g.beq g'&&Nat.beq o o')) 226 st [] (kE st j j' k)
 | .q T r n,.q T' r' n',k=>jJ (Nat.beq T T') 227 st [] (kE st r r' (kE st n n' k))
 | .qp T r o,.qp T' r' o',k=>jJ (Nat.beq T T'&&Nat.beq o o') 228 st [] (kE st r r' k)
 | .qs j,.qs j',k=>jJ (Nat.beq j j') 229 st [] k
 | .xs n c,.xs m d,k=>kE st n m (kE st c d k)
 | .f g a c,.f g' a' c',k=>jJ (Nat.beq g g') 230 st [] (jGm st a a' (jGm st c c' k))
 | .agg l,.agg m,k=>jGm st l m k
 | .tup l,.tup m,k=>jGm st l m k
 | .fis n,.fis m,k=>kE st n m k
 | .fqs,.fqs,k=>k
 | _,_,_=>no1 231 st
def jGm (st:Sx):List SX→List SX→An→An
 | [],[],k=>k
 | x::l,y::m,k=>eqv st x y (jGm st l m k)
 | _,_,_=>no1 232 st
end
def eqC (st:Sx):HCX→HCX→An→An
 | .l l,.l m,k=>jGm st l m k
 | .r T r n,.r T' r' n',k=>jJ (Nat.beq T T') 233 st [] (kE st r r' (kE st n n' k))
 | .xs j,.xs j',k=>jJ (Nat.beq j j') 234 st [] k
 | .dead,.dead,k=>k
 | _,_,_=>no1 235 st
def eqH (st:Sx):List HX→List HX→An→An
 | [],[],k=>k
 | x::l,y::m,k=>jJ (Nat.beq x.e y.e&&x.g.beq y.g) 236 st [] (eqC st x.c y.c (eqH st l m k))
 | _,_,_=>no1 237 st
def jUr (st:Sx) (p t:TE):An:=match p,t with
 | .by_ c i b,.by_ c' i' b'=>jJ (c.beq c') 239 st [] (kE st i i' (kE st b b' done))
 | .el j i n c,.el j' i' n' c'=>jJ (Nat.beq j j') 240 st [] (kE st i i' (kE st n n' (kE st c c' done)))
 | .ln j n m,.ln j' n' m'=>jJ (Nat.beq j j') 241 st [] (kE st n n' (ask st (m.sub m') done))
 | .ca f a v,.ca f' a' v'=>jJ (Nat.beq f f') 242 st [] (jGm st a a' (eqv st v v' done))
 | _,_=>no1 243 st
def lV (st:Sx) (p:TE):List TE→List An
 | []=>[]
 | t::r=>jUr st p t::lV st p r
def hasB (st:Sx):List TE→An→An
 | [],k=>k
 | p::r,k=>match p with
  | .ng g c a b=>eR st g c b 9 a (hasB st r k)
  | p=>sel st (lV st p st.B) fun _=>hasB st r k
def tH (st:Sx) (F N:List LT) (B:List TE) (k:An):An:=jQv st F (jNq st N (hasB st B k))
def jTr:List LT→Sx→(Sx→An)→An
 | [],st,k=>k st
 | t::r,st,k=>xZ st t fun st=>jTr r st k
def jTt:List LT→Sx→(Sx→An)→An
 | [],st,k=>k st
 | t::r,st,k=>qGl st t fun st=>jTt r st k
def jZz (st:Sx):List TE→Sx
 | []=>st
 | t::r=>(jZz st r).addB t
def oC (f:Nat) (l:List SX):List TE→Option SX
 | []=>none
 | t::r=>match t with
  | .ca g a v=>bif Nat.beq g f&&jGj a l then some v else oC f l r
  | _=>oC f l r
def jLs (v w:SX) (st:Sx) (k:Sx→An):An:=match v,w with
 | .i _ a,.i _ b=>xZ st (a.sub b) fun st=>xZ st (b.sub a) k
 | .b x,.b y=>bif (bif x then y else !y) then k st else done
 | .bv a,.bv b=>k st
 | .bv a,.b y=>bif y then xZ st (a.addc (-1)) k else xZ st a.neg k
 | .b y,.bv a=>bif y then xZ st (a.addc (-1)) k else xZ st a.neg k
 | _,_=>k st
def jLt:List SX→List SX→Sx→(Sx→An)→An
 | [],_,st,k=>k st
 | _::_,[],st,k=>k st
 | x::l,y::m,st,k=>jLs x y st fun st=>jLt l m st k
def qFx (v w:SX) (st:Sx) (k:Sx→An):An:=match v,w with
 | .tup l,.tup m=>jLt l m st k
 | v,w=>jLs v w st k
def qGk (t:TE) (st:Sx) (k:Sx→An):An:=match t with
 | .by_ c i r=>(match hU c i st.B with
  | some r'=>xZ st (r.sub r') fun st=>xZ st (r'.sub r) k
  | none=>k (st.addB t))
 | .ca f a v=>(match oC f a st.B with
  | some v'=>qFx v' v st k
  | none=>k (st.addB t))
 | t=>k (st.addB t)
def jTq:List TE→Sx→(Sx→An)→An
 | [],st,k=>k st
 | t::r,st,k=>jJ (t.sc st.n) 124 st [] (qGk t st fun st=>jTq r st k)
def jQw (F N:List LT) (B:List TE) (st:Sx) (k:Sx→An):An:=jTq B st fun st=>jTr F st fun st=>jTt N st k
def qMo (np n0:Nat) (s:Sb):Sb:=⟨fun v=>bif Nat.blt v np then s.t v else .var (Nat.add n0 (Nat.sub v np)),fun v=>bif Nat.blt v np then s.l v else Nat.add n0 (Nat.sub v np),fun v=>bif Nat.blt v np then s.g v else ⟨Nat.succ (Nat.add n0 (Nat.sub v np)),0⟩⟩
def resolve (np:Nat) (s:Sb) (B:List TE):List TE→List (Nat×LT)
 | []=>[]
 | t::r=>match t with
  | .by_ c i b=>(match b.l with
   | [q]=>bif Nat.ble np q.1&&(eqI q.2 1&&isZ b.c) then (match hU (c.inst s) (i.inst s) B with | some x=>(q.1,x)::resolve np s B r | none=>resolve np s B r) else resolve np s B r
   | _=>resolve np s B r)
  | _=>resolve np s B r
def lkT:List (Nat×LT)→Nat→LT→LT
 | [],_,d=>d
 | p::r,v,d=>bif Nat.beq p.1 v then p.2 else lkT r v d
def qQl (rs:List (Nat×LT)) (s:Sb):Sb:=⟨fun v=>lkT rs v (s.t v),s.l,s.g⟩
def jWv (np:Nat) (s:Sb) (st:Sx) (p:dZ) (k:SX→List HX→Sx→An):An:=
 qH (Nat.add st.n p.k) fun m=>match qQl (resolve np (qMo np st.n s) st.B p.B) (qMo np st.n s) with
 | s'=>jQw (wV s' p.F) (wV s' p.N) (nI s' p.B) (st.up m) fun st=>k (p.r.inst s') (gF s' p.H) st
def jTh (np:Nat) (s:Sb) (st:Sx):List dZ→(SX→List HX→Sx→An)→An
 | [],_=>done
 | p::r,k=>aR (jWv np s st p k) (jTh np s st r k)
def bvT (b:Option Bv):LT:=match b with | some b=>b.t | none=>.con 0
def bvL (b:Option Bv):Nat:=match b with | some b=>b.l | none=>0
def bvG (b:Option Bv):Gn:=match b with | some b=>b.g | none=>g0
def qQk (σ:Bd):Sb:=⟨fun v=>bvT (lkB σ v),fun v=>bvL (lkB σ v),fun v=>bvG (lkB σ v)⟩
def jJb (s:Sb) (n:Nat):Nat→Bool
 | 0=>true
 | v+1=>(s.t v).sc n&&(Nat.blt (s.l v) n&&((s.g v).sc n&&jJb s n v))
def qOz (ct:CtX) (l:List SX) (H:List HX) (st:Sx) (k:Sb→An):An:=jMj 0 ct.np qQk st ct.B (bH 0 ct.np ct.H H (bXs 0 ct.np ct.args l [])) fun σ=>k (qQk σ)
def qFe (cur:LT) (f:Nat) (l:List SX) (H:List HX) (st:Sx) (k:CtX→Sb→An) (ct:CtX):An:=
 qOz ct l H st fun s=>jJ (jJb s st.n ct.np) 253 st [] (jGm st (nS s ct.args) l (eqH st (gF s ct.H) H (ask st ((cur.addc (-1)).sub (ct.dep.inst s)) (tH st (wV s ct.F) (wV s ct.N) (nI s ct.B) (k ct s)))))
def qAz (cur:LT) (f:Nat) (l:List SX) (H:List HX) (st:Sx):List CtX→List An
 | []=>[]
 | ct::r=>qFe cur f l H st (fun _ _=>done) ct::qAz cur f l H st r
def qJu (cur:LT) (f:Nat) (l:List SX) (H:List HX) (st:Sx) (k:CtX→Sb→An) (cts:List CtX):An:=match cts with
 | [ct]=>qFe cur f l H st k ct
 | cts=>sel ((st.setE [(0,.i .i64 (.con (.ofNat f))),(1,.tup l)]).setH H) (qAz cur f l H st cts) fun i=>match zO cts i with
  | some ct=>qFe cur f l H st k ct
  | none=>no1 247 st
def xCt (P:PX) (cur:LT) (f:Nat) (l:List SX) (H:List HX) (st:Sx) (k:SX→List HX→Sx→An):An:=qJu cur f l H st (fun ct s=>jTh ct.np s st ct.posts k) (P.cs f)
def jQk (P:PX) (cur:LT) (f:Nat) (l:List SX) (fr:List Nat) (st:Sx) (Q:KO):Nat→An
 | 0=>xCt P cur f l [] st fun v _ st=>bif jAi v&&jVf st.H fr then Q v st ⟨true,fr⟩ else Q v (st.setH (kI st.H fr)) ⟨true,1000000000::fr⟩
 | k+1=>jJ (Nat.ble (nJ l) (k+1)&&(Nat.ble (mQ (jAa (k+1) (kI st.H fr))) (k+1)&&Nat.ble (k+1) (jP st.H))) 129 st [] (xCt P cur f l (jAa (k+1) (kI st.H fr)) st fun v H' st=>jJ (scH st.n H') 130 st [] (Q v (st.setH (H'++yB (k+1) (kI st.H fr))) ⟨true,jTd (k+1)++fr⟩))
def mxS (a:Int):List SX→LT
 | []=>.con a
 | .s n _::r=>bif n.isC then mxS (bif geZ (n.c - a) then n.c else a) r else LM
 | _::_=>LM
def jJt (j k:Nat):List SX→List TE
 | .s n c::r=>.el j (.con (.ofNat k)) n c::jJt j (Nat.succ k) r
 | _=>[]
def qCq (st:Sx) (l:List SX) (n:LT) (Q:Nat→Sx→An):An:=jJ (scs st.n l&&(mxS 0 l).sc st.n) 262 st [] (pQ st (mxS 0 l) l (kE st n (.con (.ofNat (jP l))) (fresh st fun _ st=>Q (Nat.pred st.n) (jZz st (jJt (Nat.pred st.n) 0 l++[.ln (Nat.pred st.n) (.con (.ofNat (jP l))) (mxS 0 l)])))))
def qLq (v:SX) (st:Sx) (Q:SX→Sx→An):An:=match v with
 | .ts i g n sz=>(match zO st.H i with
  | some hb=>(match hb.c with
   | .l l=>jJ (hb.g.beq g&&Nat.beq sz 1) 264 st [] (qCq st l n fun j st=>Q (.ts i g.up n 1) (st.setH (jG st.H i ⟨hb.e,g.up,.xs j⟩)))
   | _=>Q v st)
  | none=>Q v st)
 | _=>Q v st
def jQo:List AT→List SX→Sx→(List SX→Sx→An)→An
 | t::ts,v::l,st,Q=>bif eU t then qLq v st fun v st=>jQo ts l st fun l st=>Q (v::l) st else jQo ts l st fun l st=>Q (v::l) st
 | _,l,st,Q=>Q l st
def xCf (P:PX) (cur:LT) (f:Nat) (l:List SX) (st:Sx) (Q:KO):An:=match st.setH (jQh P st.H) with
 | st =>   jQo (P.sg f).1 l st fun l st=>pX P (P.sg f).1 l st fun l fr st=>jQk P cur f l fr st Q (jHq st.H (jHq st.H (nJ l)))
def rV:List dZ→Bool
 | []=>true
 | p::r=>jAi p.r&&rV r
def xCp (P:PX) (cur:LT) (f:Nat) (l:List SX) (st:Sx) (Q:KO):An:=jJ (lS l&&scs st.n l) 131 st [] (bif P.rf then xCt P cur f l [] st fun v _ st=>jJ (jAi v&&v.sc st.n) 132 st [] (qGk (.ca f l v) st fun st=>Q v st t0) else match oC f l st.B with
 | some v=>qJu cur f l [] st (fun ct _=>jJ (rV ct.posts) 132 st [] (Q v st t0)) (P.cs f)
 | none=>xCt P cur f l [] st fun v _ st=>jJ (jAi v&&v.sc st.n) 132 st [] (Q v (st.addB (.ca f l v)) t0))
mutual
def jOi:SX→Bool
 | .b _=>true
 | .bv _=>true
 | .i _ _=>true
 | .s _ _=>true
 | .p0=>true
 | .sl0=>true
 | .agg l=>jEe l
 | .tup l=>jEe l
 | _=>false
def jEe:List SX→Bool
 | []=>true
 | x::l=>jOi x&&jEe l
end
def xCq (P:PX) (cur:LT) (f:Nat) (l:List SX) (st:Sx) (Q:KO):An:=
 jJ (lS l) 133 st [] (xCt P cur f l [] st fun v _ st=>jJ (jOi v) 134 st [] (Q v st t0))
def jJp (st:Sx):List SX→An→An
 | [],k=>k
 | .i .u8 t::l,k=>ask st t (ask st (t.neg.addc 255) (jJp st l k))
 | _::_,_=>no1 248 st
def xBt (x:SX) (st:Sx) (Q:K1):An:=match x with
 | .ts i g n sz=>jJ (Nat.beq sz 1) 135 st [] (match hbX st.H i g with
  | some hb=>(match hb.c with
   | .l l=>jJp st l (fresh st fun w st=>Q (.s n w) st)
   | _=>no1 137 st)
  | none=>no1 138 st)
 | _=>no1 139 st
def xCv (P:PX) (cur:LT) (x:SX) (l:List SX) (st:Sx) (Q:KO):An:=match x with
 | .f fn a c=>xCf P cur fn (a++l++c) st Q
 | _=>no1 140 st
def jYf (Q:KO):KO:=fun v st t=>match v with
 | .ts i g n sz=>(match hbX st.H i g with
  | some hb=>(match hb.c with
   | .r T R _=>ask st (n.neg.addc jGk) (jJ (R.sc st.n&&n.sc st.n) 194 st [] (Q (.q T R n) (st.setH (vR st.H i)) ⟨true,i::t.l⟩))
   | .xs j=>jJ (Nat.blt j st.n) 195 st [] (Q (.qs j) (st.setH (vR st.H i)) ⟨true,i::t.l⟩)
   | .l l=>jJ (Nat.beq sz 1) 263 st [] (qCq st l n fun j st=>Q (.qs j) (st.setH (vR (jG st.H i ⟨hb.e,g.up,.xs j⟩) i)) ⟨true,i::t.l⟩)
   | _=>no1 196 st)
  | none=>no1 197 st)
 | _=>no1 198 st
def rvX (P:PX) (i:Nat) (st:Sx) (Q:KO):An:=match zO st.H i with
 | some hb=>(match hb.c,P.ak hb.e with
  | .dead,some (.ty T r)=>Q (.ts i hb.g.up (.con 0) (jP (P.ct T))) (st.setH (jG st.H i ⟨hb.e,hb.g.up,.r T (.con (.ofNat r)) (.con 0)⟩)) ⟨false,[i]⟩
  | .dead,some .str=>fresh st fun _ st=>Q (.ts i hb.g.up (.con 0) 1) ((st.addB (.ln (Nat.pred st.n) (.con 0) (.con 1000000000))).setH (jG st.H i ⟨hb.e,hb.g.up,.xs (Nat.pred st.n)⟩)) ⟨false,[i]⟩
  | _,_=>no1 260 st)
 | none=>no1 261 st
def qLo (H:List HX) (i:Nat):Bool:=match zO H i with
 | some hb=>(match hb.c with | .dead=>true | _=>false)
 | none=>false
def xMv (P:PX) (v:SX) (st:Sx) (Q:KO):An:=match P.fz,v,P.rv with
 | true,_,_=>jYf Q v st t0
 | false,.sl0,i+1=>bif qLo st.H i then rvX P i st Q else Q v st t0
 | _,_,_=>Q v st t0
def xO (P:PX) (cur:LT) (c:Ev.C) (st:Sx) (Q:KO):An:=match c with
 | .mv x=>xv st x fun v=>xMv P v st Q
 | .id1 x=>xv st x fun v=>Q v st t0
 | .pick c a b=>xv st c fun c=>xv st a fun a=>xv st b fun b=>vC c a b st fun v st=>Q v st t0
 | .bi o x y=>xv st x fun x=>xv st y fun y=>xBi o x y st fun v st=>Q v st t0
 | .un o x=>xv st x fun x=>xUn o x st fun v st=>Q v st t0
 | .ci k x=>xv st x fun x=>xCi k x st fun v st=>Q v st t0
 | .ix x i=>xv st x fun x=>xv st i fun i=>xIx x i st fun v st=>Q v st t0
 | .ss x lo hi=>xv st x fun x=>xSs x lo hi st fun v st=>Q v st t0
 | .ln x=>xv st x fun x=>xLn x st fun v st=>Q v st t0
 | .lm x=>xv st x fun x=>xLm x st fun v st=>Q v st t0
 | .mx x y=>xv st x fun x=>xv st y fun y=>xMx x y st fun v st=>Q v st t0
 | .mn x y=>xv st x fun x=>xv st y fun y=>xMn x y st fun v st=>Q v st t0
 | .ex n x=>xv st x fun x=>xEx n x st fun v st=>Q v st t0
 | .al e z=>jJ (gJ z&&jS z) 141 st [] (jTg st e (.l (oJ z)) fun i st t=>Q (.tp i g0 0) st t)
 | .bx e x=>xv st x fun v=>jJ (gV (vL v)) 142 st [] (jTg st e (.l (vL v)) fun i st t=>Q (.tp i g0 0) st t)
 | .bd z ps=>jJ (gJ z) 143 st [] (jHl st ps (oJ z) fun l=>Q (.agg l) st t0)
 | .bs e sz z len ps=>jJ (gJ z&&(jS z&&(xL (Nat.mul len sz) z&&Nat.blt 0 len))) 144 st [] (jHl st ps (oJ z) fun l=>jTg st e (.l l) fun i st t=>bif P.fz then jYf Q (.ts i g0 (.con (.ofNat len)) sz) st t else Q (.ts i g0 (.con (.ofNat len)) sz) st t)
 | .ld n a=>xv st a fun a=>xLd P n a st fun v st=>Q v st t0
 | .st n a x=>xv st a fun a=>xv st x fun x=>xSt P n a x st fun st t=>Q jAb st t
 | .nc x=>xv st x fun x=>xNc x st fun v st=>Q v st t0
 | .fa off x=>xv st x fun x=>xFa off x st fun v st=>Q v st t0
 | .ia sz x i=>xv st x fun x=>xv st i fun i=>xIa P sz x i st fun v st=>Q v st t0
 | .sl sz x lo hi=>xv st x fun x=>xSl P sz x lo hi st Q
 | .ap e sz by_ s x=>xv st s fun s=>xv st x fun x=>xAp P e sz by_ s x st (bif P.fz then jYf Q else Q)
 | .mf f a c=>xvs st a fun a=>xvs st c fun c=>Q (.f f a c) st t0
 | .cf f xs=>xvs st xs fun l=>xCf P cur f l st Q
 | .cp f xs=>xvs st xs fun l=>xCp P cur f l st Q
 | .cv x xs=>xv st x fun x=>xvs st xs fun l=>xCv P cur x l st Q
 | .cq f xs=>xvs st xs fun l=>xCq P cur f l st Q
 | .bt x=>xv st x fun x=>xBt x st fun v st=>Q v st t0
 | .be g x y=>xv st x fun x=>xv st y fun y=>xBe g x y st fun v st=>Q v st t0
 | _=>no1 145 st
def jIy (E:EX) (v:Nat):LT:=bif Nat.blt v 300000 then (match uV E (Nat.sub v 200000) with | some (.i _ t)=>t | some (.bv t)=>t | some (.b x)=>.con (bif x then 1 else 0) | _=>.con 0)
 else bif Nat.blt v 400000 then (match uV E (Nat.sub v 300000) with | some (.s n _)=>n | some (.ts _ _ n _)=>n | some (.q _ _ n)=>n | _=>.con 0)
 else bif Nat.blt v 500000 then (match uV E (Nat.sub v 400000) with | some (.s _ c)=>c | _=>.con 0)
 else bif Nat.blt v 1000000 then (match uV E (Nat.sub v 600000) with | some (.q _ r _)=>r | _=>.con 0)
 else .con (.ofNat (Nat.sub v 1000000))
def jIx (E:EX) (v:Nat):Nat:=match uV E (Nat.sub v 500000) with | some (.qs j)=>j | _=>0
def jIw (E:EX) (v:Nat):Gn:=match uV E (Nat.sub v 700000) with | some (.tp _ g _)=>g | some (.te _ g _ _)=>g | some (.ts _ g _ _)=>g | _=>g0
def sW (n0:Nat) (E:EX) (σ:Bd):Sb:=⟨fun v=>bif Nat.blt v n0 then .var v else bif Nat.blt v 100000 then .con 0 else bif Nat.blt v 200000 then bvT (lkB σ v) else jIy E v,
 fun v=>bif Nat.blt v n0 then v else bif Nat.blt v 100000 then 0 else bif Nat.blt v 200000 then bvL (lkB σ v) else jIx E v,
 fun v=>bif Nat.blt v n0 then ⟨Nat.succ v,0⟩ else bif Nat.blt v 100000 then g0 else bif Nat.blt v 200000 then bvG (lkB σ v) else jIw E v⟩
def oY:List LT→Sx→(Sx→An)→An
 | [],st,k=>k st
 | t::r,st,k=>xge st (t.inst (sW st.n st.E [])) fun _ st=>oY r st k
def jRr (st:Sx) (k:Sx→An):Nat→An
 | 0=>k st
 | n+1=>pop st (fun m=>m.mg st) fun c=>match c with
  | 0=>k st
  | c+1=>(match zO st.B (Nat.mod c 1024),zO st.B (Nat.div c 1024) with
   | some (.by_ c i b),some (.by_ c' i' b')=>jJ (c.beq c') 244 st [] (kE st i i' (xZ st (b.sub b') fun st=>xZ st (b'.sub b) fun st=>k st))
   | _,_=>no1 245 st)
def qBa (st:Sx) (k:Sx→An):An:=pop st (fun m=>m.dn st) fun c=>match c with
 | 0=>k st
 | c+1=>(match zO st.N c with
  | some d=>ask st d (ask st d.neg done)
  | none=>no1 246 st)
def qPk (h:Option (List LT)) (st:Sx) (k:Sx→An):An:=match h with
 | none=>k st
 | some l=>oY l st fun st=>jRr st (fun st=>qBa st k) 1
def qCc (hs:Nat→Option (List LT)) (d:Option Nat) (st:Sx) (k:Sx→An):An:=match d with
 | some d=>qPk (hs d) st k
 | none=>k st
def jOw (st:Sx) (d:Option Nat) (v:SX) (k:Sx→An):An:=match d with
 | some d=>jJ (v.sc st.n) 146 st [] (k (st.setE ((d,v)::st.E)))
 | none=>k st
def xG (st:Sx) (g:Option (Nat×Bool)) (p q:Sx→An):An:=match g with
 | none=>p st
 | some (t,w)=>(match uV st.E t with
  | some v=>(match v with
   | .b x=>bif (bif x then w else !w) then p st else q st
   | .bv t=>xge st (t.addc (-1)) fun r st=>bif (bif r then w else !w) then p st else q st
   | .tup []=>q st
   | _=>no1 147 st)
  | none=>no1 148 st)
def qBh {α:Type}:Nat→List α→List α
 | 0,l=>l
 | _+1,[]=>[]
 | n+1,_::l=>qBh n l
def PX.drop (P:PX) (k:Nat):PX:=match k with
 | 0=>P
 | k+1=>⟨P.ct,P.cp,P.ak,P.bt,P.sg,fun f=>qBh (Nat.mod (Nat.succ k) 100) (P.cs f),Nat.ble 100 k&&Nat.blt k 200,Nat.ble 200 k&&Nat.blt k 300,bif Nat.blt k 399 then Nat.sub (Nat.succ k) 300 else 0,Nat.ble 399 k,P.rk⟩
def kdO (kd:Nat→Nat) (d:Option Nat):Nat:=match d with
 | some d=>kd d
 | none=>0
def xR (P:PX) (cur:LT) (hs:Nat→Option (List LT)) (kd:Nat→Nat):List O→Sx→(Sx→An)→An
 | [],st,Q=>Q st
 | o::r,st,Q=>xG st o.g (fun st=>xO (P.drop (kdO kd o.d)) cur o.c st fun v st _=>jOw st o.d v fun st=>qCc hs o.d st fun st=>xR P cur hs kd r st Q) (fun st=>jOw st o.d jAb fun st=>xR P cur hs kd r st Q)
def qFv (H:List HX) (s:SX):Option Key:=match s with
 | .tp i g _=>(match hbX H i g with | some hb=>(match hb.c with | .l _=>some (.h i) | _=>none) | none=>none)
 | .te i g _ _=>(match hbX H i g with | some hb=>(match hb.c with | .r _ _ _=>some (.h i) | _=>none) | none=>none)
 | .qp _ _ _=>some .a
 | .xs _ _=>some .c
 | .fqs=>some .c
 | _=>none
def qFl (st:Sx) (H:List HX) (o:O) (ws:List Tch) (k:Nat) (rs:List Wr) (Q:List Wr→An):An:=match o.rd with
 | none=>Q rs
 | some (lo,hi)=>match o.c with
  | .ld n a=>xv st a fun a=>(match qFv H a with | some κ=>jJ (jEn κ lo ws k) 149 st [] (Q (⟨κ,hi⟩::rs)) | none=>no1 150 st)
  | _=>no1 151 st
def xD (P:PX) (cur:LT) (kd:Nat→Nat):List O→Sx→List Tch→Nat→List Wr→(Sx→An)→An
  | [],st,_,_,_,Q=>Q st
  | o::r,st,ws,k,rs,Q=>xG st o.g
      (fun st=>bif o.c.acts then xO (P.drop (kdO kd o.d)) cur o.c st fun v st t=>jJ (eM t k rs) 152 st [] (jOw st o.d v fun st=>xD P cur kd r st (t::ws) (Nat.succ k) rs Q)
        else xO (P.drop (kdO kd o.d)) cur o.c st fun v st' t=>jJ (noT t) 153 st' [] (qFl st' st.H o ws k rs fun rs=>jOw st' o.d v fun st=>xD P cur kd r st ws k rs Q))
      (fun st=>bif o.c.acts then jOw st o.d jAb fun st=>xD P cur kd r st (t0::ws) (Nat.succ k) rs Q else jOw st o.d jAb fun st=>xD P cur kd r st ws k rs Q)
abbrev KK:=E→Sx→An
def jWz (id:Nat) (Q:KK) (e:E) (st:Sx):An:=match e with
 | .nrm=>Q .nrm st
 | .exit k=>bif Nat.beq k id then Q .nrm st else Q (.exit k) st
 | .ret=>Q .ret st
def jXd (K:Sx→An) (Q:KK) (e:E) (st:Sx):An:=match e with
 | .nrm=>K st
 | .exit k=>Q (.exit k) st
 | .ret=>Q .ret st
def jEo (E:EX):List Nat→EX
 | []=>[]
 | n::r=>match uV E n with
  | some v=>(n,v)::jEo E r
  | none=>jEo E r
def jKk:SX→Bool
 | .sl0=>true
 | _=>false
def jJu (P:PX) (sz:Nat):HCX→Bool
 | .r T _ n=>(match n.l with | []=>isZ n.c | _::_=>false)&&Nat.beq sz (jP (P.ct T))
 | .xs _=>Nat.beq sz 1
 | _=>false
def Sx.lnZ (st:Sx):HCX→Bool
 | .xs j=>(match oA j st.B with | some (n,_)=>(match n.l with | []=>isZ n.c | _::_=>false) | none=>false)
 | _=>true
def qJy (s:Sb) (c:HCX) (st:Sx) (Q:HCX→Sx→An):An:=match c with
 | .xs m=>fresh st fun _ st=>jJ ((s.t m).sc st.n) 177 st [] (Q (.xs (Nat.pred st.n)) (st.addB (.ln (Nat.pred st.n) (.con 0) (s.t m))))
 | c=>Q (c.inst s) st
def jGu (P:PX) (s:Sb):List (CvX×Nat)→Sx→(Sx→An)→An
 | [],st,Q=>Q st
 | (.lit n m,sz)::r,st,Q=>(match uV st.E n with
  | some (.ts i g k z)=>(match hbX st.H i g with
   | some hb=>(match hb.c with
    | .l l=>jJ (Nat.beq z 1&&(s.t m).sc st.n) 180 st [s.t m] (pQ st (s.t m) l (kE st k (.con (.ofNat (jP l))) (fresh st fun _ st=>jGu P s r (((st.addB (.ln (Nat.pred st.n) (.con (.ofNat (jP l))) (s.t m))).setE ((n,.ts i g.up k z)::st.E)).setH (jG st.H i ⟨hb.e,g.up,.xs (Nat.pred st.n)⟩)) Q)))
    | _=>no1 181 st)
   | none=>no1 182 st)
  | _=>no1 183 st)
 | (.frz n,sz)::r,st,Q=>(match uV st.E n with
  | some (.ts i g k z)=>(match hbX st.H i g with
   | some hb=>(match hb.c with
    | .xs j=>jJ (Nat.blt j st.n) 184 st [] (jGu P s r ((st.setE ((n,.qs j)::st.E)).setH (vR st.H i)) Q)
    | _=>no1 185 st)
   | none=>no1 186 st)
  | _=>no1 187 st)
 | (.slot i e c,sz)::r,st,Q=>qJy s c st fun c st=>jJ (jJu P sz c&&(c.sc st.n&&st.lnZ c)) 157 st [] (match uV st.E i with
   | some v=>jJ (jKk v) 158 st [] (jGu P s r ((st.setE ((i,.ts (jP st.H) g0 (.con 0) sz)::st.E)).setH (st.H++[⟨e,g0,c⟩])) Q)
   | none=>no1 159 st)
 | (.cell i off e c,sz)::r,st,Q=>qJy s c st fun c st=>jJ (jJu P sz c&&(c.sc st.n&&st.lnZ c)) 157 st [] (match zO st.H i with
   | some hb=>(match hb.c with
    | .l l=>(match zO l off with
     | some v=>jJ (jKk v) 160 st [] (jGu P s r (st.setH (jG st.H i ⟨hb.e,hb.g,.l (jG l off (.ts (jP st.H) g0 (.con 0) sz))⟩++[⟨e,g0,c⟩])) Q)
     | none=>no1 161 st)
    | _=>no1 162 st)
   | none=>no1 163 st)
def qBm (st:Sx):EX→EX→An→An
 | [],_,k=>k
 | p::r,E,k=>(match uV E p.1 with | some v=>eqv st p.2 v (qBm st r E k) | none=>no1 249 st)
def bE (lo hi:Nat):EX→EX→Bd→Bd
 | [],_,σ=>σ
 | p::r,E,σ=>bE lo hi r E (match uV E p.1 with | some v=>bX lo hi p.2 v σ | none=>σ)
def qCe (st:Sx):List HX→List HX→An→An
 | [],_,k=>k
 | x::l,y::m,k=>jJ (Nat.beq x.e y.e&&x.g.beq y.g) 250 st [] (eqC st x.c y.c (qCe st l m k))
 | _::_,[],_=>no1 251 st
def qGa:List (Option HX)→List HX→List HX
 | [],_=>[]
 | some h::l,[]=>h::qGa l []
 | some h::l,_::m=>h::qGa l m
 | none::l,[]=>qGa l []
 | none::l,h::m=>h::qGa l m
def vP (H0:List HX) (a:Alt):List HX:=match a.H with
 | some H=>qGa H H0
 | none=>H0
def qMn (n0:Nat) (E0:EX) (H0:List HX) (a:Alt) (st:Sx) (k:Sb→An):An:=jMj 100000 200000 (sW n0 E0) st a.B (bH 100000 200000 (vP H0 a) st.H (bE 100000 200000 a.E st.E [])) fun σ=>k (sW n0 E0 σ)
def jTm (E0:EX) (H0:List HX) (a:Alt) (st:Sx) (s:Sb) (pre:Bool) (k:An):An:=qBm st (jAj s a.E) st.E ((bif pre then qCe st (gF s (vP H0 a)) st.H else eqH st (gF s (vP H0 a)) st.H) (tH st (wV s a.F) (wV s a.N) (nI s a.B) k))
def jNc:EX→Nat
 | []=>0
 | p::r=>mx (pA p.2) (jNc r)
def jCo (n0:Nat) (E0:EX) (H0:List HX) (Ek:EX) (m0:LT) (h0:Nat) (st:Sx) (a:Alt):An:=qMn n0 E0 H0 a st fun s=>jTm E0 H0 a st s true (qBm st Ek st.E (match gF s (vP H0 a) with
 | G=>jJ (Nat.ble h0 (jP G)&&(Nat.ble (jNc (a.E++Ek)) (jP G)&&Nat.ble (mQ G) (jP G))) 252 st [] (ask st ((m0.sub (a.m.inst s)).addc (-1)) (ask st (m0.addc (-1)) done))))
def lH (n0:Nat) (E0:EX) (H0:List HX) (Ek:EX) (m0:LT) (h0:Nat) (st:Sx):List Alt→List An
 | []=>[]
 | a::r=>jCo n0 E0 H0 Ek m0 h0 st a::lH n0 E0 H0 Ek m0 h0 st r
def jJm (n0:Nat) (E0:EX) (H0:List HX) (L:Nat) (st:Sx) (a:Alt):An:=qMn n0 E0 H0 a st fun s=>jTm E0 H0 a st s false (ask st ((a.m.inst s).neg.addc (Int.ofNat L - 1)) done)
def tM (n0:Nat) (E0:EX) (H0:List HX) (L:Nat) (st:Sx):List Alt→List An
 | []=>[]
 | a::r=>jJm n0 E0 H0 L st a::tM n0 E0 H0 L st r
def aP (n0:Nat) (E0:EX) (H0:List HX) (L:Nat) (st:Sx) (l:List Alt):An:=match l with
 | [a]=>jJm n0 E0 H0 L st a
 | l=>sel st (tM n0 E0 H0 L st l) fun _=>done
def qLd (n0:Nat) (E0:EX) (H0:List HX) (Ek:EX) (se:List LT) (alts:List Alt) (m0:LT) (h0:Nat) (Q:KK) (e:E) (st:Sx):An:=match e with
 | .nrm=>oY se st fun st=>(match alts with
  | [a]=>jCo n0 E0 H0 Ek m0 h0 st a
  | alts=>sel st (lH n0 E0 H0 Ek m0 h0 st alts) fun _=>done)
 | .exit i=>Q (.exit i) st
 | .ret=>Q .ret st
def own (n0 v:Nat):Nat:=match n0 with
 | 0=>Nat.sub v 100000
 | k+1=>Nat.add (Nat.succ k) (Nat.sub v 100000)
def zI (n0:Nat) (E0:EX):Sb:=⟨fun v=>bif Nat.blt v n0 then .var v else bif Nat.blt v 100000 then .con 0 else bif Nat.blt v 200000 then .var (own n0 v) else jIy E0 v,
 fun v=>bif Nat.blt v n0 then v else bif Nat.blt v 100000 then 0 else bif Nat.blt v 200000 then own n0 v else jIx E0 v,
 fun v=>bif Nat.blt v n0 then ⟨Nat.succ v,0⟩ else bif Nat.blt v 100000 then g0 else bif Nat.blt v 200000 then ⟨Nat.succ (own n0 v),0⟩ else jIw E0 v⟩
def jHc (E0:EX) (H0:List HX) (Ek:EX) (se:List LT) (alts:List Alt) (body:Sx→KK→An) (st:Sx) (Q:KK) (a:Alt):An:=
 qH (Nat.add st.n a.k) fun m=>match zI st.n E0 with
  | s=>jJ (scE m (jAj s a.E)&&(scH m (gF s (vP H0 a))&&(scE st.n Ek&&(a.m.inst s).sc m))) 165 st [] (jQw (wV s a.F) (wV s a.N) (nI s a.B) ((((st.up m).setE (jAj s a.E++Ek))).setH (gF s (vP H0 a))) fun st1=>body st1 (qLd st.n E0 H0 Ek se alts (a.m.inst s) (jP (vP H0 a)) Q))
def jJo (E0:EX) (H0:List HX) (Ek:EX) (se:List LT) (alts:List Alt) (body:Sx→KK→An) (st:Sx) (Q:KK):List Alt→An
 | []=>done
 | a::r=>aR (jHc E0 H0 Ek se alts body st Q a) (jJo E0 H0 Ek se alts body st Q r)
def qKp (P:PX) (L:Nat) (np:Nat) (top:Bool) (an:Option Ann) (body:Sx→KK→An) (st:Sx) (Q:KK):An:=match an with
 | none=>no1 166 st
 | some an=>jGu P (sW st.n st.E []) an.cv st fun st=>oY an.sp st fun st=>bif an.once&&top then aP np [] [] L st an.alts
  else jJ (Nat.ble st.n 100000&&Nat.blt 0 st.n) 180 st [] (match jEo st.E an.ks with
  | Ek=>aR (aP st.n st.E st.H L st an.alts) (jJo st.E st.H Ek an.se an.alts body st Q an.alts))
def xK (P:PX) (cur:LT) (L np:Nat) (an:Nat→Option Ann) (hs:Nat→Option (List LT)) (kd:Nat→Nat):K→Bool→Nat→Sx→KK→An
 | .skip,_,_,st,Q=>Q .nrm st
 | .reg ops,_,_,st,Q=>xR P cur hs kd ops st (Q .nrm)
 | .dreg ops,_,_,st,Q=>xD P cur kd ops st [] 0 [] (Q .nrm)
 | .fr _ _ _,_,_,st,_=>no1 156 st
 | .seq a b,top,id,st,Q=>xK P cur L np an hs kd a top id st (jXd (fun st=>xK P cur L np an hs kd b top id st Q) Q)
 | .cond c a b,top,id,st,Q=>xv st c fun c=>jJe c st fun r st=>bif r then xK P cur L np an hs kd a top id st Q else xK P cur L np an hs kd b top id st Q
 | .block id c,top,_,st,Q=>xK P cur L np an hs kd c top id st (jWz id Q)
 | .loop c,top,id,st,Q=>qKp P L np top (an id) (fun st Q=>xK P cur L np an hs kd c false id st Q) st Q
 | .exit id,_,_,st,Q=>Q (.exit id) st
 | .ret,_,_,st,Q=>Q .ret st
 | .no,_,_,st,_=>no1 168 st
def qQh:Nat→List Alt→List Alt
 | 0,l=>l
 | 1,l=>(match l with | []=>[] | a::_=>[a])
 | _,l=>(match l with | []=>[] | _::r=>r)
def xW (sl:Nat) (P:PX) (cur:LT) (L np:Nat) (an:Nat→Option Ann) (hs:Nat→Option (List LT)) (kd:Nat→Nat) (b0:Sx):K→Nat→KK→An
 | .seq a b,id,Q=>aR (xW sl P cur L np an hs kd b0 a id (jXd (fun st=>xK P cur L np an hs kd b true id st Q) Q)) (xW sl P cur L np an hs kd b0 b id Q)
 | .cond _ a b,id,Q=>aR (xW sl P cur L np an hs kd b0 a id Q) (xW sl P cur L np an hs kd b0 b id Q)
 | .block id c,_,Q=>xW sl P cur L np an hs kd b0 c id (jWz id Q)
 | .loop c,id,Q=>(match an id with
  | some a=>bif a.once then jJ (Nat.ble np 100000&&Nat.blt 0 np) 181 b0 [] (jJo [] [] [] a.se a.alts (fun st Q=>xK P cur L np an hs kd c false id st Q) b0 Q (qQh sl a.alts)) else done
  | none=>done)
 | _,_,_=>done
def jTi (P:PX):List RV0→Sx→(List SX→Sx→An)→An
 | [],st,Q=>Q [] st
 | .t n::r,st,Q=>(match uV st.E n with | some v=>jTi P r st fun l st=>Q (v::l) st | none=>no1 169 st)
 | .c a n::r,st,Q=>(match uV st.E a with | some a=>xLd P n a st fun v st=>jJ (v.sc st.n) 182 st [] (jTi P r st fun l st=>Q (v::l) st) | none=>no1 170 st)
def qJm:List SX→SX
 | [v]=>v
 | l=>.tup l
def qFn (P:PX) (k:Nat) (hb:HX) (st:Sx) (Q:HX→Sx→An):An:=match hb.c,P.bt hb.e with
 | .l l,some ts=>pX P ts l st fun l fr st=>jJ (sY k fr&&(gV l&&scs st.n l)) 171 st [] (Q ⟨hb.e,hb.g,.l l⟩ st)
 | .l l,none=>Q ⟨hb.e,hb.g,.l l⟩ st
 | _,_=>Q hb st
def aK (P:PX) (k:Nat):Nat→List HX→Sx→(List HX→Sx→An)→An
 | 0,_,st,Q=>Q [] st
 | n+1,hb::r,st,Q=>qFn P k hb st fun hb st=>aK P k n r st fun r st=>Q (hb::r) st
 | _+1,[],st,_=>no1 172 st
def qJj (np:Nat) (σ:Bd):Sb:=⟨fun w=>bif Nat.blt w np then LT.var w else bvT (lkB σ w),fun w=>bif Nat.blt w np then w else bvL (lkB σ w),fun w=>bif Nat.blt w np then ⟨Nat.succ w,0⟩ else bvG (lkB σ w)⟩
def jEu (np:Nat) (st:Sx) (v:SX) (H:List HX) (p:dZ):An:=jMj np (np+p.k) (qJj np) st p.B (bH np (np+p.k) p.H H (bX np (np+p.k) p.r v [])) fun σ=>match qJj np σ with
 | s=>eqv st (p.r.inst s) v (eqH st (gF s p.H) H (tH st (wV s p.F) (wV s p.N) (nI s p.B) done))
def sE (np:Nat) (st:Sx) (v:SX) (H:List HX):List dZ→List An
 | []=>[]
 | p::r=>jEu np st v H p::sE np st v H r
def jFd (np:Nat) (st:Sx) (v:SX) (H:List HX) (posts:List dZ):An:=match posts with
 | [p]=>jEu np st v H p
 | posts=>sel st (sE np st v H posts) fun _=>done
def jQm (P:PX) (f k np:Nat) (posts:List dZ) (res:List RV0) (e:E) (st:Sx):An:=match e with
 | .exit _=>no1 173 st
 | _=>jTi P res st fun l st=>jLr P (P.sg f).2 (qJm l) st fun v fr st=>aK P k k st.H st fun H' st=>jJ (Nat.ble (pA v) k&&(Nat.ble (mQ H') k&&sY k fr)) 174 (st.setE [(0,v)]) [] (jFd np ((st.setE [(0,v)]).setH H') v H' posts)
def jKs (np:Nat) (p:dZ):Bool:=p.r.sc (np+p.k)&&(scH (np+p.k) p.H&&(scF (np+p.k) p.F&&(scF (np+p.k) p.N&&scB (np+p.k) p.B)))
def jBr (np:Nat):List dZ→Bool
 | []=>true
 | p::r=>jKs np p&&jBr np r
def jRd (ct:CtX):Bool:=jBr ct.np ct.posts&&(scs ct.np ct.args&&(scH ct.np ct.H&&(scF ct.np ct.F&&(scF ct.np ct.N&&(scB ct.np ct.B&&ct.dep.sc ct.np)))))
def jCe:List SX→Nat→EX
 | [],_=>[]
 | v::r,k=>(k,v)::jCe r (k+1)
def xF (P:PX) (L:Nat) (f:Nat) (g:F) (ct:CtX) (an:Nat→Option Ann) (hs:Nat→Option (List LT)) (kd:Nat→Nat):An:=match (⟨ct.np,jCe ct.args 0,ct.H,ct.F,ct.N,ct.B⟩:Sx) with
 | st=>jJ (Nat.ble (jP ct.args) g.nt&&jRd ct) 176 st [] (ask st (ct.dep.addc (-1)) (aR (xK P ct.dep L ct.np an hs kd g.body true 0 st (jQm P f (jP ct.H) ct.np ct.posts g.res)) (xW 0 P ct.dep L ct.np an hs kd st g.body 0 (jQm P f (jP ct.H) ct.np ct.posts g.res))))
def xF1 (P:PX) (L:Nat) (f:Nat) (g:F) (ct:CtX) (an:Nat→Option Ann) (hs:Nat→Option (List LT)) (kd:Nat→Nat):An:=match (⟨ct.np,jCe ct.args 0,ct.H,ct.F,ct.N,ct.B⟩:Sx) with
 | st=>jJ (Nat.ble (jP ct.args) g.nt&&jRd ct) 176 st [] (ask st (ct.dep.addc (-1)) (aR (xK P ct.dep L ct.np an hs kd g.body true 0 st (jQm P f (jP ct.H) ct.np ct.posts g.res)) (xW 1 P ct.dep L ct.np an hs kd st g.body 0 (jQm P f (jP ct.H) ct.np ct.posts g.res))))
def xF2 (P:PX) (L:Nat) (f:Nat) (g:F) (ct:CtX) (an:Nat→Option Ann) (hs:Nat→Option (List LT)) (kd:Nat→Nat):An:=match (⟨ct.np,jCe ct.args 0,ct.H,ct.F,ct.N,ct.B⟩:Sx) with
 | st=>xW 2 P ct.dep L ct.np an hs kd st g.body 0 (jQm P f (jP ct.H) ct.np ct.posts g.res)
end
end Go.Proofs.YtdlhiljbhepliaaGreatDoor.Ev.Rf
