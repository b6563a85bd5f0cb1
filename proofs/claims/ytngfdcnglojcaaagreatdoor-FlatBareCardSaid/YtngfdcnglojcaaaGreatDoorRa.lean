/-
A checker of the conditions of runs, computed: linear terms, what is pX, values told by terms. Definitions alone. No program is named here.
-/
import Derived.Test.YtngfdcnglojcaaaGreatDoorWd
section
set_option linter.all false
namespace Go.Proofs.YtngfdcnglojcaaaGreatDoor.Ev.Rf
noncomputable section
open Go
structure LT where
 c:Int
 l:List (Nat×Int)
structure Rv where
 z:Int
 l:List (Nat×Nat)
 g:Nat
structure Gn where
 v:Nat
 o:Nat
def g0:Gn:=⟨0,0⟩
def Gn.up (g:Gn):Gn:=⟨g.v,Nat.succ g.o⟩
abbrev Rho:=Nat→Rv
def geZ:Int→Bool
 | .ofNat _=>true
 | .negSucc _=>false
def isZ:Int→Bool
 | .ofNat m=>Nat.beq m 0
 | .negSucc _=>false
def jLb (v:Nat) (a:Int):List (Nat×Int)→List (Nat×Int)
 | []=>[(v,a)]
 | p::r=>bif Nat.beq v p.1 then wY (a+p.2) fun s=>bif isZ s then r else (v,s)::r else bif Nat.blt p.1 v then (v,a)::p::r else p::jLb v a r
def jNs:List (Nat×Int)→List (Nat×Int)→List (Nat×Int)
 | [],m=>m
 | p::r,m=>jLb p.1 p.2 (jNs r m)
def jDa (k:Int):List (Nat×Int)→List (Nat×Int)
 | []=>[]
 | p::r=>wY (k*p.2) fun a=>(p.1,a)::jDa k r
def LT.con (c:Int):LT:=⟨c,[]⟩
def LT.var (v:Nat):LT:=⟨0,[(v,1)]⟩
def LT.add (s t:LT):LT:=wY (s.c+t.c) fun c=>⟨c,jNs s.l t.l⟩
def LT.smul (k:Int) (t:LT):LT:=bif isZ k then ⟨0,[]⟩ else wY (k*t.c) fun c=>⟨c,jDa k t.l⟩
def LT.sub (s t:LT):LT:=s.add (t.smul (-1))
def LT.addc (t:LT) (k:Int):LT:=wY (t.c+k) fun c=>⟨c,t.l⟩
def LT.neg (t:LT):LT:=t.smul (-1)
def LT.isC (t:LT):Bool:=match t.l with
 | []=>true
 | _::_=>false
def evL (ρ:Rho):List (Nat×Int)→Int
 | []=>0
 | p::r=>p.2*(ρ p.1).z+evL ρ r
def LT.ev (ρ:Rho) (t:LT):Int:=t.c+evL ρ t.l
def scL (n:Nat):List (Nat×Int)→Bool
 | []=>true
 | p::r=>Nat.blt p.1 n&&scL n r
def LT.sc (n:Nat) (t:LT):Bool:=scL n t.l
def jUh:List (Nat×Int)→List (Nat×Int)→Bool
 | [],[]=>true
 | p::r,q::s=>Nat.beq p.1 q.1&&(eqI p.2 q.2&&jUh r s)
 | _,_=>false
def LT.beq (s t:LT):Bool:=eqI s.c t.c&&jUh s.l t.l
def qKn (v:Nat):List (Nat×Int)→Int
 | []=>0
 | p::r=>bif Nat.beq p.1 v then p.2 else bif Nat.blt p.1 v then 0 else qKn v r
def jXt (a b:Int) (t f:LT):Option LT:=match a,b with
 | .ofNat m,.ofNat k=>(match m,k with
  | 0,_=>none
  | _+1,0=>none
  | m+1,k+1=>some ((t.smul (.ofNat (k+1))).add (f.smul (.negSucc m))))
 | .negSucc m,.negSucc k=>some ((t.smul (.ofNat (k+1))).add (f.smul (.negSucc m)))
 | _,_=>none
def Gn.den (ρ:Rho) (g:Gn):Nat:=(match g.v with | 0=>0 | j+1=>(ρ j).g)+g.o
def Gn.sc (n:Nat) (g:Gn):Bool:=Nat.ble g.v n
def Gn.beq (g h:Gn):Bool:=Nat.beq g.v h.v&&Nat.beq g.o h.o
inductive SX where
 | b (x:Bool)
 | bv (t:LT)
 | i (k:IntKind) (t:LT)
 | s (n c:LT)
 | p0
 | sl0
 | tp (i:Nat) (g:Gn) (off:Nat)
 | te (i:Nat) (g:Gn) (k:LT) (off:Nat)
 | ts (i:Nat) (g:Gn) (n:LT) (sz:Nat)
 | q (T:Nat) (r n:LT)
 | qp (T:Nat) (r:LT) (off:Nat)
 | qs (j:Nat)
 | xs (n c:LT)
 | f (fn:Nat) (a c:List SX)
 | agg (l:List SX)
 | tup (l:List SX)
 | fis (n:LT)
 | fqs
inductive HCX where
 | l (l:List SX)
 | r (T:Nat) (r n:LT)
 | xs (j:Nat)
 | rl (T:Nat) (r n:LT) (l:List SX)
 | dead
structure HX where
 e:Nat
 g:Gn
 c:HCX
abbrev EX:=List (Nat×SX)
inductive TE where
 | by_ (c t r:LT)
 | el (j:Nat) (t n c:LT)
 | ln (j:Nat) (n m:LT)
 | ca (f:Nat) (a:List SX) (r:SX)
 | dv (a:LT) (b:Int) (q:LT)
 | ng (g c a b:LT)
structure Sx where
 n:Nat
 E:EX
 H:List HX
 F:List LT
 N:List LT
 B:List TE
mutual
noncomputable def SX.den (ρ:Rho):SX→SV
 | .b x=>.b x
 | .bv t=>.b (decide (0<t.ev ρ))
 | .i k t=>.i k (t.ev ρ)
 | .s n c=>.s (n.ev ρ).toNat (c.ev ρ).toNat
 | .p0=>.p0
 | .sl0=>.sl0
 | .tp i g o=>.tp i (g.den ρ) o
 | .te i g k o=>.te i (g.den ρ) (k.ev ρ).toNat o
 | .ts i g n z=>.ts i (g.den ρ) (n.ev ρ).toNat z
 | .q T r n=>.q T (r.ev ρ).toNat (n.ev ρ).toNat
 | .qp T r o=>.qp T (r.ev ρ).toNat o
 | .qs j=>.qs (ρ j).l
 | .xs n c=>.xs ((n.ev ρ).toNat,(c.ev ρ).toNat)
 | .f fn a c=>.f fn (jQ ρ a) (jQ ρ c)
 | .agg l=>.agg (jQ ρ l)
 | .tup l=>.tup (jQ ρ l)
 | .fis n=>.fis (n.ev ρ).toNat
 | .fqs=>.fqs
noncomputable def jQ (ρ:Rho):List SX→List SV
 | []=>[]
 | x::l=>x.den ρ::jQ ρ l
end
noncomputable def HCX.den (ρ:Rho):HCX→HC
 | .l m=>.l (jQ ρ m)
 | .r T R n=>.r T (R.ev ρ).toNat (n.ev ρ).toNat
 | .xs j=>.xs (ρ j).l
 | .rl T R n m=>.rl T (R.ev ρ).toNat (n.ev ρ).toNat (jQ ρ m)
 | .dead=>.dead
noncomputable def HX.den (ρ:Rho) (h:HX):HB:=⟨h.e,h.g.den ρ,h.c.den ρ⟩
noncomputable def denH (ρ:Rho) (H:List HX):Hp:=H.map (HX.den ρ)
noncomputable def denE (ρ:Rho):EX→Env
 | []=>[]
 | p::r=>(p.1,p.2.den ρ)::denE ρ r
mutual
def SX.sc (n:Nat):SX→Bool
 | .b _=>true
 | .bv t=>t.sc n
 | .i _ t=>t.sc n
 | .s a c=>a.sc n&&c.sc n
 | .p0=>true
 | .sl0=>true
 | .tp _ g _=>g.sc n
 | .te _ g k _=>g.sc n&&k.sc n
 | .ts _ g a _=>g.sc n&&a.sc n
 | .q _ r a=>r.sc n&&a.sc n
 | .qp _ r _=>r.sc n
 | .qs j=>Nat.blt j n
 | .xs a c=>a.sc n&&c.sc n
 | .f _ a c=>scs n a&&scs n c
 | .agg l=>scs n l
 | .tup l=>scs n l
 | .fis a=>a.sc n
 | .fqs=>true
def scs (n:Nat):List SX→Bool
 | []=>true
 | x::l=>x.sc n&&scs n l
end
def HCX.sc (n:Nat):HCX→Bool
 | .l m=>scs n m
 | .r _ R a=>R.sc n&&a.sc n
 | .xs j=>Nat.blt j n
 | .rl _ R a m=>R.sc n&&(a.sc n&&scs n m)
 | .dead=>true
def scH (n:Nat):List HX→Bool
 | []=>true
 | h::r=>h.g.sc n&&(h.c.sc n&&scH n r)
def scF (n:Nat):List LT→Bool
 | []=>true
 | t::r=>t.sc n&&scF n r
def TE.sc (n:Nat):TE→Bool
 | .by_ c t r=>c.sc n&&(t.sc n&&r.sc n)
 | .el j t a c=>Nat.blt j n&&(t.sc n&&(a.sc n&&c.sc n))
 | .ln j a m=>Nat.blt j n&&(a.sc n&&m.sc n)
 | .ca _ a r=>scs n a&&r.sc n
 | .dv a _ q=>a.sc n&&q.sc n
 | .ng g c a b=>g.sc n&&(c.sc n&&(a.sc n&&b.sc n))
def scB (n:Nat):List TE→Bool
 | []=>true
 | t::r=>t.sc n&&scB n r
def scE (n:Nat):EX→Bool
 | []=>true
 | p::r=>p.2.sc n&&scE n r
mutual
def SX.beq:SX→SX→Bool
 | .b x,.b y=>bif x then y else !y
 | .bv s,.bv t=>s.beq t
 | .i k s,.i k' t=>eqK k k'&&s.beq t
 | .s n c,.s m d=>n.beq m&&c.beq d
 | .p0,.p0=>true
 | .sl0,.sl0=>true
 | .tp i g o,.tp i' g' o'=>Nat.beq i i'&&(g.beq g'&&Nat.beq o o')
 | .te i g k o,.te i' g' k' o'=>Nat.beq i i'&&(g.beq g'&&(k.beq k'&&Nat.beq o o'))
 | .ts i g k o,.ts i' g' k' o'=>Nat.beq i i'&&(g.beq g'&&(k.beq k'&&Nat.beq o o'))
 | .q T r n,.q T' r' n'=>Nat.beq T T'&&(r.beq r'&&n.beq n')
 | .qp T r o,.qp T' r' o'=>Nat.beq T T'&&(r.beq r'&&Nat.beq o o')
 | .qs j,.qs k=>Nat.beq j k
 | .xs n c,.xs m d=>n.beq m&&c.beq d
 | .f g a c,.f g' a' c'=>Nat.beq g g'&&(jDx a a'&&jDx c c')
 | .agg l,.agg m=>jDx l m
 | .tup l,.tup m=>jDx l m
 | .fis a,.fis b=>a.beq b
 | .fqs,.fqs=>true
 | _,_=>false
def jDx:List SX→List SX→Bool
 | [],[]=>true
 | x::l,y::m=>x.beq y&&jDx l m
 | _,_=>false
end
mutual
def ofX:AV→SX
 | .b x=>.b x
 | .i k n=>.i k (.con n)
 | .s n v=>.s (.con (.ofNat n)) (.con (.ofNat v))
 | .p0=>.p0
 | .sl0=>.sl0
 | .agg l=>.agg (iB l)
 | .tup l=>.tup (iB l)
 | .f fn a c=>.f fn (iB a) (iB c)
 | _=>.tup []
def iB:List AV→List SX
 | []=>[]
 | x::l=>ofX x::iB l
end
def iR:SX:=.tup []
inductive TyX where
 | i (k:IntKind)
 | b
 | s (m:Nat)
 | t (d:Nat)
 | q (T:Nat) (d:Option Nat)
structure bF where
 k:Nat
 F:List LT
 N:List LT
 B:List TE
 r:SX
 H:List HX
structure CtX where
 np:Nat
 dep:LT
 args:List SX
 H:List HX
 F:List LT
 N:List LT
 B:List TE
 posts:List bF
structure Alt where
 k:Nat
 E:EX
 H:Option (List (Option HX))
 F:List LT
 N:List LT
 B:List TE
 m:LT
inductive CvX where
 | lit (n m:Nat)
 | frz (n:Nat)
 | slot (n e:Nat) (c:HCX)
 | cell (i off e:Nat) (c:HCX)
structure Ann where
 once:Bool
 ks:List Nat
 sp:List LT
 se:List LT
 cv:List (CvX×Nat)
 alts:List Alt
def nlA (c:AV):Prop:=∀ n v,c = .s n v→nlP n v
def rpK (l:List (Nat×Option Nat)) (f:Nat→AV):Prop:=∀ p,p∈l→(match p.2 with | none=>True | some g=>∃ k,f g = .i k 2)→nlA (f p.1)
def rsK (l:List (Nat×Option Nat)) (row:List SV):Prop:=∀ p,p∈l→(match p.2 with | none=>True | some g=>∃ k,row[g]?=some (.i k 2))→∀ n v,row[p.1]?=some (.s n v)→nlP n v
def rdK (l:List (Nat×Option Nat)) (off:Nat) (n:Option Nat) (v:SV):Prop:=match n with
 | none=>∀ p,p∈l→p.1=off→p.2=none→∀ m w,v = .s m w→nlP m w
 | some _=>off=0→∀ r,v = .agg r→rsK l r
structure PX where
 ct:Nat→List TyX
 cp:Nat→Bool
 ak:Nat→Option AK
 bt:Nat→Option (List AT)
 sg:Nat→List AT×AT
 cs:Nat→List CtX
 rl:Bool
 fz:Bool
 rv:Nat
 rf:Bool
 rk:Nat→List (Nat×Option Nat)
def TyX.at (r:Nat):TyX→Ty
 | .i k=>.i k
 | .b=>.b
 | .s m=>.s m
 | .t d=>.t (r - d)
 | .q T none=>.q T 0
 | .q T (some d)=>.q T (r - d)
def PX.C (P:PX) (G:Nat→List SV→SV→Prop):Cx:=⟨fun T r=>(P.ct T).map (TyX.at r),fun T r=>if P.cp T=true then 1≤r else True,fun T=>bif P.cp T then 1 else 0,P.ak,P.bt,P.sg,G,fun T=>rpK (P.rk T),fun T=>rsK (P.rk T),fun T=>rdK (P.rk T)⟩
end
end Go.Proofs.YtngfdcnglojcaaaGreatDoor.Ev.Rf
end
section
set_option linter.all false
namespace Go.Proofs.YtngfdcnglojcaaaGreatDoor.Ev.Rf
noncomputable section
open Go
structure qGi where
 ask:List LT→LT→Nat
 asm:Sx→LT→Nat
 te:Sx→TE→Nat
 mg:Sx→Nat
 dn:Sx→Nat
 cst:List LT→LT→LT→Nat
 ng:Sx→LT→LT→LT→LT→Nat
 sl:Sx→LT→LT→LT→Nat
structure Tp where
 m:Option qGi
 l:List Nat
inductive Rs where
 | ok (s:Tp)
 | bad (tag:Nat) (st:Sx) (g:List LT)
abbrev An:=Tp→Rs
def done:An:=fun s=>.ok s
def qKk (tag:Nat) (st:Sx) (g:List LT):An:=fun _=>.bad tag st g
def no1 (tag:Nat) (st:Sx):An:=qKk tag st []
def jL (c:Bool) (tag:Nat) (st:Sx) (g:List LT) (r:An):An:=match c with
 | true=>r
 | false=>qKk tag st g
def sZ (a b:An):An:=fun s=>match a s with
 | .ok s=>b s
 | .bad t st g=>.bad t st g
def pop (st:Sx) (f:qGi→Nat) (k:Nat→An):An:=fun s=>match s.m with
 | some m=>(match f m with | c=>k c ⟨s.m,c::s.l⟩)
 | none=>(match s.l with
  | []=>.bad 200 st []
  | c::r=>k c ⟨none,r⟩)
def qAg (k:Nat→An) (s:Tp) (st:Sx):List An→Nat→Rs
 | [],_=>.bad 201 st []
 | a::r,i=>match a ⟨s.m,i::s.l⟩ with
  | .ok s'=>k i s'
  | .bad _ _ _=>qAg k s st r (Nat.succ i)
def sel (st:Sx) (l:List An) (k:Nat→An):An:=fun s=>match s.m with
 | some _=>qAg k s st l 0
 | none=>(match s.l with
  | []=>.bad 202 st []
  | c::r=>(match zA l c with
   | some a=>sZ a (k c) ⟨none,r⟩
   | none=>.bad 203 st []))
def Sx.addF (st:Sx) (t:LT):Sx:=⟨st.n,st.E,st.H,t::st.F,st.N,st.B⟩
def Sx.addN (st:Sx) (t:LT):Sx:=⟨st.n,st.E,st.H,st.F,t::st.N,st.B⟩
def Sx.addB (st:Sx) (t:TE):Sx:=⟨st.n,st.E,st.H,st.F,st.N,t::st.B⟩
def Sx.setE (st:Sx) (E:EX):Sx:=⟨st.n,E,st.H,st.F,st.N,st.B⟩
def Sx.setH (st:Sx) (H:List HX):Sx:=⟨st.n,st.E,H,st.F,st.N,st.B⟩
def Sx.up (st:Sx) (n:Nat):Sx:=⟨n,st.E,st.H,st.F,st.N,st.B⟩
def chk (F:List LT):Nat→Nat→LT→Bool
 | 0,_,_=>false
 | n+1,c,t=>match t.l with
  | []=>geZ t.c
  | p::_=>match zA F (Nat.pred (Nat.mod c 1024)) with
   | some f=>(match jXt p.2 (qKn p.1 f.l) t f with
    | some u=>chk F n (Nat.div c 1024) u
    | none=>false)
   | none=>false
def ask (st:Sx) (t:LT) (r:An):An:=match t.l with
 | []=>jL (geZ t.c) 1 st [t] r
 | _::_=>pop st (fun m=>m.ask st.F t) fun c=>jL (chk st.F 40 c t) 1 st [t] r
def LT.not (t:LT):LT:=(t.smul (-1)).addc (-1)
def inN (d:LT):List LT→Bool
 | []=>false
 | x::r=>d.beq x||(d.neg.beq x||inN d r)
def lW (st:Sx) (t:LT) (k:Sx→An):Nat→Nat→An
 | 0,_=>jL (t.sc st.n) 2 st [t] (k (st.addF t))
 | n+1,c=>match Nat.mod c 4 with
  | 0=>jL (t.sc st.n) 2 st [t] (k (st.addF t))
  | 1=>k st
  | 2=>jL (chk st.F 40 (Nat.div c 4) t.not) 204 st [t] done
  | _=>(match zA st.N (Nat.div c 4) with
   | some d=>jL (d.beq t||d.neg.beq t) 205 st [t] (pop st (fun m=>m.asm st (t.addc (-1))) (lW st (t.addc (-1)) k n))
   | none=>no1 206 st)
def zT (st:Sx) (t:LT) (k:Sx→An):An:=match t.l with
 | []=>bif geZ t.c then k st else done
 | _::_=>pop st (fun m=>m.asm st t) (lW st t k 1)
def fresh (st:Sx) (k:LT→Sx→An):An:=jY (Nat.succ st.n) fun m=>k (.var st.n) (st.up m)
def xge (st:Sx) (t:LT) (k:Bool→Sx→An):An:=match t.l with
 | []=>k (geZ t.c) st
 | _::_=>sZ (zT st t (k true)) (zT st t.not (k false))
def qCy (st:Sx) (d:LT) (k:Sx→An):An:=match d.l with
 | []=>bif isZ d.c then done else k st
 | _::_=>sel st [ask st d done,ask st d.neg done,done] fun i=>match i with
  | 0=>zT st (d.addc (-1)) k
  | 1=>zT st (d.neg.addc (-1)) k
  | _=>jL (d.sc st.n) 3 st [d] (k (st.addN d))
def xeq (st:Sx) (d:LT) (k:Bool→Sx→An):An:=match d.l with
 | []=>k (isZ d.c) st
 | _::_=>bif inN d st.N then k false st else sZ (zT st d fun st=>zT st d.neg (k true)) (qCy st d (k false))
def vP (st:Sx) (a b:LT) (r:An):An:=bif a.beq b then r else ask st (a.sub b) (ask st (b.sub a) r)
def yK (E:EX) (n:Nat):Option SX:=List.rec (motive:=fun _=>Option SX) none (fun p _ ih=>Bool.rec (motive:=fun _=>Option SX) ih (some p.2) (Nat.beq p.1 n)) E
theorem jBu {p:Nat×SX} {l:EX} {n:Nat}:yK (p::l) n=bif Nat.beq p.1 n then some p.2 else yK l n:=by
 show Bool.rec (motive:=fun _=>Option SX) (yK l n) (some p.2) (Nat.beq p.1 n)=_
 cases Nat.beq p.1 n<;>rfl
def xv (st:Sx) (x:X) (k:SX→An):An:=match x with
 | .k v=>jL (okA v) 4 st [] (k (ofX v))
 | .t n=>(match yK st.E n with | some v=>k v | none=>no1 5 st)
def xvs (st:Sx) (l:List X) (k:List SX→An):An:=match l with
 | []=>k []
 | x::r=>xv st x fun v=>xvs st r fun l=>k (v::l)
abbrev K1:=SX→Sx→An
def jIj (k:IntKind) (t:LT):List LT:=match k with
 | .i64=>[t.addc 9223372036854775808,(t.neg).addc 9223372036854775807]
 | .u8=>[t,(t.neg).addc 255]
 | .i32=>[t.addc 2147483648,(t.neg).addc 2147483647]
 | .u64=>[t,(t.neg).addc 18446744073709551615]
 | _=>[.con (-1)]
def jNv (st:Sx):List LT→An→An
 | [],k=>k
 | t::r,k=>ask st t (jNv st r k)
def addFs (st:Sx):List LT→Sx
 | []=>st
 | t::r=>(addFs st r).addF t
def jWj (k:IntKind) (st:Sx) (Q:K1):An:=jL (okK k) 6 st [] (fresh st fun v st=>Q (.i k v) (addFs st (jIj k v)))
def jPu (k:IntKind) (t:LT) (st:Sx) (Q:K1):An:=jNv st (jIj k t) (Q (.i k t) st)
def jBr (a:LT) (b:Int):List TE→Option LT
 | []=>none
 | t::r=>match t with
  | .dv a' b' q=>bif a'.beq a&&eqI b' b then some q else jBr a b r
  | _=>jBr a b r
def xDv (a b:LT) (st:Sx) (Q:LT→Sx→An):An:=jL (b.isC&&(decide (0<b.c)&&a.sc st.n)) 202 st [a] (ask st a (match jBr a b.c st.B with
 | some q=>Q q st
 | none=>fresh st fun q st=>Q q ((addFs st [q,a.sub (q.smul b.c),((q.smul b.c).sub a).addc (b.c - 1)]).addB (.dv a b.c q))))
def xRm (a b:LT) (st:Sx) (Q:LT→Sx→An):An:=jL (a.sc st.n&&b.sc st.n) 203 st [a,b] (ask st a (ask st (b.addc (-1)) (fresh st fun q st=>Q q (addFs st [q,(b.sub q).addc (-1),a.sub q]))))
def xI (o:BinOp) (k:IntKind) (a b:LT) (st:Sx) (Q:K1):An:=match o with
 | .add=>jPu k (a.add b) st Q
 | .sub=>jPu k (a.sub b) st Q
 | .mul=>bif a.isC then jPu k (b.smul a.c) st Q else bif b.isC then jPu k (a.smul b.c) st Q else no1 8 st
 | .quo=>xDv a b st fun q st=>jPu k q st Q
 | .rem=>bif b.isC then xDv a b st fun q st=>Q (.i k (a.sub (q.smul b.c))) st else xRm a b st fun q st=>Q (.i k q) st
 | .and=>jWj k st Q
 | .or=>jWj k st Q
 | .eql=>xeq st (a.sub b) fun r st=>Q (.b r) st
 | .neq=>xeq st (a.sub b) fun r st=>Q (.b (!r)) st
 | .lss=>xge st ((b.sub a).addc (-1)) fun r st=>Q (.b r) st
 | .leq=>xge st (b.sub a) fun r st=>Q (.b r) st
 | .gtr=>xge st ((a.sub b).addc (-1)) fun r st=>Q (.b r) st
 | .geq=>xge st (a.sub b) fun r st=>Q (.b r) st
 | _=>no1 9 st
def xSh (o:BinOp) (k:IntKind) (a b:LT) (st:Sx) (Q:K1):An:=match o with
 | .shl=>ask st b (jWj k st Q)
 | .shr=>ask st b (jNv st (jIj k a) (jWj k st Q))
 | _=>no1 10 st
def qFl:Int:=1000000000000
def jWv:Int:=100000000000000
def jDy:Int:=1000000
def qFi (n v m u:LT) (st:Sx) (Q:Bool→Sx→An):An:=
 bif n.beq m&&v.beq u then Q true st else
 bif (n.isC&&(v.isC&&(m.isC&&u.isC)))&&((geZ n.c&&geZ v.c)&&(geZ m.c&&geZ u.c)) then Q (eqI n.c m.c&&eqI v.c u.c) st else
 ask st n (ask st m (sZ (zT st (n.sub m) fun st=>zT st (m.sub n) (Q true))
  (bif m.isC&&isZ m.c then zT st (n.addc (-1)) (Q false) else bif n.isC&&isZ n.c then zT st (m.addc (-1)) (Q false) else Q false st)))
def xS (o:BinOp) (n v m u:LT) (st:Sx) (Q:K1):An:=match o with
 | .add=>ask st n (ask st m (ask st ((n.add m).neg.addc qFl) (fresh st fun w st=>Q (.s (n.add m) w) st)))
 | .eql=>qFi n v m u st fun r st=>Q (.b r) st
 | .neq=>qFi n v m u st fun r st=>Q (.b (!r)) st
 | _=>no1 11 st
def xBi (o:BinOp) (x y:SX) (st:Sx) (Q:K1):An:=match x,y with
 | .i k a,.i k' b=>bif oG o then xSh o k a b st Q else jL (eqK k k') 12 st [] (xI o k a b st Q)
 | .s n v,.s m u=>xS o n v m u st Q
 | _,_=>no1 13 st
def xUn (o:UnOp) (x:SX) (st:Sx) (Q:K1):An:=match o,x with
 | .not,.b b=>Q (.b (!b)) st
 | .not,.bv t=>Q (.bv (t.neg.addc 1)) st
 | .neg,.i k a=>jPu k a.neg st Q
 | _,_=>no1 14 st
def jGp (v:SX) (st:Sx) (k:Bool→Sx→An):An:=match v with
 | .b x=>k x st
 | .bv t=>xge st (t.addc (-1)) k
 | _=>no1 15 st
def xT (c a b:SX) (st:Sx) (Q:K1):An:=jGp c st fun r st=>Q (bif r then a else b) st
def xBe (g:Bool) (x y:SX) (st:Sx) (Q:K1):An:=jGp x st fun a st=>jGp y st fun c st=>Q (.b (bif g then !(a==c) else a==c)) st
def sD (v k:LT):List TE→Option LT
 | []=>none
 | t::r=>match t with
  | .by_ c i b=>bif c.beq v&&i.beq k then some b else sD v k r
  | _=>sD v k r
def jQi (v k:Int):Int:=.ofNat (Nat.mod (Nat.div v.toNat (Nat.pow 256 k.toNat)) 256)
def xIx (x i:SX) (st:Sx) (Q:K1):An:=match x,i with
 | .s n v,.i _ k=>ask st k (ask st ((n.sub k).addc (-1)) (
   bif v.isC&&k.isC then Q (.i .u8 (.con (jQi v.c k.c))) st else
   match sD v k st.B with
   | some b=>Q (.i .u8 b) st
   | none=>jL (v.sc st.n&&k.sc st.n) 16 st [v,k] (fresh st fun b st=>Q (.i .u8 b) ((addFs st [b,b.neg.addc 255]).addB (.by_ v k b)))))
 | _,_=>no1 17 st
def qBy (x:SX) (st:Sx) (Q:LT→An):An:=match x with
 | .i _ k=>Q k
 | _=>no1 18 st
def mW (st:Sx) (x:Option X) (d:LT) (Q:LT→An):An:=match x with
 | some x=>xv st x fun v=>qBy v st Q
 | none=>Q d
def xLn (x:SX) (st:Sx) (Q:K1):An:=match x with
 | .s n _=>ask st n (Q (.i .i64 n) st)
 | _=>no1 20 st
def xMx (x y:SX) (st:Sx) (Q:K1):An:=match x,y with
 | .i k a,.i k' b=>jL (eqK k k') 12 st [] (xge st (b.sub a) fun r st=>Q (.i k (bif r then b else a)) st)
 | _,_=>no1 21 st
def xMn (x y:SX) (st:Sx) (Q:K1):An:=match x,y with
 | .i k a,.i k' b=>jL (eqK k k') 12 st [] (xge st (b.sub a) fun r st=>Q (.i k (bif r then a else b)) st)
 | _,_=>no1 22 st
def xCi (k:IntKind) (x:SX) (st:Sx) (Q:K1):An:=match x with
 | .i _ n=>sel st [jNv st (jIj k n) done,done] fun i=>match i with
  | 0=>jL (okK k) 6 st [] (Q (.i k n) st)
  | _=>jWj k st Q
 | _=>no1 23 st
def xEx (n:Nat) (x:SX) (st:Sx) (Q:K1):An:=match x with
 | .tup l=>(match zA l n with | some v=>Q v st | none=>no1 24 st)
 | _=>no1 25 st
mutual
def lC:SX→Bool
 | .b _=>true
 | .bv _=>true
 | .i _ _=>true
 | .s _ _=>true
 | .tup l=>eF l
 | _=>false
def eF:List SX→Bool
 | []=>true
 | x::l=>lC x&&eF l
end
def qLr:SX→Bool
 | .agg _=>false
 | .tup _=>false
 | _=>true
def fG:List SX→Bool
 | []=>true
 | v::r=>qLr v&&fG r
def yU:SX→List SX
 | .agg l=>l
 | v=>[v]
def hbX (H:List HX) (i:Nat) (g:Gn):Option HX:=match zA H i with
 | some hb=>bif hb.g.beq g then some hb else none
 | none=>none
def jWf (R:LT) (d:Option Nat):LT:=match d with
 | none=>.con 0
 | some d=>R.addc (0 - .ofNat d)
def SSi:Int:=22200
def TBi:Int:=4000000000
def xTy (R:LT) (t:TyX) (st:Sx) (Q:K1):An:=match t with
 | .i k=>fresh st fun v st=>Q (.i k v) st
 | .b=>fresh st fun v st=>Q (.bv v) (addFs st [v,v.neg.addc 1])
 | .s m=>fresh st fun n st=>fresh st fun c st=>Q (.s n c) (addFs st [n,n.neg.addc (SSi + .ofNat m)])
 | .t d=>ask st (R.addc (0 - .ofNat d)) (fresh st fun n st=>fresh st fun c st=>Q (.s n c) (addFs st [n,(R.addc (0 - .ofNat d)).sub n,n.neg.addc TBi]))
 | .q T d=>fresh st fun n st=>Q (.q T (jWf R d) n) (addFs st [n,n.neg.addc jDy])
def qFj (R:LT):List TyX→Sx→(List SX→Sx→An)→An
 | [],st,Q=>Q [] st
 | t::r,st,Q=>xTy R t st fun v st=>qFj R r st fun l st=>Q (v::l) st
def jFv:List (Nat×Option Nat)→Nat→LT→LT→List TE
 | [],_,_,_=>[]
 | p::l,off,m,c=>match p.2 with
  | none=>bif Nat.beq p.1 off then .ng (.con 2) c (.con 0) m::jFv l off m c else jFv l off m c
  | some _=>jFv l off m c
def rdR (r:List SX):List (Nat×Option Nat)→List TE
 | []=>[]
 | p::l=>match zA r p.1 with
  | some (.s m c)=>(match p.2 with
   | none=>.ng (.con 2) c (.con 0) m::rdR r l
   | some g=>(match zA r g with
    | some (.i _ t)=>.ng t c (.con 0) m::rdR r l
    | _=>rdR r l))
  | _=>rdR r l
def qEi (l:List (Nat×Option Nat)) (off:Nat) (n:Option Nat) (v:SX):List TE:=match n,v with
 | none,.s m c=>jFv l off m c
 | some _,.agg r=>bif Nat.beq off 0 then rdR r l else []
 | _,_=>[]
def jPw (st:Sx):List TE→Sx
 | []=>st
 | t::r=>(jPw st r).addB t
def jTw (R:LT) (l:List TyX) (off:Nat) (n:Option Nat) (st:Sx) (Q:K1):An:=match n with
 | none=>(match zA l off with | some t=>xTy R t st Q | none=>no1 26 st)
 | some n=>(match zL n (zI off l) with | some l=>qFj R l st fun l st=>Q (.agg l) st | none=>no1 27 st)
def xLd (P:PX) (n:Option Nat) (a:SX) (st:Sx) (Q:K1):An:=match a with
 | .tp i g off=>(match hbX st.H i g with
  | some hb=>(match hb.c with
   | .l l=>(match n with
    | none=>(match zA l off with | some v=>Q v st | none=>no1 28 st)
    | some n=>(match zL n (zI off l) with | some l=>Q (.agg l) st | none=>no1 29 st))
   | _=>no1 30 st)
  | none=>no1 31 st)
 | .te i g k off=>(match hbX st.H i g with
  | some hb=>(match hb.c with
   | .r T R _=>jTw R (P.ct T) off n st fun v st=>Q v (jPw st (qEi (P.rk T) off n v))
   | .rl T R m l=>ask st k (jL ((k.addc 1).beq m) 191 st [k,m] (match n with
    | none=>(match zA l off with | some v=>Q v st | none=>no1 192 st)
    | some n=>(match zL n (zI off l) with | some l=>Q (.agg l) st | none=>no1 193 st)))
   | _=>no1 32 st)
  | none=>no1 33 st)
 | .qp T R off=>jTw R (P.ct T) off n st fun v st=>Q v (jPw st (qEi (P.rk T) off n v))
 | .xs m c=>(match n with | none=>Q (.s m c) st | some _=>no1 34 st)
 | .fqs=>(match n with | none=>fresh st fun v st=>Q (.i .i64 v) st | some _=>no1 36 st)
 | _=>no1 35 st
def jWg:List TyX→Bool
 | [.s _]=>true
 | _=>false
def jTe:List TyX→Nat
 | [.s m]=>m
 | _=>0
def eS (j:Nat):List TE→Option (LT×LT)
 | []=>none
 | t::r=>match t with
  | .ln i n m=>bif Nat.beq i j then some (n,m) else eS j r
  | _=>eS j r
def jKw (st:Sx):List LT→An→An
 | [],k=>k
 | d::r,k=>match d.l with
  | []=>jL (!isZ d.c) 238 st [d] (jKw st r k)
  | _::_=>bif inN d st.N then jKw st r k else sel st [ask st (d.addc (-1)) done,ask st (d.neg.addc (-1)) done] fun _=>jKw st r k
def nlC (v:Int):Nat→Int→Bool
 | 0,_=>true
 | n+1,k => !isZ (jQi v k - 10)&&nlC v n (k+1)
def tN (st:Sx) (g c b:LT):Nat→LT→An→An
 | 0,_,_=>no1 260 st
 | f+1,a,k=>pop st (fun m=>m.ng st g c a b) fun x=>
  bif Nat.beq x 0 then ask st (a.sub b) k else
  bif Nat.beq x 1 then ask st (g.addc (-3)) k else
  bif Nat.beq x 2 then ask st (g.neg.addc 1) k else
  bif Nat.beq x 3 then jL (c.isC&&(a.isC&&(b.isC&&nlC c.c (b.c - a.c).toNat a.c))) 261 st [] k else
  match zA st.B (Nat.sub x 4) with
  | some (.ng g' c' a' m)=>jL (c.beq c'&&(g'.beq g||g'.beq (.con 2))) 262 st [] (ask st (a.sub a') (tN st g c b f m k))
  | some (.by_ c' i x)=>jL (c.beq c') 263 st [] (vP st a i (jKw st [x.addc (-10)] (tN st g c b f (a.addc 1) k)))
  | _=>no1 264 st
def xSs (x:SX) (lo hi:Option X) (st:Sx) (Q:K1):An:=match x with
 | .s n v=>ask st n (mW st lo (.con 0) fun a=>mW st hi n fun b=>ask st a (ask st (b.sub a) (ask st (n.sub b) (pop st (fun m=>m.sl st v a b) fun x=>bif Nat.beq x 0 then fresh st fun w st=>Q (.s (b.sub a) w) st else tN st (.con 2) v b 9 a (fresh st fun w st=>Q (.s (b.sub a) w) (st.addB (.ng (.con 2) w (.con 0) (b.sub a))))))))
 | _=>no1 19 st
def xRk (st:Sx) (r:List SX):List (Nat×Option Nat)→An→An
 | [],k=>k
 | p::l,k=>match zA r p.1 with
  | some (.s n c)=>(match p.2 with
   | none=>tN st (.con 2) c n 9 (.con 0) (xRk st r l k)
   | some g=>(match zA r g with
    | some (.i _ t)=>tN st t c n 9 (.con 0) (xRk st r l k)
    | _=>xRk st r l k))
  | _=>xRk st r l k
def sQ (st:Sx):List SX→An→An
 | [],k=>k
 | x::r,k=>match x with
  | .i _ t=>jKw st [t.addc (-2)] (sQ st r k)
  | .s n c=>tN st (.con 2) c n 9 (.con 0) (sQ st r k)
  | _=>sQ st r k
def qDo (P:PX) (st:Sx) (R:LT) (t:TyX) (v:SX) (k:An):An:=match t,v with
 | .i d,.i d' _=>jL (eqK d d') 210 st [] k
 | .b,.b _=>k
 | .b,.bv _=>k
 | .s m,.s n _=>ask st (n.neg.addc (SSi + .ofNat m)) k
 | .t d,.s n _=>ask st ((R.addc (0 - .ofNat d)).sub n) (ask st (n.neg.addc TBi) k)
 | .q _ _,.sl0=>k
 | .q T d,.q T' R' _=>jL (Nat.beq T T') 211 st [] (ask st ((jWf R d).sub R') k)
 | .q T d,.qs j=>jL (jWg (P.ct T) && !P.cp T) 212 st [] (match eS j st.B with | some (n,m)=>ask st (n.neg.addc jDy) (ask st (m.neg.addc (SSi + .ofNat (jTe (P.ct T)))) k) | none=>no1 213 st)
 | _,_=>no1 214 st
def jKq (P:PX) (st:Sx) (R:LT):List TyX→List SX→An→An
 | [],[],k=>k
 | t::r,v::l,k=>qDo P st R t v (jKq P st R r l k)
 | _,_,_=>no1 215 st
def jYi:TyX→Bool
 | .q _ _=>false
 | .t _=>false
 | .s m=>Nat.beq m 0
 | _=>true
def oF:List TyX→Bool
 | []=>true
 | t::r=>jYi t&&oF r
def jZj:List TyX→Bool
 | []=>true
 | .s _::_=>false
 | _::r=>jZj r
def jZo (ct:List TyX) (off:Nat) (l:List TyX):Bool:=jZj l||(match off,l with
 | k+1,[_]=>(match zA ct k with | some .b=>true | _=>false)
 | _,_=>false)
abbrev KH:=Sx→Tch→An
def xSt (P:PX) (n:Nat) (a x:SX) (st:Sx) (Q:KH):An:=jL (zD n (yU x)&&fG (yU x)) 36 st [] (match a with
 | .tp i g off=>(match hbX st.H i g with
  | some hb=>(match hb.c with
   | .l l=>(match zY off (yU x) l with | some l=>jL (scs st.n l) 37 st [] (Q (st.setH (jH st.H i ⟨hb.e,hb.g,.l l⟩)) ⟨false,[i]⟩) | none=>no1 38 st)
   | _=>no1 39 st)
  | none=>no1 40 st)
 | .te i g _ off=>(match hbX st.H i g with
  | some hb=>(match hb.c with
   | .r T _ _=>(match zL n (zI off (P.ct T)) with | some l=>jL (Nat.ble off (jP (P.ct T))) 41 st [] (jKq P st (.con 0) l (yU x) (sQ st (yU x) (Q st ⟨false,[i]⟩))) | none=>no1 42 st)
   | _=>no1 43 st)
  | none=>no1 44 st)
 | .qp T R off=>(match zL n (zI off (P.ct T)) with | some l=>jL (oF l&&(jZo (P.ct T) off l&&(!jWg (P.ct T)&&Nat.ble off (jP (P.ct T))))) 45 st [] (jKq P st R l (yU x) (sQ st (yU x) (Q st ⟨true,[]⟩))) | none=>no1 46 st)
 | _=>no1 47 st)
def xNc (x:SX) (st:Sx) (Q:K1):An:=match x with
 | .tp i g off=>(match hbX st.H i g with | some _=>Q (.tp i g off) st | none=>no1 48 st)
 | .te i g k off=>(match hbX st.H i g with
  | some hb=>(match hb.c with | .r _ _ _=>Q (.te i g k off) st | .rl _ _ _ _=>Q (.te i g k off) st | _=>no1 49 st)
  | none=>no1 50 st)
 | .qp T R off=>Q (.qp T R off) st
 | .f f a c=>Q (.f f a c) st
 | _=>no1 51 st
def xFa (off:Nat) (x:SX) (st:Sx) (Q:K1):An:=match x with
 | .tp i g o=>(match hbX st.H i g with | some _=>jY (Nat.add o off) fun o=>Q (.tp i g o) st | none=>no1 52 st)
 | .te i g k o=>(match hbX st.H i g with
  | some hb=>(match hb.c with | .r _ _ _=>jY (Nat.add o off) fun o=>Q (.te i g k o) st | .rl _ _ _ _=>jY (Nat.add o off) fun o=>Q (.te i g k o) st | _=>no1 53 st)
  | none=>no1 54 st)
 | .qp T R o=>jY (Nat.add o off) fun o=>Q (.qp T R o) st
 | .xs n c=>jL (Nat.beq off 0) 55 st [] (Q (.xs n c) st)
 | _=>no1 56 st
def jBs (j:Nat) (k:LT):List TE→Option (LT×LT)
 | []=>none
 | t::r=>match t with
  | .el i u n c=>bif Nat.beq i j&&u.beq k then some (n,c) else jBs j k r
  | _=>jBs j k r
def xIa (P:PX) (sz:Nat) (x y:SX) (st:Sx) (Q:K1):An:=qBy y st fun k=>match x with
 | .ts i g n sz'=>jL (Nat.beq sz sz') 57 st [] (ask st k (ask st ((n.sub k).addc (-1)) (match hbX st.H i g with
  | some hb=>(match hb.c with
   | .l _=>(match k.l with
    | []=>jY (Nat.mul k.c.toNat sz) fun o=>Q (.tp i g o) st
    | _::_=>pop st (fun m=>m.cst st.F k n) fun c=>ask st (k.addc (0 - .ofNat c)) (ask st (k.neg.addc (.ofNat c)) (jY (Nat.mul c sz) fun o=>Q (.tp i g o) st)))
   | .r T R _=>jL (Nat.beq sz (jP (P.ct T))) 59 st [] (Q (.te i g k 0) st)
   | .rl T R _ _=>jL (Nat.beq sz (jP (P.ct T))) 59 st [] (Q (.te i g k 0) st)
   | _=>no1 60 st)
  | none=>no1 61 st)))
 | .q T R n=>jL (Nat.beq sz (jP (P.ct T))) 62 st [] (ask st k (ask st ((n.sub k).addc (-1)) (bif P.cp T then zT st (R.addc (-1)) (Q (.qp T R 0)) else Q (.qp T R 0) st)))
 | .qs j=>jL (Nat.beq sz 1) 63 st [] (match eS j st.B with
  | some (n,m)=>ask st k (ask st ((n.sub k).addc (-1)) (match jBs j k st.B with
   | some (a,c)=>Q (.xs a c) st
   | none=>jL (Nat.blt j st.n&&(k.sc st.n&&m.sc st.n)) 64 st [k] (fresh st fun a st=>fresh st fun c st=>Q (.xs a c) ((addFs st [a,m.sub a,c]).addB (.el j k a c)))))
  | none=>no1 65 st)
 | .fis n=>jL (Nat.beq sz 1) 67 st [] (ask st k (ask st ((n.sub k).addc (-1)) (Q .fqs st)))
 | _=>no1 66 st
def uB (H:List HX) (i:Nat):List HX:=match zA H i with
 | some hb=>jH H i ⟨hb.e,hb.g.up,.dead⟩
 | none=>H
abbrev KO:=SX→Sx→Tch→An
def xSl (P:PX) (sz:Nat) (x:SX) (lo hi:Option X) (st:Sx) (Q:KO):An:=match x with
 | .sl0=>mW st lo (.con 0) fun a=>mW st hi (.con 0) fun b=>ask st a (ask st (b.sub a) (ask st b.neg (Q .sl0 st t0)))
 | .q T R n=>jL (Nat.beq sz (jP (P.ct T))) 67 st [] (ask st n (mW st lo (.con 0) fun a=>mW st hi n fun b=>ask st a (ask st (b.sub a) (ask st (n.sub b) (Q (.q T R (b.sub a)) st t0)))))
 | .qs j=>jL (Nat.beq sz 1) 68 st [] (match eS j st.B with
  | some (n,m)=>ask st n (mW st lo (.con 0) fun a=>mW st hi n fun b=>ask st a (ask st (b.sub a) (ask st (n.sub b) (jL (m.sc st.n&&(a.sc st.n&&b.sc st.n)) 69 st [] (fresh st fun j' st=>Q (.qs (Nat.pred st.n)) (st.addB (.ln (Nat.pred st.n) (b.sub a) m)) t0)))))
  | none=>no1 70 st)
 | .ts i g n sz'=>(match hbX st.H i g with
  | some hb=>(match hb.c with
   | .xs j=>jL (Nat.beq sz 1) 71 st [] (match eS j st.B with
    | some (n,m)=>ask st n (mW st lo (.con 0) fun a=>mW st hi n fun b=>ask st a (ask st (b.sub a) (ask st (n.sub b) (jL (m.sc st.n&&(a.sc st.n&&b.sc st.n)) 69 st [] (fresh st fun j' st=>Q (.qs (Nat.pred st.n)) ((st.addB (.ln (Nat.pred st.n) (b.sub a) m)).setH (uB st.H i)) ⟨true,[i]⟩)))))
    | none=>no1 72 st)
   | _=>no1 73 st)
  | none=>no1 74 st)
 | _=>no1 75 st
def xLm (x:SX) (st:Sx) (Q:K1):An:=match x with
 | .sl0=>Q (.i .i64 (.con 0)) st
 | .ts i g n _=>(match hbX st.H i g with
  | some hb=>(match hb.c with | .dead=>no1 76 st | _=>ask st n (Q (.i .i64 n) st))
  | none=>no1 77 st)
 | .q _ _ n=>ask st n (Q (.i .i64 n) st)
 | .qs j=>(match eS j st.B with | some (n,_)=>ask st n (Q (.i .i64 n) st) | none=>no1 78 st)
 | .fis n=>ask st n (Q (.i .i64 n) st)
 | _=>no1 79 st
def jEv (st:Sx):List (Nat×Nat×X)→List SX→(List SX→An)→An
 | [],z,Q=>Q z
 | (off,n,x)::r,z,Q=>xv st x fun v=>jL (zD n (yU v)&&fG (yU v)) 80 st [] (match zY off (yU v) z with | some z=>jEv st r z Q | none=>no1 81 st)
def jPr (st:Sx) (e:Nat) (c:HCX) (Q:Nat→Sx→Tch→An):An:=jL (c.sc st.n) 82 st [] (jY (jP st.H) fun i=>Q i (st.setH (st.H++[⟨e,g0,c⟩])) ⟨false,[i]⟩)
def rkC:TyX→SX→LT
 | .q _ (some _),.q _ R _=>R
 | .t _,.s n _=>n
 | _,_=>.con 0
def coX (P:PX) (T:Nat):Int:=bif P.cp T then 1 else 0
def jHt (P:PX) (st:Sx) (T:Nat):List TyX→List SX→(LT→An)→An
 | [],[],Q=>Q (.con 0)
 | t::ts,v::l,Q=>ask st (rkC t v) (qDo P st ((rkC t v).addc (coX P T)) t v (jHt P st T ts l fun R=>Q ((rkC t v).add R)))
 | _,_,_=>no1 216 st
def dV (P:PX) (st:Sx) (T:Nat):Nat→List SX→(LT→An)→An
 | 0,l,Q=>(match l with | []=>Q (.con 0) | _::_=>no1 216 st)
 | n+1,l,Q=>(match zL (jP (P.ct T)) l with | some r=>xRk st r (P.rk T) <| jHt P st T (P.ct T) r fun x=>dV P st T n (zI (jP (P.ct T)) l) fun R=>Q ((x.add R).addc (coX P T)) | none=>no1 217 st)
def jTc (P:PX) (T:Nat) (x:SX) (st:Sx) (Q:LT→LT→An):An:=match x with
 | .sl0=>Q (.con 0) (.con 0)
 | .q T' R' m=>jL (Nat.beq T T') 83 st [R'] (ask st R' (Q R' m))
 | .ts j g m sz=>jL (Nat.beq sz (jP (P.ct T))) 84 st [] (match hbX st.H j g with
  | some hb=>(match hb.c with
   | .l l=>(match m.l with | []=>dV P st T m.c.toNat l fun R=>Q R m | _::_=>no1 86 st)
   | _=>no1 87 st)
  | none=>no1 88 st)
 | _=>no1 89 st
def mR (st:Sx) (m:LT):List SX→An→An
 | [],k=>k
 | .s n _::r,k=>ask st n (ask st (m.sub n) (mR st m r k))
 | _::_,_=>no1 218 st
def jMv (P:PX) (m:LT) (x:SX) (st:Sx) (Q:LT→An):An:=match x with
 | .sl0=>Q (.con 0)
 | .qs j=>(match eS j st.B with | some (n,m')=>ask st (m.sub m') (Q n) | none=>no1 91 st)
 | .ts j g n sz=>jL (Nat.beq sz 1) 92 st [] (match hbX st.H j g with
  | some hb=>(match hb.c with
   | .l l=>(match n.l with | []=>jL (zD n.c.toNat l&&geZ n.c) 93 st [] (mR st m l (Q n)) | _::_=>no1 94 st)
   | _=>no1 95 st)
  | none=>no1 96 st)
 | _=>no1 97 st
def qAi (st:Sx) (x:SX) (Q:List SX→An):An:=match x with
 | .ts j g m sz=>jL (m.beq (.con 1)) 186 st [m] (match hbX st.H j g with
  | some hb=>(match hb.c with
   | .l l=>jL (zD sz l) 187 st [] (Q l)
   | _=>no1 188 st)
  | none=>no1 189 st)
 | _=>no1 190 st
def iD (st:Sx) (n:LT) (by_:Nat) (k:An):An:=ask st n (ask st ((n.smul (.ofNat by_)).neg.addc jWv) (ask st (n.neg.addc jWv) k))
def LM:LT:=.con 30000
def xAp (P:PX) (e sz by_:Nat) (s x:SX) (st:Sx) (Q:KO):An:=match s with
 | .sl0=>(match P.ak e with
  | some (.ty T r)=>jL (Nat.beq sz (jP (P.ct T))) 98 st [] (jTc P T x st fun R m=>iD st m by_ (jPr st e (.r T R m) fun i st t=>Q (.ts i g0 m sz) st t))
  | some .str=>jL (Nat.beq sz 1) 100 st [] (jMv P LM x st fun m=>iD st m by_ (jL (m.sc st.n) 101 st [m] (fresh st fun _ st=>jPr (st.addB (.ln (Nat.pred st.n) m LM)) e (.xs (Nat.pred st.n)) fun i st t=>Q (.ts i g0 m sz) st t)))
  | none=>no1 102 st)
 | .ts i g n sz'=>jL (Nat.beq sz sz') 103 st [] (match hbX st.H i g with
  | some hb=>jL (Nat.beq hb.e e) 104 st [] (match hb.c with
   | .r T R _=>jL (Nat.beq sz (jP (P.ct T))) 105 st [] (jTc P T x st fun R2 m=>ask st R (ask st n (ask st m (iD st (n.add m) by_ (jL ((R.add R2).sc st.n&&(n.add m).sc st.n) 106 st [n,m] (bif P.rl then qAi st x fun l=>jL (m.beq (.con 1)&&scs st.n l) 185 st [m] (Q (.ts i g.up (n.add m) sz) (st.setH (jH st.H i ⟨e,g.up,.rl T (R.add R2) (n.add m) l⟩)) ⟨false,[i]⟩)
     else Q (.ts i g.up (n.add m) sz) (st.setH (jH st.H i ⟨e,g.up,.r T (R.add R2) (n.add m)⟩)) ⟨false,[i]⟩))))))
   | .xs j=>jL (Nat.beq sz 1) 107 st [] (match eS j st.B with
    | some (n',m')=>jL (m'.sc st.n) 108 st [n,n'] (vP st n n' (jMv P m' x st fun m=>ask st n (ask st m (iD st (n.add m) by_ (jL ((n.add m).sc st.n) 109 st [n,m] (fresh st fun _ st=>Q (.ts i g.up (n.add m) sz) ((st.addB (.ln (Nat.pred st.n) (n.add m) m')).setH (jH st.H i ⟨e,g.up,.xs (Nat.pred st.n)⟩)) ⟨false,[i]⟩))))))
    | none=>no1 110 st)
   | .l l=>jL (Nat.beq sz 1) 178 st [] (mR st LM l (vP st n (.con (.ofNat (jP l))) (jMv P LM x st fun m=>ask st n (ask st (m.addc (-1)) (iD st (n.add m) by_ (jL ((n.add m).sc st.n) 179 st [n,m] (fresh st fun _ st=>Q (.ts i g.up (n.add m) sz) ((st.addB (.ln (Nat.pred st.n) (n.add m) LM)).setH (jH st.H i ⟨e,g.up,.xs (Nat.pred st.n)⟩)) ⟨false,[i]⟩)))))))
   | _=>no1 111 st)
  | none=>no1 112 st)
 | _=>no1 113 st
def qBt (P:PX) (T:Nat) (v:SX) (st:Sx) (Q:SX→List Nat→Sx→An):An:=match v with
 | .sl0=>Q (.q T (.con 0) (.con 0)) [] st
 | .q T' R n=>Q (.q T' R n) [] st
 | .ts i g n sz=>(match hbX st.H i g with
  | some hb=>(match hb.c with
   | .r T' R _=>ask st (n.neg.addc jDy) (Q (.q T' R n) [i] st)
   | .l l=>jL (Nat.beq sz (jP (P.ct T))&&n.isC) 114 st [] (dV P st T n.c.toNat l fun R=>ask st (n.neg.addc jDy) (jL (R.sc st.n) 115 st [R] (Q (.q T R n) [i] st)))
   | _=>no1 116 st)
  | none=>no1 117 st)
 | _=>no1 118 st
def qBv (v:SX) (st:Sx) (Q:SX→List Nat→Sx→An):An:=match v with
 | .sl0=>fresh st fun _ st=>Q (.qs (Nat.pred st.n)) [] (st.addB (.ln (Nat.pred st.n) (.con 0) (.con 0)))
 | .qs j=>Q (.qs j) [] st
 | .ts i g n sz=>(match hbX st.H i g with
  | some hb=>(match hb.c with
   | .xs j=>Q (.qs j) [i] st
   | _=>no1 119 st)
  | none=>no1 120 st)
 | _=>no1 121 st
mutual
def jJb (P:PX):AT→SX→Sx→(SX→List Nat→Sx→An)→An
 | .any,v,st,Q=>Q v [] st
 | .q T,v,st,Q=>qBt P T v st Q
 | .qs,v,st,Q=>qBv v st Q
 | .x _,_,st,_=>no1 265 st
 | .agg ts,.agg l,st,Q=>mU P ts l st fun l f st=>Q (.agg l) f st
 | .agg ts,.tup l,st,Q=>mU P ts l st fun l f st=>Q (.tup l) f st
 | .agg _,_,st,_=>no1 122 st
def mU (P:PX):List AT→List SX→Sx→(List SX→List Nat→Sx→An)→An
 | [],[],st,Q=>Q [] [] st
 | t::ts,v::l,st,Q=>jJb P t v st fun v f st=>mU P ts l st fun l f' st=>Q (v::l) (f++f') st
 | _,_,st,_=>no1 123 st
end
def vT (H:List HX):List Nat→List HX
 | []=>H
 | i::r=>vT (uB H i) r
mutual
def mH:SX→Nat
 | .tp i _ _=>Nat.succ i
 | .te i _ _ _=>Nat.succ i
 | .ts i _ _ _=>Nat.succ i
 | .f _ a c=>mx (dO a) (dO c)
 | .agg l=>dO l
 | .tup l=>dO l
 | _=>0
def dO:List SX→Nat
 | []=>0
 | x::l=>mx (mH x) (dO l)
end
def iQ:Nat→List HX→List HX
 | 0,_=>[]
 | _+1,[]=>[]
 | n+1,a::l=>a::iQ n l
def jRz (H:List HX):List Nat→Bool
 | []=>true
 | i::r=>(match zA H i with | some hb=>(match hb.c with | .l _=>false | .rl _ _ _ _=>false | _=>true) | none=>true)&&jRz H r
def bZ:List HX→Nat
 | []=>0
 | hb::r=>mx (match hb.c with | .l l=>dO l | .rl _ _ _ l=>dO l | _=>0) (bZ r)
def cnX:List AT→List SX→List SX
 | t::ts,v::l=>(match t,v with | .q T,.sl0=>.q T (.con 0) (.con 0) | _,v=>v)::cnX ts l
 | _,l=>l
def qBb (P:PX) (hb:HX):HX:=match hb.c with
 | .rl T r n _=>⟨hb.e,hb.g,.r T r n⟩
 | .l l=>(match P.bt hb.e with | some ts=>⟨hb.e,hb.g,.l (cnX ts l)⟩ | none=>hb)
 | _=>hb
def jNh (P:PX):List HX→List HX
 | []=>[]
 | hb::r=>qBb P hb::jNh P r
def jFb (H:List HX) (k:Nat):Nat:=mx k (bZ (iQ k H))
structure Sb where
 t:Nat→LT
 l:Nat→Nat
 g:Nat→Gn
def jLd (s:Sb):List (Nat×Int)→LT
 | []=>⟨0,[]⟩
 | p::r=>((s.t p.1).smul p.2).add (jLd s r)
def LT.inst (s:Sb) (t:LT):LT:=(jLd s t.l).addc t.c
def Gn.inst (s:Sb) (g:Gn):Gn:=match g.v with
 | 0=>g
 | j+1=>⟨(s.g j).v,Nat.add (s.g j).o g.o⟩
mutual
def SX.inst (s:Sb):SX→SX
 | .b x=>.b x
 | .bv t=>.bv (t.inst s)
 | .i k t=>.i k (t.inst s)
 | .s n c=>.s (n.inst s) (c.inst s)
 | .p0=>.p0
 | .sl0=>.sl0
 | .tp i g o=>.tp i (g.inst s) o
 | .te i g k o=>.te i (g.inst s) (k.inst s) o
 | .ts i g n z=>.ts i (g.inst s) (n.inst s) z
 | .q T r n=>.q T (r.inst s) (n.inst s)
 | .qp T r o=>.qp T (r.inst s) o
 | .qs j=>.qs (s.l j)
 | .xs n c=>.xs (n.inst s) (c.inst s)
 | .f fn a c=>.f fn (mA s a) (mA s c)
 | .agg l=>.agg (mA s l)
 | .tup l=>.tup (mA s l)
 | .fis n=>.fis (n.inst s)
 | .fqs=>.fqs
def mA (s:Sb):List SX→List SX
 | []=>[]
 | x::l=>x.inst s::mA s l
end
def HCX.inst (s:Sb):HCX→HCX
 | .l m=>.l (mA s m)
 | .r T R n=>.r T (R.inst s) (n.inst s)
 | .xs j=>.xs (s.l j)
 | .rl T R n m=>.rl T (R.inst s) (n.inst s) (mA s m)
 | .dead=>.dead
def kU (s:Sb):List HX→List HX
 | []=>[]
 | h::r=>⟨h.e,h.g.inst s,h.c.inst s⟩::kU s r
def vB (s:Sb):List LT→List LT
 | []=>[]
 | t::r=>t.inst s::vB s r
def TE.inst (s:Sb):TE→TE
 | .by_ c t r=>.by_ (c.inst s) (t.inst s) (r.inst s)
 | .el j t n c=>.el (s.l j) (t.inst s) (n.inst s) (c.inst s)
 | .ln j n m=>.ln (s.l j) (n.inst s) (m.inst s)
 | .ca f a r=>.ca f (mA s a) (r.inst s)
 | .dv a b q=>.dv (a.inst s) b (q.inst s)
 | .ng g c a b=>.ng (g.inst s) (c.inst s) (a.inst s) (b.inst s)
def dN (s:Sb):List TE→List TE
 | []=>[]
 | t::r=>t.inst s::dN s r
def lF (s:Sb):EX→EX
 | []=>[]
 | p::r=>(p.1,p.2.inst s)::lF s r
structure Bv where
 t:LT
 l:Nat
 g:Gn
abbrev Bd:=List (Nat×Bv)
def lkB:Bd→Nat→Option Bv
 | [],_=>none
 | p::r,v=>bif Nat.beq p.1 v then some p.2 else lkB r v
def bLT (lo hi:Nat) (p t:LT) (σ:Bd):Bd:=match p.l with
 | [q]=>bif Nat.ble lo q.1&&(Nat.blt q.1 hi&&eqI q.2 1) then (match lkB σ q.1 with | some _=>σ | none=>(q.1,⟨t.addc (0 - p.c),0,g0⟩)::σ) else σ
 | _=>σ
def bL (lo hi:Nat) (j j':Nat) (σ:Bd):Bd:=bif Nat.ble lo j&&Nat.blt j hi then (match lkB σ j with | some _=>σ | none=>(j,⟨.con 0,j',g0⟩)::σ) else σ
def bG (lo hi:Nat) (p g:Gn) (σ:Bd):Bd:=match p.v with
 | 0=>σ
 | j+1=>bif Nat.ble lo j&&Nat.blt j hi then (match lkB σ j with | some _=>σ | none=>(j,⟨.con 0,0,⟨g.v,Nat.sub g.o p.o⟩⟩)::σ) else σ
mutual
def bX (lo hi:Nat):SX→SX→Bd→Bd
 | .bv p,.b x,σ=>bLT lo hi p (.con (bif x then 1 else 0)) σ
 | .bv p,.bv t,σ=>bLT lo hi p t σ
 | .i _ p,.i _ t,σ=>bLT lo hi p t σ
 | .s n c,.s m d,σ=>bLT lo hi c d (bLT lo hi n m σ)
 | .tp _ g _,.tp _ g' _,σ=>bG lo hi g g' σ
 | .te _ g k _,.te _ g' k' _,σ=>bG lo hi g g' (bLT lo hi k k' σ)
 | .ts _ g k _,.ts _ g' k' _,σ=>bG lo hi g g' (bLT lo hi k k' σ)
 | .q _ r n,.q _ r' n',σ=>bLT lo hi n n' (bLT lo hi r r' σ)
 | .qp _ r _,.qp _ r' _,σ=>bLT lo hi r r' σ
 | .qs j,.qs j',σ=>bL lo hi j j' σ
 | .xs n c,.xs m d,σ=>bLT lo hi c d (bLT lo hi n m σ)
 | .f _ a c,.f _ a' c',σ=>bXs lo hi c c' (bXs lo hi a a' σ)
 | .agg l,.agg m,σ=>bXs lo hi l m σ
 | .tup l,.tup m,σ=>bXs lo hi l m σ
 | .fis n,.fis m,σ=>bLT lo hi n m σ
 | _,_,σ=>σ
def bXs (lo hi:Nat):List SX→List SX→Bd→Bd
 | [],_,σ=>σ
 | _::_,[],σ=>σ
 | x::l,y::m,σ=>bXs lo hi l m (bX lo hi x y σ)
end
def bC (lo hi:Nat) (x y:HCX) (σ:Bd):Bd:=match x,y with
 | .l l,.l m=>bXs lo hi l m σ
 | .r _ r n,.r _ r' n'=>bLT lo hi n n' (bLT lo hi r r' σ)
 | .xs j,.xs j'=>bL lo hi j j' σ
 | _,_=>σ
def bH (lo hi:Nat):List HX→List HX→Bd→Bd
 | [],_,σ=>σ
 | _::_,[],σ=>σ
 | x::l,y::m,σ=>bH lo hi l m (bG lo hi x.g y.g (bC lo hi x.c y.c σ))
def bTE (lo hi:Nat) (p t:TE) (σ:Bd):Bd:=match p,t with
 | .by_ _ _ b,.by_ _ _ b'=>bLT lo hi b b' σ
 | .el _ _ n c,.el _ _ n' c'=>bLT lo hi c c' (bLT lo hi n n' σ)
 | .ln _ n m,.ln _ n' m'=>bLT lo hi m m' (bLT lo hi n n' σ)
 | .ca _ _ v,.ca _ _ v'=>bX lo hi v v' σ
 | _,_=>σ
def jJu (lo hi:Nat) (s:Bd→Sb) (st:Sx):List TE→Bd→(Bd→An)→An
 | [],σ,k=>k σ
 | p::r,σ,k=>pop st (fun m=>m.te st (p.inst (s σ))) fun c=>match c with
  | 0=>jJu lo hi s st r σ k
  | c+1=>(match zA st.B c with
   | some t=>jJu lo hi s st r (bTE lo hi p t σ) k
   | none=>jJu lo hi s st r σ k)
mutual
def eqv (st:Sx):SX→SX→An→An
 | .b x,.b y,k=>jL (bif x then y else !y) 220 st [] k
 | .bv s,.bv t,k=>vP st s t k
 | .bv s,.b y,k=>(match s.l with | []=>jL (bif y then geZ (s.c - 1) else geZ (0 - s.c)) 221 st [] k | _::_=>no1 222 st)
 | .i d s,.i d' t,k=>jL (eqK d d') 223 st [] (vP st s t k)
 | .s n c,.s m d,k=>vP st n m (vP st c d k)
 | .p0,.p0,k=>k
 | .sl0,.sl0,k=>k
 | .tp i g o,.tp i' g' o',k=>jL (Nat.beq i i'&&(g.beq g'&&Nat.beq o o')) 224 st [] k
 | .te i g j o,.te i' g' j' o',k=>jL (Nat.beq i i'&&(g.beq g'&&Nat.beq o o')) 225 st [] (vP st j j' k)
 | .ts i g j o,.ts i' g' j' o',k=>jL (Nat.beq i i'&&(g.beq g'&&Nat.beq o o')) 226 st [] (vP st j j' k)
 | .q T r n,.q T' r' n',k=>jL (Nat.beq T T') 227 st [] (vP st r r' (vP st n n' k))
 | .qp T r o,.qp T' r' o',k=>jL (Nat.beq T T'&&Nat.beq o o') 228 st [] (vP st r r' k)
 | .qs j,.qs j',k=>jL (Nat.beq j j') 229 st [] k
 | .xs n c,.xs m d,k=>vP st n m (vP st c d k)
 | .f g a c,.f g' a' c',k=>jL (Nat.beq g g') 230 st [] (jEa st a a' (jEa st c c' k))
 | .agg l,.agg m,k=>jEa st l m k
 | .tup l,.tup m,k=>jEa st l m k
 | .fis n,.fis m,k=>vP st n m k
 | .fqs,.fqs,k=>k
 | _,_,_=>no1 231 st
def jEa (st:Sx):List SX→List SX→An→An
 | [],[],k=>k
 | x::l,y::m,k=>eqv st x y (jEa st l m k)
 | _,_,_=>no1 232 st
end
def eqC (st:Sx):HCX→HCX→An→An
 | .l l,.l m,k=>jEa st l m k
 | .r T r n,.r T' r' n',k=>jL (Nat.beq T T') 233 st [] (vP st r r' (vP st n n' k))
 | .xs j,.xs j',k=>jL (Nat.beq j j') 234 st [] k
 | .dead,.dead,k=>k
 | _,_,_=>no1 235 st
def eqH (st:Sx):List HX→List HX→An→An
 | [],[],k=>k
 | x::l,y::m,k=>jL (Nat.beq x.e y.e&&x.g.beq y.g) 236 st [] (eqC st x.c y.c (eqH st l m k))
 | _,_,_=>no1 237 st
def jRi (st:Sx) (p t:TE):An:=match p,t with
 | .by_ c i b,.by_ c' i' b'=>jL (c.beq c') 239 st [] (vP st i i' (vP st b b' done))
 | .el j i n c,.el j' i' n' c'=>jL (Nat.beq j j') 240 st [] (vP st i i' (vP st n n' (vP st c c' done)))
 | .ln j n m,.ln j' n' m'=>jL (Nat.beq j j') 241 st [] (vP st n n' (ask st (m.sub m') done))
 | .ca f a v,.ca f' a' v'=>jL (Nat.beq f f') 242 st [] (jEa st a a' (eqv st v v' done))
 | _,_=>no1 243 st
def eI (st:Sx) (p:TE):List TE→List An
 | []=>[]
 | t::r=>jRi st p t::eI st p r
def hasB (st:Sx):List TE→An→An
 | [],k=>k
 | p::r,k=>match p with
  | .ng g c a b=>tN st g c b 9 a (hasB st r k)
  | p=>sel st (eI st p st.B) fun _=>hasB st r k
def pX (st:Sx) (F N:List LT) (B:List TE) (k:An):An:=jNv st F (jKw st N (hasB st B k))
def jQd:List LT→Sx→(Sx→An)→An
 | [],st,k=>k st
 | t::r,st,k=>zT st t fun st=>jQd r st k
def jQf:List LT→Sx→(Sx→An)→An
 | [],st,k=>k st
 | t::r,st,k=>qCy st t fun st=>jQf r st k
def jWq (st:Sx):List TE→Sx
 | []=>st
 | t::r=>(jWq st r).addB t
def eU (f:Nat) (l:List SX):List TE→Option SX
 | []=>none
 | t::r=>match t with
  | .ca g a v=>bif Nat.beq g f&&jDx a l then some v else eU f l r
  | _=>eU f l r
def jJc (v w:SX) (st:Sx) (k:Sx→An):An:=match v,w with
 | .i _ a,.i _ b=>zT st (a.sub b) fun st=>zT st (b.sub a) k
 | .b x,.b y=>bif (bif x then y else !y) then k st else done
 | .bv a,.bv b=>k st
 | .bv a,.b y=>bif y then zT st (a.addc (-1)) k else zT st a.neg k
 | .b y,.bv a=>bif y then zT st (a.addc (-1)) k else zT st a.neg k
 | _,_=>k st
def jJd:List SX→List SX→Sx→(Sx→An)→An
 | [],_,st,k=>k st
 | _::_,[],st,k=>k st
 | x::l,y::m,st,k=>jJc x y st fun st=>jJd l m st k
def qCb (v w:SX) (st:Sx) (k:Sx→An):An:=match v,w with
 | .tup l,.tup m=>jJd l m st k
 | v,w=>jJc v w st k
def qCx (t:TE) (st:Sx) (k:Sx→An):An:=match t with
 | .by_ c i r=>(match sD c i st.B with
  | some r'=>zT st (r.sub r') fun st=>zT st (r'.sub r) k
  | none=>k (st.addB t))
 | .ca f a v=>(match eU f a st.B with
  | some v'=>qCb v' v st k
  | none=>k (st.addB t))
 | t=>k (st.addB t)
def jQc:List TE→Sx→(Sx→An)→An
 | [],st,k=>k st
 | t::r,st,k=>jL (t.sc st.n) 124 st [] (qCx t st fun st=>jQc r st k)
def jNw (F N:List LT) (B:List TE) (st:Sx) (k:Sx→An):An:=jQc B st fun st=>jQd F st fun st=>jQf N st k
def qIe (np n0:Nat) (s:Sb):Sb:=⟨fun v=>bif Nat.blt v np then s.t v else .var (Nat.add n0 (Nat.sub v np)),fun v=>bif Nat.blt v np then s.l v else Nat.add n0 (Nat.sub v np),fun v=>bif Nat.blt v np then s.g v else ⟨Nat.succ (Nat.add n0 (Nat.sub v np)),0⟩⟩
def resolve (np:Nat) (s:Sb) (B:List TE):List TE→List (Nat×LT)
 | []=>[]
 | t::r=>match t with
  | .by_ c i b=>(match b.l with
   | [q]=>bif Nat.ble np q.1&&(eqI q.2 1&&isZ b.c) then (match sD (c.inst s) (i.inst s) B with | some x=>(q.1,x)::resolve np s B r | none=>resolve np s B r) else resolve np s B r
   | _=>resolve np s B r)
  | _=>resolve np s B r
def lkT:List (Nat×LT)→Nat→LT→LT
 | [],_,d=>d
 | p::r,v,d=>bif Nat.beq p.1 v then p.2 else lkT r v d
def qMf (rs:List (Nat×LT)) (s:Sb):Sb:=⟨fun v=>lkT rs v (s.t v),s.l,s.g⟩
def jTu (np:Nat) (s:Sb) (st:Sx) (p:bF) (k:SX→List HX→Sx→An):An:=
 jY (Nat.add st.n p.k) fun m=>match qMf (resolve np (qIe np st.n s) st.B p.B) (qIe np st.n s) with
 | s'=>jNw (vB s' p.F) (vB s' p.N) (dN s' p.B) (st.up m) fun st=>k (p.r.inst s') (kU s' p.H) st
def jPs (np:Nat) (s:Sb) (st:Sx):List bF→(SX→List HX→Sx→An)→An
 | [],_=>done
 | p::r,k=>sZ (jTu np s st p k) (jPs np s st r k)
def bvT (b:Option Bv):LT:=match b with | some b=>b.t | none=>.con 0
def bvL (b:Option Bv):Nat:=match b with | some b=>b.l | none=>0
def bvG (b:Option Bv):Gn:=match b with | some b=>b.g | none=>g0
def qMe (σ:Bd):Sb:=⟨fun v=>bvT (lkB σ v),fun v=>bvL (lkB σ v),fun v=>bvG (lkB σ v)⟩
def jGi (s:Sb) (n:Nat):Nat→Bool
 | 0=>true
 | v+1=>(s.t v).sc n&&(Nat.blt (s.l v) n&&((s.g v).sc n&&jGi s n v))
def qKo (ct:CtX) (l:List SX) (H:List HX) (st:Sx) (k:Sb→An):An:=jJu 0 ct.np qMe st ct.B (bH 0 ct.np ct.H H (bXs 0 ct.np ct.args l [])) fun σ=>k (qMe σ)
def qBi (cur:LT) (f:Nat) (l:List SX) (H:List HX) (st:Sx) (k:CtX→Sb→An) (ct:CtX):An:=
 qKo ct l H st fun s=>jL (jGi s st.n ct.np) 253 st [] (jEa st (mA s ct.args) l (eqH st (kU s ct.H) H (ask st ((cur.addc (-1)).sub (ct.dep.inst s)) (pX st (vB s ct.F) (vB s ct.N) (dN s ct.B) (k ct s)))))
def jXm (cur:LT) (f:Nat) (l:List SX) (H:List HX) (st:Sx):List CtX→List An
 | []=>[]
 | ct::r=>qBi cur f l H st (fun _ _=>done) ct::jXm cur f l H st r
def qFg (cur:LT) (f:Nat) (l:List SX) (H:List HX) (st:Sx) (k:CtX→Sb→An) (cts:List CtX):An:=match cts with
 | [ct]=>qBi cur f l H st k ct
 | cts=>sel ((st.setE [(0,.i .i64 (.con (.ofNat f))),(1,.tup l)]).setH H) (jXm cur f l H st cts) fun i=>match zA cts i with
  | some ct=>qBi cur f l H st k ct
  | none=>no1 247 st
def xCt (P:PX) (cur:LT) (f:Nat) (l:List SX) (H:List HX) (st:Sx) (k:SX→List HX→Sx→An):An:=qFg cur f l H st (fun ct s=>jPs ct.np s st ct.posts k) (P.cs f)
def jNk (P:PX) (cur:LT) (f:Nat) (l:List SX) (fr:List Nat) (st:Sx) (Q:KO):Nat→An
 | 0=>xCt P cur f l [] st fun v _ st=>bif lC v&&jRz st.H fr then Q v st ⟨true,fr⟩ else Q v (st.setH (vT st.H fr)) ⟨true,fr⟩
 | k+1=>jL (Nat.ble (dO l) (k+1)&&(Nat.ble (bZ (iQ (k+1) (vT st.H fr))) (k+1)&&Nat.ble (k+1) (jP st.H))) 129 st [] (xCt P cur f l (iQ (k+1) (vT st.H fr)) st fun v H' st=>jL (scH st.n H') 130 st [] (Q v (st.setH (H'++zI (k+1) (vT st.H fr))) ⟨true,jPo (k+1)++fr⟩))
def mxS (a:Int):List SX→LT
 | []=>.con a
 | .s n _::r=>bif n.isC then mxS (bif geZ (n.c - a) then n.c else a) r else LM
 | _::_=>LM
def jHl (j k:Nat):List SX→List TE
 | .s n c::r=>.el j (.con (.ofNat k)) n c::jHl j (Nat.succ k) r
 | _=>[]
def jYz (st:Sx) (l:List SX) (n:LT) (Q:Nat→Sx→An):An:=jL (scs st.n l&&(mxS 0 l).sc st.n) 262 st [] (mR st (mxS 0 l) l (vP st n (.con (.ofNat (jP l))) (fresh st fun _ st=>Q (Nat.pred st.n) (jWq st (jHl (Nat.pred st.n) 0 l++[.ln (Nat.pred st.n) (.con (.ofNat (jP l))) (mxS 0 l)])))))
def qHg (v:SX) (st:Sx) (Q:SX→Sx→An):An:=match v with
 | .ts i g n sz=>(match zA st.H i with
  | some hb=>(match hb.c with
   | .l l=>jL (hb.g.beq g&&Nat.beq sz 1) 264 st [] (jYz st l n fun j st=>Q (.ts i g.up n 1) (st.setH (jH st.H i ⟨hb.e,g.up,.xs j⟩)))
   | _=>Q v st)
  | none=>Q v st)
 | _=>Q v st
def jNo:List AT→List SX→Sx→(List SX→Sx→An)→An
 | t::ts,v::l,st,Q=>bif xM t then qHg v st fun v st=>jNo ts l st fun l st=>Q (v::l) st else jNo ts l st fun l st=>Q (v::l) st
 | _,l,st,Q=>Q l st
def xCf (P:PX) (cur:LT) (f:Nat) (l:List SX) (st:Sx) (Q:KO):An:=match st.setH (jNh P st.H) with
 | st =>   jNo (P.sg f).1 l st fun l st=>mU P (P.sg f).1 l st fun l fr st=>jNk P cur f l fr st Q (jFb st.H (jFb st.H (dO l)))
def nM:List bF→Bool
 | []=>true
 | p::r=>lC p.r&&nM r
def xCp (P:PX) (cur:LT) (f:Nat) (l:List SX) (st:Sx) (Q:KO):An:=jL (eF l&&scs st.n l) 131 st [] (bif P.rf then xCt P cur f l [] st fun v _ st=>jL (lC v&&v.sc st.n) 132 st [] (qCx (.ca f l v) st fun st=>Q v st t0) else match eU f l st.B with
 | some v=>qFg cur f l [] st (fun ct _=>jL (nM ct.posts) 132 st [] (Q v st t0)) (P.cs f)
 | none=>xCt P cur f l [] st fun v _ st=>jL (lC v&&v.sc st.n) 132 st [] (Q v (st.addB (.ca f l v)) t0))
mutual
def jLm:SX→Bool
 | .b _=>true
 | .bv _=>true
 | .i _ _=>true
 | .s _ _=>true
 | .p0=>true
 | .sl0=>true
 | .agg l=>jBz l
 | .tup l=>jBz l
 | _=>false
def jBz:List SX→Bool
 | []=>true
 | x::l=>jLm x&&jBz l
end
def xCq (P:PX) (cur:LT) (f:Nat) (l:List SX) (st:Sx) (Q:KO):An:=
 jL (eF l) 133 st [] (xCt P cur f l [] st fun v _ st=>jL (jLm v) 134 st [] (Q v st t0))
def jHd (st:Sx):List SX→An→An
 | [],k=>k
 | .i .u8 t::l,k=>ask st t (ask st (t.neg.addc 255) (jHd st l k))
 | _::_,_=>no1 248 st
def xBt (x:SX) (st:Sx) (Q:K1):An:=match x with
 | .ts i g n sz=>jL (Nat.beq sz 1) 135 st [] (match hbX st.H i g with
  | some hb=>(match hb.c with
   | .l l=>jHd st l (fresh st fun w st=>Q (.s n w) st)
   | _=>no1 137 st)
  | none=>no1 138 st)
 | _=>no1 139 st
def xCv (P:PX) (cur:LT) (x:SX) (l:List SX) (st:Sx) (Q:KO):An:=match x with
 | .f fn a c=>xCf P cur fn (a++l++c) st Q
 | _=>no1 140 st
def jVc (Q:KO):KO:=fun v st t=>match v with
 | .ts i g n sz=>(match hbX st.H i g with
  | some hb=>(match hb.c with
   | .r T R _=>ask st (n.neg.addc jDy) (jL (R.sc st.n&&n.sc st.n) 194 st [] (Q (.q T R n) (st.setH (uB st.H i)) ⟨true,i::t.l⟩))
   | .xs j=>jL (Nat.blt j st.n) 195 st [] (Q (.qs j) (st.setH (uB st.H i)) ⟨true,i::t.l⟩)
   | .l l=>jL (Nat.beq sz 1) 263 st [] (jYz st l n fun j st=>Q (.qs j) (st.setH (uB (jH st.H i ⟨hb.e,g.up,.xs j⟩) i)) ⟨true,i::t.l⟩)
   | _=>no1 196 st)
  | none=>no1 197 st)
 | _=>no1 198 st
def rvX (P:PX) (i:Nat) (st:Sx) (Q:KO):An:=match zA st.H i with
 | some hb=>(match hb.c,P.ak hb.e with
  | .dead,some (.ty T r)=>Q (.ts i hb.g.up (.con 0) (jP (P.ct T))) (st.setH (jH st.H i ⟨hb.e,hb.g.up,.r T (.con (.ofNat r)) (.con 0)⟩)) ⟨false,[i]⟩
  | .dead,some .str=>fresh st fun _ st=>Q (.ts i hb.g.up (.con 0) 1) ((st.addB (.ln (Nat.pred st.n) (.con 0) (.con 1000000000))).setH (jH st.H i ⟨hb.e,hb.g.up,.xs (Nat.pred st.n)⟩)) ⟨false,[i]⟩
  | _,_=>no1 260 st)
 | none=>no1 261 st
def qHd (H:List HX) (i:Nat):Bool:=match zA H i with
 | some hb=>(match hb.c with | .dead=>true | _=>false)
 | none=>false
def xMv (P:PX) (v:SX) (st:Sx) (Q:KO):An:=match P.fz,v,P.rv with
 | true,_,_=>jVc Q v st t0
 | false,.sl0,i+1=>bif qHd st.H i then rvX P i st Q else Q v st t0
 | _,_,_=>Q v st t0
def xO (P:PX) (cur:LT) (c:Ev.C) (st:Sx) (Q:KO):An:=match c with
 | .mv x=>xv st x fun v=>xMv P v st Q
 | .id1 x=>xv st x fun v=>Q v st t0
 | .pick c a b=>xv st c fun c=>xv st a fun a=>xv st b fun b=>xT c a b st fun v st=>Q v st t0
 | .bi o x y=>xv st x fun x=>xv st y fun y=>xBi o x y st fun v st=>Q v st t0
 | .un o x=>xv st x fun x=>xUn o x st fun v st=>Q v st t0
 | .ci k x=>xv st x fun x=>xCi k x st fun v st=>Q v st t0
 | .ix x i=>xv st x fun x=>xv st i fun i=>xIx x i st fun v st=>Q v st t0
 | .ss x lo hi=>xv st x fun x=>xSs x lo hi st fun v st=>Q v st t0
 | .ln x=>xv st x fun x=>xLn x st fun v st=>Q v st t0
 | .lm x=>xv st x fun x=>xLm x st fun v st=>Q v st t0
 | .mx x y=>xv st x fun x=>xv st y fun y=>xMx x y st fun v st=>Q v st t0
 | .mn x y=>xv st x fun x=>xv st y fun y=>xMn x y st fun v st=>Q v st t0
 | .ex n x=>xv st x fun x=>xEx n x st fun v st=>Q v st t0
 | .al e z=>jL (kW z&&jN z) 141 st [] (jPr st e (.l (iB z)) fun i st t=>Q (.tp i g0 0) st t)
 | .bx e x=>xv st x fun v=>jL (fG (yU v)) 142 st [] (jPr st e (.l (yU v)) fun i st t=>Q (.tp i g0 0) st t)
 | .bd z ps=>jL (kW z) 143 st [] (jEv st ps (iB z) fun l=>Q (.agg l) st t0)
 | .bs e sz z len ps=>jL (kW z&&(jN z&&(zD (Nat.mul len sz) z&&Nat.blt 0 len))) 144 st [] (jEv st ps (iB z) fun l=>jPr st e (.l l) fun i st t=>bif P.fz then jVc Q (.ts i g0 (.con (.ofNat len)) sz) st t else Q (.ts i g0 (.con (.ofNat len)) sz) st t)
 | .ld n a=>xv st a fun a=>xLd P n a st fun v st=>Q v st t0
 | .st n a x=>xv st a fun a=>xv st x fun x=>xSt P n a x st fun st t=>Q iR st t
 | .nc x=>xv st x fun x=>xNc x st fun v st=>Q v st t0
 | .fa off x=>xv st x fun x=>xFa off x st fun v st=>Q v st t0
 | .ia sz x i=>xv st x fun x=>xv st i fun i=>xIa P sz x i st fun v st=>Q v st t0
 | .sl sz x lo hi=>xv st x fun x=>xSl P sz x lo hi st Q
 | .ap e sz by_ s x=>xv st s fun s=>xv st x fun x=>xAp P e sz by_ s x st (bif P.fz then jVc Q else Q)
 | .mf f a c=>xvs st a fun a=>xvs st c fun c=>Q (.f f a c) st t0
 | .cf f xs=>xvs st xs fun l=>xCf P cur f l st Q
 | .cp f xs=>xvs st xs fun l=>xCp P cur f l st Q
 | .cv x xs=>xv st x fun x=>xvs st xs fun l=>xCv P cur x l st Q
 | .cq f xs=>xvs st xs fun l=>xCq P cur f l st Q
 | .bt x=>xv st x fun x=>xBt x st fun v st=>Q v st t0
 | .be g x y=>xv st x fun x=>xv st y fun y=>xBe g x y st fun v st=>Q v st t0
 | _=>no1 145 st
def jGf (E:EX) (v:Nat):LT:=bif Nat.blt v 300000 then (match yK E (Nat.sub v 200000) with | some (.i _ t)=>t | some (.bv t)=>t | some (.b x)=>.con (bif x then 1 else 0) | _=>.con 0)
 else bif Nat.blt v 400000 then (match yK E (Nat.sub v 300000) with | some (.s n _)=>n | some (.ts _ _ n _)=>n | some (.q _ _ n)=>n | _=>.con 0)
 else bif Nat.blt v 500000 then (match yK E (Nat.sub v 400000) with | some (.s _ c)=>c | _=>.con 0)
 else bif Nat.blt v 1000000 then (match yK E (Nat.sub v 600000) with | some (.q _ r _)=>r | _=>.con 0)
 else .con (.ofNat (Nat.sub v 1000000))
def jGe (E:EX) (v:Nat):Nat:=match yK E (Nat.sub v 500000) with | some (.qs j)=>j | _=>0
def jGd (E:EX) (v:Nat):Gn:=match yK E (Nat.sub v 700000) with | some (.tp _ g _)=>g | some (.te _ g _ _)=>g | some (.ts _ g _ _)=>g | _=>g0
def pK (n0:Nat) (E:EX) (σ:Bd):Sb:=⟨fun v=>bif Nat.blt v n0 then .var v else bif Nat.blt v 100000 then .con 0 else bif Nat.blt v 200000 then bvT (lkB σ v) else jGf E v,
 fun v=>bif Nat.blt v n0 then v else bif Nat.blt v 100000 then 0 else bif Nat.blt v 200000 then bvL (lkB σ v) else jGe E v,
 fun v=>bif Nat.blt v n0 then ⟨Nat.succ v,0⟩ else bif Nat.blt v 100000 then g0 else bif Nat.blt v 200000 then bvG (lkB σ v) else jGd E v⟩
def iO:List LT→Sx→(Sx→An)→An
 | [],st,k=>k st
 | t::r,st,k=>xge st (t.inst (pK st.n st.E [])) fun _ st=>iO r st k
def jOo (st:Sx) (k:Sx→An):Nat→An
 | 0=>k st
 | n+1=>pop st (fun m=>m.mg st) fun c=>match c with
  | 0=>k st
  | c+1=>(match zA st.B (Nat.mod c 1024),zA st.B (Nat.div c 1024) with
   | some (.by_ c i b),some (.by_ c' i' b')=>jL (c.beq c') 244 st [] (vP st i i' (zT st (b.sub b') fun st=>zT st (b'.sub b) fun st=>k st))
   | _,_=>no1 245 st)
def jXn (st:Sx) (k:Sx→An):An:=pop st (fun m=>m.dn st) fun c=>match c with
 | 0=>k st
 | c+1=>(match zA st.N c with
  | some d=>ask st d (ask st d.neg done)
  | none=>no1 246 st)
def qLg (h:Option (List LT)) (st:Sx) (k:Sx→An):An:=match h with
 | none=>k st
 | some l=>iO l st fun st=>jOo st (fun st=>jXn st k) 1
def jYn (hs:Nat→Option (List LT)) (d:Option Nat) (st:Sx) (k:Sx→An):An:=match d with
 | some d=>qLg (hs d) st k
 | none=>k st
def jMb (st:Sx) (d:Option Nat) (v:SX) (k:Sx→An):An:=match d with
 | some d=>jL (v.sc st.n) 146 st [] (k (st.setE ((d,v)::st.E)))
 | none=>k st
def xG (st:Sx) (g:Option (Nat×Bool)) (p q:Sx→An):An:=match g with
 | none=>p st
 | some (t,w)=>(match yK st.E t with
  | some v=>(match v with
   | .b x=>bif (bif x then w else !w) then p st else q st
   | .bv t=>xge st (t.addc (-1)) fun r st=>bif (bif r then w else !w) then p st else q st
   | .tup []=>q st
   | _=>no1 147 st)
  | none=>no1 148 st)
def jXs {α:Type}:Nat→List α→List α
 | 0,l=>l
 | _+1,[]=>[]
 | n+1,_::l=>jXs n l
def PX.drop (P:PX) (k:Nat):PX:=match k with
 | 0=>P
 | k+1=>⟨P.ct,P.cp,P.ak,P.bt,P.sg,fun f=>jXs (Nat.mod (Nat.succ k) 100) (P.cs f),Nat.ble 100 k&&Nat.blt k 200,Nat.ble 200 k&&Nat.blt k 300,bif Nat.blt k 399 then Nat.sub (Nat.succ k) 300 else 0,Nat.ble 399 k,P.rk⟩
def kdO (kd:Nat→Nat) (d:Option Nat):Nat:=match d with
 | some d=>kd d
 | none=>0
def xR (P:PX) (cur:LT) (hs:Nat→Option (List LT)) (kd:Nat→Nat):List O→Sx→(Sx→An)→An
 | [],st,Q=>Q st
 | o::r,st,Q=>xG st o.g (fun st=>xO (P.drop (kdO kd o.d)) cur o.c st fun v st _=>jMb st o.d v fun st=>jYn hs o.d st fun st=>xR P cur hs kd r st Q) (fun st=>jMb st o.d iR fun st=>xR P cur hs kd r st Q)
def qBz (H:List HX) (s:SX):Option Key:=match s with
 | .tp i g _=>(match hbX H i g with | some hb=>(match hb.c with | .l _=>some (.h i) | _=>none) | none=>none)
 | .te i g _ _=>(match hbX H i g with | some hb=>(match hb.c with | .r _ _ _=>some (.h i) | _=>none) | none=>none)
 | .qp _ _ _=>some .a
 | .xs _ _=>some .c
 | .fqs=>some .c
 | _=>none
def qBp (st:Sx) (H:List HX) (o:O) (ws:List Tch) (k:Nat) (rs:List Wr) (Q:List Wr→An):An:=match o.rd with
 | none=>Q rs
 | some (lo,hi)=>match o.c with
  | .ld n a=>xv st a fun a=>(match qBz H a with | some κ=>jL (jCe κ lo ws k) 149 st [] (Q (⟨κ,hi⟩::rs)) | none=>no1 150 st)
  | _=>no1 151 st
def xD (P:PX) (cur:LT) (kd:Nat→Nat):List O→Sx→List Tch→Nat→List Wr→(Sx→An)→An
  | [],st,_,_,_,Q=>Q st
  | o::r,st,ws,k,rs,Q=>xG st o.g
      (fun st=>bif o.c.acts then xO (P.drop (kdO kd o.d)) cur o.c st fun v st t=>jL (tK t k rs) 152 st [] (jMb st o.d v fun st=>xD P cur kd r st (t::ws) (Nat.succ k) rs Q)
        else xO (P.drop (kdO kd o.d)) cur o.c st fun v st' t=>jL (noT t) 153 st' [] (qBp st' st.H o ws k rs fun rs=>jMb st' o.d v fun st=>xD P cur kd r st ws k rs Q))
      (fun st=>bif o.c.acts then jMb st o.d iR fun st=>xD P cur kd r st (t0::ws) (Nat.succ k) rs Q else jMb st o.d iR fun st=>xD P cur kd r st ws k rs Q)
abbrev KK:=E→Sx→An
def jTy (id:Nat) (Q:KK) (e:E) (st:Sx):An:=match e with
 | .nrm=>Q .nrm st
 | .exit k=>bif Nat.beq k id then Q .nrm st else Q (.exit k) st
 | .ret=>Q .ret st
def jUc (K:Sx→An) (Q:KK) (e:E) (st:Sx):An:=match e with
 | .nrm=>K st
 | .exit k=>Q (.exit k) st
 | .ret=>Q .ret st
def jCf (E:EX):List Nat→EX
 | []=>[]
 | n::r=>match yK E n with
  | some v=>(n,v)::jCf E r
  | none=>jCf E r
def jIb:SX→Bool
 | .sl0=>true
 | _=>false
def jHm (P:PX) (sz:Nat):HCX→Bool
 | .r T _ n=>(match n.l with | []=>isZ n.c | _::_=>false)&&Nat.beq sz (jP (P.ct T))
 | .xs _=>Nat.beq sz 1
 | _=>false
def Sx.lnZ (st:Sx):HCX→Bool
 | .xs j=>(match eS j st.B with | some (n,_)=>(match n.l with | []=>isZ n.c | _::_=>false) | none=>false)
 | _=>true
def qFk (s:Sb) (c:HCX) (st:Sx) (Q:HCX→Sx→An):An:=match c with
 | .xs m=>fresh st fun _ st=>jL ((s.t m).sc st.n) 177 st [] (Q (.xs (Nat.pred st.n)) (st.addB (.ln (Nat.pred st.n) (.con 0) (s.t m))))
 | c=>Q (c.inst s) st
def jEe (P:PX) (s:Sb):List (CvX×Nat)→Sx→(Sx→An)→An
 | [],st,Q=>Q st
 | (.lit n m,sz)::r,st,Q=>(match yK st.E n with
  | some (.ts i g k z)=>(match hbX st.H i g with
   | some hb=>(match hb.c with
    | .l l=>jL (Nat.beq z 1&&(s.t m).sc st.n) 180 st [s.t m] (mR st (s.t m) l (vP st k (.con (.ofNat (jP l))) (fresh st fun _ st=>jEe P s r (((st.addB (.ln (Nat.pred st.n) (.con (.ofNat (jP l))) (s.t m))).setE ((n,.ts i g.up k z)::st.E)).setH (jH st.H i ⟨hb.e,g.up,.xs (Nat.pred st.n)⟩)) Q)))
    | _=>no1 181 st)
   | none=>no1 182 st)
  | _=>no1 183 st)
 | (.frz n,sz)::r,st,Q=>(match yK st.E n with
  | some (.ts i g k z)=>(match hbX st.H i g with
   | some hb=>(match hb.c with
    | .xs j=>jL (Nat.blt j st.n) 184 st [] (jEe P s r ((st.setE ((n,.qs j)::st.E)).setH (uB st.H i)) Q)
    | _=>no1 185 st)
   | none=>no1 186 st)
  | _=>no1 187 st)
 | (.slot i e c,sz)::r,st,Q=>qFk s c st fun c st=>jL (jHm P sz c&&(c.sc st.n&&st.lnZ c)) 157 st [] (match yK st.E i with
   | some v=>jL (jIb v) 158 st [] (jEe P s r ((st.setE ((i,.ts (jP st.H) g0 (.con 0) sz)::st.E)).setH (st.H++[⟨e,g0,c⟩])) Q)
   | none=>no1 159 st)
 | (.cell i off e c,sz)::r,st,Q=>qFk s c st fun c st=>jL (jHm P sz c&&(c.sc st.n&&st.lnZ c)) 157 st [] (match zA st.H i with
   | some hb=>(match hb.c with
    | .l l=>(match zA l off with
     | some v=>jL (jIb v) 160 st [] (jEe P s r (st.setH (jH st.H i ⟨hb.e,hb.g,.l (jH l off (.ts (jP st.H) g0 (.con 0) sz))⟩++[⟨e,g0,c⟩])) Q)
     | none=>no1 161 st)
    | _=>no1 162 st)
   | none=>no1 163 st)
def jXx (st:Sx):EX→EX→An→An
 | [],_,k=>k
 | p::r,E,k=>(match yK E p.1 with | some v=>eqv st p.2 v (jXx st r E k) | none=>no1 249 st)
def bE (lo hi:Nat):EX→EX→Bd→Bd
 | [],_,σ=>σ
 | p::r,E,σ=>bE lo hi r E (match yK E p.1 with | some v=>bX lo hi p.2 v σ | none=>σ)
def jYp (st:Sx):List HX→List HX→An→An
 | [],_,k=>k
 | x::l,y::m,k=>jL (Nat.beq x.e y.e&&x.g.beq y.g) 250 st [] (eqC st x.c y.c (jYp st l m k))
 | _::_,[],_=>no1 251 st
def qCf:List (Option HX)→List HX→List HX
 | [],_=>[]
 | some h::l,[]=>h::qCf l []
 | some h::l,_::m=>h::qCf l m
 | none::l,[]=>qCf l []
 | none::l,h::m=>h::qCf l m
def yZ (H0:List HX) (a:Alt):List HX:=match a.H with
 | some H=>qCf H H0
 | none=>H0
def qId (n0:Nat) (E0:EX) (H0:List HX) (a:Alt) (st:Sx) (k:Sb→An):An:=jJu 100000 200000 (pK n0 E0) st a.B (bH 100000 200000 (yZ H0 a) st.H (bE 100000 200000 a.E st.E [])) fun σ=>k (pK n0 E0 σ)
def jPx (E0:EX) (H0:List HX) (a:Alt) (st:Sx) (s:Sb) (pre:Bool) (k:An):An:=jXx st (lF s a.E) st.E ((bif pre then jYp st (kU s (yZ H0 a)) st.H else eqH st (kU s (yZ H0 a)) st.H) (pX st (vB s a.F) (vB s a.N) (dN s a.B) k))
def jKg:EX→Nat
 | []=>0
 | p::r=>mx (mH p.2) (jKg r)
def jAf (n0:Nat) (E0:EX) (H0:List HX) (Ek:EX) (m0:LT) (h0:Nat) (st:Sx) (a:Alt):An:=qId n0 E0 H0 a st fun s=>jPx E0 H0 a st s true (jXx st Ek st.E (match kU s (yZ H0 a) with
 | G=>jL (Nat.ble h0 (jP G)&&(Nat.ble (jKg (a.E++Ek)) (jP G)&&Nat.ble (bZ G) (jP G))) 252 st [] (ask st ((m0.sub (a.m.inst s)).addc (-1)) (ask st (m0.addc (-1)) done))))
def aT (n0:Nat) (E0:EX) (H0:List HX) (Ek:EX) (m0:LT) (h0:Nat) (st:Sx):List Alt→List An
 | []=>[]
 | a::r=>jAf n0 E0 H0 Ek m0 h0 st a::aT n0 E0 H0 Ek m0 h0 st r
def jGz (n0:Nat) (E0:EX) (H0:List HX) (L:Nat) (st:Sx) (a:Alt):An:=qId n0 E0 H0 a st fun s=>jPx E0 H0 a st s false (ask st ((a.m.inst s).neg.addc (Int.ofNat L - 1)) done)
def rA (n0:Nat) (E0:EX) (H0:List HX) (L:Nat) (st:Sx):List Alt→List An
 | []=>[]
 | a::r=>jGz n0 E0 H0 L st a::rA n0 E0 H0 L st r
def sY (n0:Nat) (E0:EX) (H0:List HX) (L:Nat) (st:Sx) (l:List Alt):An:=match l with
 | [a]=>jGz n0 E0 H0 L st a
 | l=>sel st (rA n0 E0 H0 L st l) fun _=>done
def qGs (n0:Nat) (E0:EX) (H0:List HX) (Ek:EX) (se:List LT) (alts:List Alt) (m0:LT) (h0:Nat) (Q:KK) (e:E) (st:Sx):An:=match e with
 | .nrm=>iO se st fun st=>(match alts with
  | [a]=>jAf n0 E0 H0 Ek m0 h0 st a
  | alts=>sel st (aT n0 E0 H0 Ek m0 h0 st alts) fun _=>done)
 | .exit i=>Q (.exit i) st
 | .ret=>Q .ret st
def own (n0 v:Nat):Nat:=match n0 with
 | 0=>Nat.sub v 100000
 | k+1=>Nat.add (Nat.succ k) (Nat.sub v 100000)
def qV (n0:Nat) (E0:EX):Sb:=⟨fun v=>bif Nat.blt v n0 then .var v else bif Nat.blt v 100000 then .con 0 else bif Nat.blt v 200000 then .var (own n0 v) else jGf E0 v,
 fun v=>bif Nat.blt v n0 then v else bif Nat.blt v 100000 then 0 else bif Nat.blt v 200000 then own n0 v else jGe E0 v,
 fun v=>bif Nat.blt v n0 then ⟨Nat.succ v,0⟩ else bif Nat.blt v 100000 then g0 else bif Nat.blt v 200000 then ⟨Nat.succ (own n0 v),0⟩ else jGd E0 v⟩
def jEk (E0:EX) (H0:List HX) (Ek:EX) (se:List LT) (alts:List Alt) (body:Sx→KK→An) (st:Sx) (Q:KK) (a:Alt):An:=
 jY (Nat.add st.n a.k) fun m=>match qV st.n E0 with
  | s=>jL (scE m (lF s a.E)&&(scH m (kU s (yZ H0 a))&&(scE st.n Ek&&(a.m.inst s).sc m))) 165 st [] (jNw (vB s a.F) (vB s a.N) (dN s a.B) ((((st.up m).setE (lF s a.E++Ek))).setH (kU s (yZ H0 a))) fun st1=>body st1 (qGs st.n E0 H0 Ek se alts (a.m.inst s) (jP (yZ H0 a)) Q))
def jHc (E0:EX) (H0:List HX) (Ek:EX) (se:List LT) (alts:List Alt) (body:Sx→KK→An) (st:Sx) (Q:KK):List Alt→An
 | []=>done
 | a::r=>sZ (jEk E0 H0 Ek se alts body st Q a) (jHc E0 H0 Ek se alts body st Q r)
def qGe (P:PX) (L:Nat) (np:Nat) (top:Bool) (an:Option Ann) (body:Sx→KK→An) (st:Sx) (Q:KK):An:=match an with
 | none=>no1 166 st
 | some an=>jEe P (pK st.n st.E []) an.cv st fun st=>iO an.sp st fun st=>bif an.once&&top then sY np [] [] L st an.alts
  else jL (Nat.ble st.n 100000&&Nat.blt 0 st.n) 180 st [] (match jCf st.E an.ks with
  | Ek=>sZ (sY st.n st.E st.H L st an.alts) (jHc st.E st.H Ek an.se an.alts body st Q an.alts))
def xK (P:PX) (cur:LT) (L np:Nat) (an:Nat→Option Ann) (hs:Nat→Option (List LT)) (kd:Nat→Nat):K→Bool→Nat→Sx→KK→An
 | .skip,_,_,st,Q=>Q .nrm st
 | .reg ops,_,_,st,Q=>xR P cur hs kd ops st (Q .nrm)
 | .dreg ops,_,_,st,Q=>xD P cur kd ops st [] 0 [] (Q .nrm)
 | .fr _ _ _,_,_,st,_=>no1 156 st
 | .seq a b,top,id,st,Q=>xK P cur L np an hs kd a top id st (jUc (fun st=>xK P cur L np an hs kd b top id st Q) Q)
 | .cond c a b,top,id,st,Q=>xv st c fun c=>jGp c st fun r st=>bif r then xK P cur L np an hs kd a top id st Q else xK P cur L np an hs kd b top id st Q
 | .block id c,top,_,st,Q=>xK P cur L np an hs kd c top id st (jTy id Q)
 | .loop c,top,id,st,Q=>qGe P L np top (an id) (fun st Q=>xK P cur L np an hs kd c false id st Q) st Q
 | .exit id,_,_,st,Q=>Q (.exit id) st
 | .ret,_,_,st,Q=>Q .ret st
 | .no,_,_,st,_=>no1 168 st
def qMa:Nat→List Alt→List Alt
 | 0,l=>l
 | 1,l=>(match l with | []=>[] | a::_=>[a])
 | _,l=>(match l with | []=>[] | _::r=>r)
def xW (sl:Nat) (P:PX) (cur:LT) (L np:Nat) (an:Nat→Option Ann) (hs:Nat→Option (List LT)) (kd:Nat→Nat) (b0:Sx):K→Nat→KK→An
 | .seq a b,id,Q=>sZ (xW sl P cur L np an hs kd b0 a id (jUc (fun st=>xK P cur L np an hs kd b true id st Q) Q)) (xW sl P cur L np an hs kd b0 b id Q)
 | .cond _ a b,id,Q=>sZ (xW sl P cur L np an hs kd b0 a id Q) (xW sl P cur L np an hs kd b0 b id Q)
 | .block id c,_,Q=>xW sl P cur L np an hs kd b0 c id (jTy id Q)
 | .loop c,id,Q=>(match an id with
  | some a=>bif a.once then jL (Nat.ble np 100000&&Nat.blt 0 np) 181 b0 [] (jHc [] [] [] a.se a.alts (fun st Q=>xK P cur L np an hs kd c false id st Q) b0 Q (qMa sl a.alts)) else done
  | none=>done)
 | _,_,_=>done
def jPt (P:PX):List RV0→Sx→(List SX→Sx→An)→An
 | [],st,Q=>Q [] st
 | .t n::r,st,Q=>(match yK st.E n with | some v=>jPt P r st fun l st=>Q (v::l) st | none=>no1 169 st)
 | .c a n::r,st,Q=>(match yK st.E a with | some a=>xLd P n a st fun v st=>jL (v.sc st.n) 182 st [] (jPt P r st fun l st=>Q (v::l) st) | none=>no1 170 st)
def qEx:List SX→SX
 | [v]=>v
 | l=>.tup l
def qBr (P:PX) (k:Nat) (hb:HX) (st:Sx) (Q:HX→Sx→An):An:=match hb.c,P.bt hb.e with
 | .l l,some ts=>mU P ts l st fun l fr st=>jL (pM k fr&&(fG l&&scs st.n l)) 171 st [] (Q ⟨hb.e,hb.g,.l l⟩ st)
 | .l l,none=>Q ⟨hb.e,hb.g,.l l⟩ st
 | _,_=>Q hb st
def sR (P:PX) (k:Nat):Nat→List HX→Sx→(List HX→Sx→An)→An
 | 0,_,st,Q=>Q [] st
 | n+1,hb::r,st,Q=>qBr P k hb st fun hb st=>sR P k n r st fun r st=>Q (hb::r) st
 | _+1,[],st,_=>no1 172 st
def qEv (np:Nat) (σ:Bd):Sb:=⟨fun w=>bif Nat.blt w np then LT.var w else bvT (lkB σ w),fun w=>bif Nat.blt w np then w else bvL (lkB σ w),fun w=>bif Nat.blt w np then ⟨Nat.succ w,0⟩ else bvG (lkB σ w)⟩
def jCh (np:Nat) (st:Sx) (v:SX) (H:List HX) (p:bF):An:=jJu np (np+p.k) (qEv np) st p.B (bH np (np+p.k) p.H H (bX np (np+p.k) p.r v [])) fun σ=>match qEv np σ with
 | s=>eqv st (p.r.inst s) v (eqH st (kU s p.H) H (pX st (vB s p.F) (vB s p.N) (dN s p.B) done))
def nU (np:Nat) (st:Sx) (v:SX) (H:List HX):List bF→List An
 | []=>[]
 | p::r=>jCh np st v H p::nU np st v H r
def jCp (np:Nat) (st:Sx) (v:SX) (H:List HX) (posts:List bF):An:=match posts with
 | [p]=>jCh np st v H p
 | posts=>sel st (nU np st v H posts) fun _=>done
def jNm (P:PX) (f k np:Nat) (posts:List bF) (res:List RV0) (e:E) (st:Sx):An:=match e with
 | .exit _=>no1 173 st
 | _=>jPt P res st fun l st=>jJb P (P.sg f).2 (qEx l) st fun v fr st=>sR P k k st.H st fun H' st=>jL (Nat.ble (mH v) k&&(Nat.ble (bZ H') k&&pM k fr)) 174 (st.setE [(0,v)]) [] (jCp np ((st.setE [(0,v)]).setH H') v H' posts)
def jIh (np:Nat) (p:bF):Bool:=p.r.sc (np+p.k)&&(scH (np+p.k) p.H&&(scF (np+p.k) p.F&&(scF (np+p.k) p.N&&scB (np+p.k) p.B)))
def oJ (np:Nat):List bF→Bool
 | []=>true
 | p::r=>jIh np p&&oJ np r
def jOc (ct:CtX):Bool:=oJ ct.np ct.posts&&(scs ct.np ct.args&&(scH ct.np ct.H&&(scF ct.np ct.F&&(scF ct.np ct.N&&(scB ct.np ct.B&&ct.dep.sc ct.np)))))
def oT:List SX→Nat→EX
 | [],_=>[]
 | v::r,k=>(k,v)::oT r (k+1)
def xF (P:PX) (L:Nat) (f:Nat) (g:F) (ct:CtX) (an:Nat→Option Ann) (hs:Nat→Option (List LT)) (kd:Nat→Nat):An:=match (⟨ct.np,oT ct.args 0,ct.H,ct.F,ct.N,ct.B⟩:Sx) with
 | st=>jL (Nat.ble (jP ct.args) g.nt&&jOc ct) 176 st [] (ask st (ct.dep.addc (-1)) (sZ (xK P ct.dep L ct.np an hs kd g.body true 0 st (jNm P f (jP ct.H) ct.np ct.posts g.res)) (xW 0 P ct.dep L ct.np an hs kd st g.body 0 (jNm P f (jP ct.H) ct.np ct.posts g.res))))
def xF1 (P:PX) (L:Nat) (f:Nat) (g:F) (ct:CtX) (an:Nat→Option Ann) (hs:Nat→Option (List LT)) (kd:Nat→Nat):An:=match (⟨ct.np,oT ct.args 0,ct.H,ct.F,ct.N,ct.B⟩:Sx) with
 | st=>jL (Nat.ble (jP ct.args) g.nt&&jOc ct) 176 st [] (ask st (ct.dep.addc (-1)) (sZ (xK P ct.dep L ct.np an hs kd g.body true 0 st (jNm P f (jP ct.H) ct.np ct.posts g.res)) (xW 1 P ct.dep L ct.np an hs kd st g.body 0 (jNm P f (jP ct.H) ct.np ct.posts g.res))))
def xF2 (P:PX) (L:Nat) (f:Nat) (g:F) (ct:CtX) (an:Nat→Option Ann) (hs:Nat→Option (List LT)) (kd:Nat→Nat):An:=match (⟨ct.np,oT ct.args 0,ct.H,ct.F,ct.N,ct.B⟩:Sx) with
 | st=>xW 2 P ct.dep L ct.np an hs kd st g.body 0 (jNm P f (jP ct.H) ct.np ct.posts g.res)
end
end Go.Proofs.YtngfdcnglojcaaaGreatDoor.Ev.Rf
end
