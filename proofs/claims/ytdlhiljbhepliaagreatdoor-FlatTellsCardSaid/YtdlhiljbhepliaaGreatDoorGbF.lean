/-
A walk: a collection in brackets.
-/
import Derived.Test.YtdlhiljbhepliaaGreatDoorFbC
namespace Go.Proofs.YtdlhiljbhepliaaGreatDoor.Ev.Fb
noncomputable section
set_option linter.all false
open Go Ev Rf
set_option maxRecDepth 2000
set_option maxHeartbeats 4000000
section
variable {G:Nat→List SV→SV→Prop} {Γ:qJ}
theorem jHy (S:Sc) (si ba:Bool) (t:Tq) (ts:List Tq):qA S si ba (t::ts)=itm S si ba t::qA S si ba ts:=by
 obtain ⟨k,st,an,tg,tx,ks⟩:=t;unfold itm; simp only [qA]; rfl
theorem vT (S:Sc) (si ba:Bool):∀ {ks:List Tq} {t:Tq} {i:Nat},ks[i]?=some t→(qA S si ba ks)[i]?=some (itm S si ba t)
 | [],t,i,h=>by simp at h
 | a::ks,t,i,h=>by
  rw [jHy];cases i with
  | zero=>simp at h; subst h; rfl
  | succ i=>exact vT S si ba (ks:=ks) (i:=i) (by simpa using h)
theorem nV (S:Sc) (si ba:Bool):∀ (ks:List Tq),(qA S si ba ks).length=ks.length
 | []=>rfl
 | a::ks=>by rw [jHy,List.length_cons,List.length_cons,nV S si ba ks]
theorem dD:∀ (l:List Tx) (n:Nat),kP (l.take n)≤kP l
 | [],n=>by simp
 | a::l,0=>Nat.zero_le _
 | a::l,n+1=>by have:=dD l n; simp only [List.take_succ_cons,kP]; omega
theorem sO:∀ {ts:List Tq} {t u:Tq} {k:Nat},ts[k]?=some t→ts[k+1]?=some u→wtQ t+wtQ u≤dW ts
 | [],t,u,k,e,_=>by simp at e
 | a::ts,t,u,k,e,e'=>by
  cases k with
  | zero=>
   simp at e e'; subst e;have:=fD (ts:=ts) (k:=0) (by simpa using e')
   simp only [dW]; omega
  | succ k=>
   have:=sO (ts:=ts) (k:=k) (by simpa using e) (by simpa using e')
   simp only [dW]; omega
theorem jEm:∀ (l:List (Tx×Tx×Tx)),(uO l).length=l.length / 2
 | []=>rfl
 | [a]=>by simp [uO]
 | a::b::r=>by
  have:=jEm r;simp only [uO,List.length_cons,this];omega
theorem jEl:∀ {l:List (Tx×Tx×Tx)} {j:Nat} {a b:Tx×Tx×Tx},l[2*j]?=some a→l[2*j+1]?=some b→(uO l)[j]?=some (zT a.2.1 b.2.2)
 | [],j,a,b,h,_=>by simp at h
 | [x],j,a,b,_,h=>by
  have:=(List.getElem?_eq_some_iff.1 h).1;simp at this
 | x::y::r,j,a,b,h,h'=>by
  simp only [uO];cases j with
  | zero=>simp at h h'; subst h; subst h'; rfl
  | succ j=>
   rw [List.getElem?_cons_succ];refine jEl (l:=r) ?_ ?_
   ·rw [show 2*(j+1)=2*j+1+1 by omega,List.getElem?_cons_succ,List.getElem?_cons_succ] at h; exact h
   ·rw [show 2*(j+1)+1=2*j+1+1+1 by omega,List.getElem?_cons_succ,List.getElem?_cons_succ] at h'; exact h'
theorem p22 {S:Sc} (hS:ScR Γ S) (h45:∀ d l H Q,jTz S d l H Q→Γ d 60 l H Q) (h47:∀ d l H Q,jJq S d l H Q→Γ d 62 l H Q) (d:Nat) (l:List SV) (H:Hp) (Q:Q2) (h:jUa S (d+1) l H Q):wF (PT.C G) Γ LL d 32 g32 l H Q:=by
 obtain ⟨si,ba,k,st,an,tg,tx,ks,row,rfl,rfl,hr,hk,ho,hb,hw,hd,hQ⟩:=h;simp only [isQ] at hr;obtain ⟨n2,n3,w8,l8,w9,l9,b10,m11,v11,kr,rfl,hks⟩:=hr;have e1:MX=140737488355328:=rfl;have e2:NB=1000000:=rfl;have e3:LL=200000000000000:=rfl;have hlen:=eV hks;have hkl:=nV S si ba ks;obtain ⟨k1,k2⟩:=nU hS.ok si ba ks ho;have j1:=yL ((qA S si ba ks).map (·.1));rw [gG] at j1;have j2:=yL (uO (qA S si ba ks));have j3:=dB (qA S si ba ks)
 repeat apply Or.inl
 refine And.intro (fun h3=>?_) (fun h3=>?_)
 ·have eb:zZ S si ba false k st tg tx (qA S si ba ks)=jX (jX (1,91) (jM ((qA S si ba ks).map (·.1)))) (1,93):=by unfold zZ; rw [if_neg (by omega),if_neg (by omega),if_pos h3]
  rw [eb] at hQ;have hLc:∀ p,p∈(qA S si ba ks).map (·.1)→p.2<256^p.1:=fun p hp=>by
   obtain ⟨y,hy,rfl⟩:=List.mem_map.1 hp;exact (kM hS.ok si ba ks ho y hy).1.2
  generalize hL:(qA S si ba ks).map (·.1)=L at hQ j1 hLc;have hLl:L.length=ks.length:=by rw [←hL,List.length_map,hkl]
  have hLs:kP L=jRp (qA S si ba ks):=by rw [←hL,gG]
  repeat apply Or.inl
  refine mO 0 ⟨[2,3,6,17,18],[(.slot 5 9 (.xs []),1)],Nat,fun i=>[(19,.i .i64 (i:Int)),(5,.ts 2 i i 1)],fun i=>[⟨69,0,.l (cf si ba)⟩,⟨35,0,.l [.i .i64 k,.i .i64 st,.i .i64 n2,.i .i64 n3,.s an.1 an.2,.s tg.1 tg.2,.s tx.1 tx.2,.qx 12 kr,.qx w8 l8,.qx w9 l9,.b b10,.s m11 v11]⟩,⟨9,i,.xs (L.take i)⟩],fun i=>i≤ks.length,fun i=>ks.length - i,⟨0,⟨⟨_,rfl,rfl⟩,⟨_,rfl,rfl⟩,⟨_,rfl,rfl⟩,⟨_,rfl,rfl⟩,⟨_,rfl,rfl⟩,⟨_,rfl,rfl⟩,⟨_,rfl,rfl⟩,trivial⟩,rfl,Nat.zero_le _,?_⟩,?_⟩
  ·show ks.length - 0<LL; omega
  intro i hi;refine And.intro (fun hlt=>?_) (fun hge=>?_)
  ·repeat apply Or.inl
   refine And.intro ⟨by omega,by omega⟩ ?_
   intro p hp;obtain ⟨t,ht,hq⟩:=uU hks (k:=i) (by simpa using hp)
   have hwt:=fD ht;have hot:=uZ ho ht;have hgt:=vT S si ba ht;have hq0:=hq;obtain ⟨k',st',an',tg',tx',ks'⟩:=t;simp only [isQ] at hq;obtain ⟨n2',n3',w8',l8',w9',l9',b10',m11',v11',kr',rfl,_⟩:=hq;have hLg:L[i]?=some (itm S si ba (.mk k' st' an' tg' tx' ks')).1:=by rw [←hL,List.getElem?_map,hgt]; rfl
   repeat apply Or.inl
   refine h45 d _ _ _ ⟨si,ba,_,_,rfl,rfl,hq0,hot,by omega,by omega,?_⟩
   repeat apply Or.inl
   refine iL ?_;refine And.intro ⟨?_,?_⟩ ?_
   ·show (i+1)*16≤100000000000000; omega
   ·show i+1≤100000000000000; omega
   repeat apply Or.inl
   refine And.intro ⟨by omega,by omega⟩ ?_
   repeat apply Or.inl
   refine ⟨i+1,⟨⟨_,rfl,rfl⟩,⟨_,rfl,rfl⟩,⟨_,rfl,rfl⟩,⟨_,rfl,rfl⟩,⟨_,rfl,rfl⟩,⟨_,rfl,rfl⟩,⟨_,rfl,rfl⟩,trivial⟩,⟨rfl,rfl,?_,trivial⟩,?_,?_⟩
   ·rw [pT hLg]
   ·show i+1≤ks.length; omega
   ·show ks.length - (i+1)<ks.length - i; omega
  ·obtain rfl:i=ks.length:=by omega
   have hT:L.take ks.length=L:=by rw [List.take_of_length_le (by omega)]
   rw [←hT] at hQ j1;have hls:=dD L ks.length
   repeat apply Or.inl
   refine iL ?_;refine hS.h46 d (L.take ks.length) _ (by omega) (by omega) (by rw [hT]; omega) (fun p hp=>hLc p (List.mem_of_mem_take hp)) ?_
   refine ⟨?_,fun _ _=>?_⟩
   ·show 1+(jM (L.take ks.length)).1≤MX; omega
   repeat apply Or.inl
   refine ⟨?_,fun _ _=>?_⟩
   ·show 1+(jM (L.take ks.length)).1+1≤MX; omega
   repeat apply Or.inl
   exact hQ
 ·have h4:k=4:=by omega
  have eb:zZ S si ba false k st tg tx (qA S si ba ks)=jX (jX (1,123) (jM (uO (qA S si ba ks)))) (1,125):=by unfold zZ; rw [if_neg (by omega),if_neg (by omega),if_neg (by omega),if_pos h4]
  rw [eb] at hQ;have hPl:=jEm (qA S si ba ks);rw [hkl] at hPl;have hPg:=fun j a b=>jEl (l:=qA S si ba ks) (j:=j) (a:=a) (b:=b);have hLc:∀ p,p∈uO (qA S si ba ks)→p.2<256^p.1:=fun p hp=>(lR (kM hS.ok si ba ks ho) p hp).2;generalize uO (qA S si ba ks)=L at hQ j2 j3 hPl hPg hLc
  repeat apply Or.inl
  refine mO 2 ⟨[2,3,9],[(.slot 5 9 (.xs []),1)],Nat,fun i=>[(10,.i .i64 (2*(i:Int)+1)),(5,.ts 2 i i 1)],fun i=>[⟨69,0,.l (cf si ba)⟩,⟨35,0,.l [.i .i64 k,.i .i64 st,.i .i64 n2,.i .i64 n3,.s an.1 an.2,.s tg.1 tg.2,.s tx.1 tx.2,.qx 12 kr,.qx w8 l8,.qx w9 l9,.b b10,.s m11 v11]⟩,⟨9,i,.xs (L.take i)⟩],fun i=>i≤L.length,fun i=>L.length - i,⟨0,⟨⟨_,rfl,rfl⟩,⟨_,rfl,rfl⟩,⟨_,rfl,rfl⟩,⟨_,rfl,rfl⟩,⟨_,rfl,rfl⟩,trivial⟩,rfl,Nat.zero_le _,?_⟩,?_⟩
  ·show L.length - 0<LL; omega
  intro i hi
  repeat apply Or.inl
  refine And.intro (fun hlt=>?_) (fun hge=>?_)
  ·repeat apply Or.inl
   refine And.intro ⟨by omega,by omega⟩ ?_
   refine And.intro ⟨by omega,by omega⟩ ?_
   intro p hp;rw [show (2*(i:Int)+1 - 1).toNat=2*i by omega] at hp
   obtain ⟨t,ht,hq⟩:=uU hks hp;have hot:=uZ ho ht;have hgt:=vT S si ba ht;have hq0:=hq;obtain ⟨k',st',an',tg',tx',ks'⟩:=t;simp only [isQ] at hq;obtain ⟨n2',n3',w8',l8',w9',l9',b10',m11',v11',kr',rfl,_⟩:=hq
   repeat apply Or.inl
   refine And.intro ⟨by omega,by omega⟩ ?_
   intro p2 hp2;rw [show (2*(i:Int)+1).toNat=2*i+1 by omega] at hp2
   obtain ⟨u,hu,hq2⟩:=uU hks hp2;have hou:=uZ ho hu;have hgu:=vT S si ba hu;have hwt:=sO ht hu;have hu0:=hq2;obtain ⟨k4,st4,an4,tg4,tx4,ks4⟩:=u;simp only [isQ] at hq2;obtain ⟨n24,n34,w84,l84,w94,l94,b104,m114,v114,kr4,rfl,_⟩:=hq2;have hLg:=hPg i _ _ hgt hgu
   repeat apply Or.inl
   refine h47 d _ _ _ ⟨si,ba,_,_,_,_,rfl,rfl,hq0,hu0,hot,hou,by omega,by omega,?_⟩
   repeat apply Or.inl
   refine iL ?_;refine And.intro ⟨?_,?_⟩ ?_
   ·show (i+1)*16≤100000000000000; omega
   ·show i+1≤100000000000000; omega
   repeat apply Or.inl
   refine And.intro ⟨by omega,by omega⟩ ?_
   repeat apply Or.inl
   refine ⟨i+1,⟨⟨_,rfl,?_⟩,⟨_,rfl,rfl⟩,⟨_,rfl,rfl⟩,⟨_,rfl,rfl⟩,⟨_,rfl,rfl⟩,trivial⟩,⟨rfl,rfl,?_,trivial⟩,?_,?_⟩
   ·show SV.i .i64 (2*(i:Int)+1+2) = .i .i64 (2*((i+1:Nat):Int)+1)
    congr 1
   ·rw [pT hLg]
   ·show i+1≤L.length; have:=(List.getElem?_eq_some_iff.1 hLg).1; omega
   ·show L.length - (i+1)<L.length - i; have:=(List.getElem?_eq_some_iff.1 hLg).1; omega
  ·obtain rfl:i=L.length:=by omega
   have hT:L.take L.length=L:=by rw [List.take_length]
   have hLn:L.length≤NB:=by omega
   generalize hn:L.length=n at *;rw [←hT] at hQ j2;have hls:=dD L n
   repeat apply Or.inl
   refine iL ?_;refine hS.h46 d (L.take n) _ (by omega) (by omega) (by rw [hT]; omega) (fun p hp=>hLc p (List.mem_of_mem_take hp)) ?_
   have hjj:(jM (L.take n)).1+2≤MX:=by rw [hT] at j2 ⊢; omega
   refine ⟨?_,fun _ _=>?_⟩
   ·show 1+(jM (L.take n)).1≤MX; omega
   repeat apply Or.inl
   refine ⟨?_,fun _ _=>?_⟩
   ·show 1+(jM (L.take n)).1+1≤MX; omega
   repeat apply Or.inl
   exact hQ
end
end
noncomputable section
set_option linter.all false
open Go Ev Rf
set_option maxRecDepth 2000
set_option maxHeartbeats 4000000
section
variable {G:Nat→List SV→SV→Prop} {Γ:qJ}
theorem q50 (d:Nat) (l:List SV) (H:Hp) (Q:Q2) (h:fN (d+1) l H Q):wF (PT.C G) Γ LL d 50 g50 l H Q:=by
 obtain ⟨a,b,rfl,rfl,ha,hb,hn,hd,hQ⟩:=h;have e1:MX=140737488355328:=rfl;unfold zT at hQ
 repeat apply Or.inl
 intro _ _;refine And.intro (fun h=>?_) (fun h=>?_)
 ·rw [vI h,Bool.true_or,if_pos rfl] at hQ
  repeat apply Or.inl
  refine ⟨by omega,fun _ _=>?_⟩
  repeat apply Or.inl
  exact hQ
 ·repeat apply Or.inl
  intro _ _;refine And.intro (fun h'=>?_) (fun h'=>?_)
  ·rw [vI h',Bool.or_true,if_pos rfl] at hQ
   repeat apply Or.inl
   refine ⟨by omega,fun _ _=>?_⟩
   repeat apply Or.inl
   exact hQ
  ·rw [uN h',uN h,Bool.or_false,if_neg (by simp)] at hQ
   repeat apply Or.inl
   refine ⟨by omega,fun _ _=>?_⟩
   repeat apply Or.inl
   refine ⟨by omega,fun _ _=>?_⟩
   repeat apply Or.inl
   exact hQ
theorem q47 (d:Nat) (l:List SV) (H:Hp) (Q:Q2) (h:mG (d+1) l H Q):wF (PT.C G) Γ LL d 47 g47 l H Q:=by
 obtain ⟨k,st,an,tg,tx,ks,row,rfl,rfl,hr,hd,hQ⟩:=h;simp only [isQ] at hr;obtain ⟨n2,n3,w8,l8,w9,l9,b10,m11,v11,kr,rfl,_⟩:=hr;unfold kK at hQ
 repeat apply Or.inl
 refine And.intro (fun h=>?_) (fun h=>?_)
 ·rw [decide_eq_true h] at hQ
  repeat apply Or.inl
  refine And.intro (fun h2=>?_) (fun h2=>?_)
  ·rw [decide_eq_true h2] at hQ
   repeat apply Or.inl
   intro _ _;refine And.intro (fun h3=>?_) (fun h3=>?_)
   ·rw [vI h3] at hQ
    repeat apply Or.inl
    exact hQ
   ·rw [uN h3] at hQ
    repeat apply Or.inl
    exact hQ
  ·rw [decide_eq_false h2] at hQ
   repeat apply Or.inl
   exact hQ
 ·rw [decide_eq_false h] at hQ
  repeat apply Or.inl
  exact hQ
theorem qKx {a b:Tx} (h:a.1=0∧a.2=0):jX a b=b:=by
 obtain ⟨h1,h2⟩:=h;refine Prod.ext ?_ ?_
 ·show a.1+b.1=b.1; omega
 ·show a.2+b.2*256^a.1=b.2; rw [h1,h2]; omega
theorem qKy {a b:Tx} (h:0<a.1):isE (jX a b)=false:=uN (fun e=>by have:=e.1; simp only [jX] at this; omega)
theorem qIr {an tg:Tx} (h:isE an=true):qO an tg=jX an tg:=by
 unfold qO zT;rw [if_pos h,h,Bool.true_or,if_pos rfl]
theorem qIp {an tg:Tx} (h:isE an=false) (h2:isE tg=true):qO an tg=jX (jX (1,38) an) tg:=by
 have e:(if isE an=true then an else jX (1,38) an)=jX (1,38) an:=if_neg (by rw [h]; exact Bool.false_ne_true)
 unfold qO;rw [e];unfold zT;rw [h2,Bool.or_true,if_pos rfl]
theorem qIq {an tg:Tx} (h:isE an=false) (h2:isE tg=false):qO an tg=jX (jX (jX (1,38) an) (1,32)) tg:=by
 have e:(if isE an=true then an else jX (1,38) an)=jX (1,38) an:=if_neg (by rw [h]; exact Bool.false_ne_true)
 unfold qO;rw [e];unfold zT;rw [h2,qKy (show 0<((1,38):Tx).1 by decide),if_neg (by decide)]
theorem q21 (d:Nat) (l:List SV) (H:Hp) (Q:Q2) (h:gA (d+1) l H Q):wF (PT.C G) Γ LL d 21 g21 l H Q:=by
 obtain ⟨k,st,an,tg,tx,ks,row,rfl,rfl,hr,ho,hd,hQ⟩:=h;simp only [isQ] at hr;obtain ⟨n2,n3,w8,l8,w9,l9,b10,m11,v11,kr,rfl,_⟩:=hr;simp only [okQ] at ho;obtain ⟨⟨⟨h1,h1'⟩,⟨h2,h2'⟩,_⟩,_⟩:=ho;have e1:MX=140737488355328:=rfl;have e2:TB=4000000000:=rfl
 repeat apply Or.inl
 intro _ _;refine And.intro (fun h=>?_) (fun h=>?_)
 ·have hs:¬ ((jX (1,38) an).1=0∧(jX (1,38) an).2=0):=fun e=>by have:=e.1; simp only [jX] at this; omega
  repeat apply Or.inl
  refine ⟨by omega,fun hb _=>?_⟩
  repeat apply Or.inl
  intro _ _;refine And.intro (fun h'=>?_) (fun h'=>?_)
  ·rw [qIq (uN h) (uN h')] at hQ
   repeat apply Or.inl
   intro _ _;refine And.intro (fun h4=>?_) (fun h4=>?_)
   ·repeat apply Or.inl
    refine ⟨?_,fun _ _=>?_⟩
    ·show 1+an.1+1≤_; omega
    repeat apply Or.inl
    refine ⟨?_,fun _ _=>?_⟩
    ·show 1+an.1+1+tg.1≤_; omega
    repeat apply Or.inl
    exact hQ
   ·exact absurd h4 hs
  ·rw [qIp (uN h) (vI h')] at hQ
   repeat apply Or.inl
   refine ⟨?_,fun _ _=>?_⟩
   ·show 1+an.1+tg.1≤_; omega
   repeat apply Or.inl
   exact hQ
 ·rw [qIr (vI h),qKx h] at hQ
  repeat apply Or.inl
  intro _ _;refine And.intro (fun h'=>?_) (fun h'=>?_)
  ·repeat apply Or.inl
   intro _ _;refine And.intro (fun h4=>?_) (fun h4=>?_)
   ·exact absurd ⟨rfl,rfl⟩ h4
   ·repeat apply Or.inl
    refine ⟨?_,fun _ _=>?_⟩
    ·show 0+tg.1≤_; omega
    repeat apply Or.inl
    have e:=qKx (a:=(0,0)) (b:=tg) ⟨rfl,rfl⟩;have e3:(0+tg.1)=tg.1:=congrArg Prod.fst e;have e4:(0+tg.2*256^0)=tg.2:=congrArg Prod.snd e;show Q (.s (0+tg.1) (0+tg.2*256^0)) [];rw [e3,e4];exact hQ
  ·repeat apply Or.inl
   refine ⟨?_,fun _ _=>?_⟩
   ·show 0+tg.1≤_; omega
   repeat apply Or.inl
   have e:=qKx (a:=(0,0)) (b:=tg) ⟨rfl,rfl⟩;have e3:(0+tg.1)=tg.1:=congrArg Prod.fst e;have e4:(0+tg.2*256^0)=tg.2:=congrArg Prod.snd e;show Q (.s (0+tg.1) (0+tg.2*256^0)) [];rw [e3,e4];exact hQ
end
section
variable {G:Nat→List SV→SV→Prop} {Γ:qJ}
theorem q76 {S:Sc} (hS:ScR Γ S) (d:Nat) (l:List SV) (H:Hp) (Q:Q2) (h:tR S (d+1) l H Q):wF (PT.C G) Γ LL d 76 g76 l H Q:=by
 obtain ⟨si,ba,fl,k,st,an,tg,tx,ks,row,rfl,rfl,hr,ho,hd,hQ⟩:=h;simp only [isQ] at hr;obtain ⟨n2,n3,w8,l8,w9,l9,b10,m11,v11,kr,rfl,_⟩:=hr;simp only [okQ] at ho;obtain ⟨⟨_,_,h3⟩,_⟩:=ho;have e0:((tx.1,tx.2):Tx)=tx:=rfl;unfold mY at hQ;by_cases q1:st=1
 ·subst q1;simp only [decide_true,Bool.true_and,Bool.not_true,Bool.false_and,Bool.and_false] at hQ
  repeat apply Or.inl
  refine And.intro (fun _=>?_) (fun _=>?_)<;>first | (exfalso; omega) | skip
  repeat apply Or.inl
  intro _ _;refine And.intro (fun h=>?_) (fun h=>?_)
  ·rw [vI h,Bool.true_or,if_pos rfl] at hQ
   repeat apply Or.inl
   exact hQ
  ·rw [uN h,Bool.false_or] at hQ
   repeat apply Or.inl
   refine hS.r104 d _ _ _ _ (by omega) h3 ?_
   intro _;cases hp:S.pl (tx.1,tx.2) fl with
   | true=>
    rw [e0] at hp;rw [hp,if_pos rfl] at hQ
    repeat apply Or.inl
    exact hQ
   | false=>
    rw [e0] at hp;rw [hp,if_neg (by simp),if_neg (by simp)] at hQ
    repeat apply Or.inl
    refine And.intro (fun _=>?_) (fun _=>?_)<;>first | (exfalso; omega) | skip
    repeat apply Or.inl
    refine And.intro (fun _=>?_) (fun _=>?_)<;>first | (exfalso; omega) | skip
    cases ba with
    | true=>
     repeat apply Or.inl
     refine And.intro (fun _=>?_) (fun _=>?_)<;>first | (exfalso; omega) | skip
     cases si with
     | true=>
      repeat apply Or.inl
      refine hS.r77 d _ _ _ (by omega) h3 ?_
      intro _;rw [Bool.true_and] at hQ;cases hs:S.sg (tx.1,tx.2) with
      | true=>rw [e0] at hs; rw [hs,if_pos rfl] at hQ; (repeat apply Or.inl); exact hQ
      | false=>rw [e0] at hs; rw [hs,if_neg (by simp)] at hQ; (repeat apply Or.inl); exact hQ
     | false=>rw [Bool.false_and,if_neg (by simp)] at hQ; (repeat apply Or.inl); exact hQ
    | false=>
     cases si with
     | true=>
      repeat apply Or.inl
      refine hS.r77 d _ _ _ (by omega) h3 ?_
      intro _;rw [Bool.true_and] at hQ;cases hs:S.sg (tx.1,tx.2) with
      | true=>rw [e0] at hs; rw [hs,if_pos rfl] at hQ; (repeat apply Or.inl); exact hQ
      | false=>rw [e0] at hs; rw [hs,if_neg (by simp)] at hQ; (repeat apply Or.inl); exact hQ
     | false=>rw [Bool.false_and,if_neg (by simp)] at hQ; (repeat apply Or.inl); exact hQ
 ·simp only [decide_eq_false q1,Bool.false_and,Bool.not_false,Bool.true_and,if_neg (show ¬ (false=true) by simp)] at hQ
  by_cases q4:st=4
  ·repeat apply Or.inl
   refine And.intro (fun _=>?_) (fun _=>?_)<;>first | (exfalso; omega) | skip
   repeat apply Or.inl
   refine And.intro (fun _=>?_) (fun _=>?_)<;>first | (exfalso; omega) | skip
   cases ba with
   | false=>
    rw [Bool.false_and,if_neg (by simp)] at hQ
    cases si with
    | true=>
     repeat apply Or.inl
     refine hS.r77 d _ _ _ (by omega) h3 ?_
     intro _;rw [Bool.true_and] at hQ;cases hs:S.sg (tx.1,tx.2) with
     | true=>rw [e0] at hs; rw [hs,if_pos rfl] at hQ; (repeat apply Or.inl); exact hQ
     | false=>rw [e0] at hs; rw [hs,if_neg (by simp)] at hQ; (repeat apply Or.inl); exact hQ
    | false=>rw [Bool.false_and,if_neg (by simp)] at hQ; (repeat apply Or.inl); exact hQ
   | true=>
    rw [Bool.true_and] at hQ
    repeat apply Or.inl
    refine And.intro (fun _=>?_) (fun _=>?_)<;>first | (exfalso; omega) | skip
    repeat apply Or.inl
    intro _ _;refine And.intro (fun h=>?_) (fun h=>?_)
    ·rw [vI h,Bool.true_and] at hQ
     repeat apply Or.inl
     refine hS.r104 d _ _ _ _ (by omega) h3 ?_
     intro _;cases hp:S.pl (tx.1,tx.2) fl with
     | false=>
      rw [e0] at hp;rw [hp,Bool.false_and,if_neg (by simp)] at hQ
      cases si with
      | true=>
       repeat apply Or.inl
       refine hS.r77 d _ _ _ (by omega) h3 ?_
       intro _;rw [Bool.true_and] at hQ;cases hs:S.sg (tx.1,tx.2) with
       | true=>rw [e0] at hs; rw [hs,if_pos rfl] at hQ; (repeat apply Or.inl); exact hQ
       | false=>rw [e0] at hs; rw [hs,if_neg (by simp)] at hQ; (repeat apply Or.inl); exact hQ
      | false=>rw [Bool.false_and,if_neg (by simp)] at hQ; (repeat apply Or.inl); exact hQ
     | true=>
      rw [e0] at hp;rw [hp,Bool.true_and] at hQ
      repeat apply Or.inl
      refine hS.r106 d _ _ _ (by omega) h3 ?_
      intro _;refine hS.r48 d _ _ _ (by omega) jId ?_
      intro _;intro _ _;refine And.intro (fun h=>?_) (fun h=>?_)
      ·rw [decide_eq_true (Prod.ext h.1 h.2),if_pos rfl] at hQ
       repeat apply Or.inl
       exact hQ
      ·rw [decide_eq_false (fun e=>h ⟨congrArg Prod.fst e,congrArg Prod.snd e⟩),if_neg (by simp)] at hQ
       cases si with
       | true=>
        repeat apply Or.inl
        refine hS.r77 d _ _ _ (by omega) h3 ?_
        intro _;rw [Bool.true_and] at hQ;cases hs:S.sg (tx.1,tx.2) with
        | true=>rw [e0] at hs; rw [hs,if_pos rfl] at hQ; (repeat apply Or.inl); exact hQ
        | false=>rw [e0] at hs; rw [hs,if_neg (by simp)] at hQ; (repeat apply Or.inl); exact hQ
       | false=>rw [Bool.false_and,if_neg (by simp)] at hQ; (repeat apply Or.inl); exact hQ
    ·rw [uN h,Bool.false_and,if_neg (by simp)] at hQ
     cases si with
     | true=>
      repeat apply Or.inl
      refine hS.r77 d _ _ _ (by omega) h3 ?_
      intro _;rw [Bool.true_and] at hQ;cases hs:S.sg (tx.1,tx.2) with
      | true=>rw [e0] at hs; rw [hs,if_pos rfl] at hQ; (repeat apply Or.inl); exact hQ
      | false=>rw [e0] at hs; rw [hs,if_neg (by simp)] at hQ; (repeat apply Or.inl); exact hQ
     | false=>rw [Bool.false_and,if_neg (by simp)] at hQ; (repeat apply Or.inl); exact hQ
  ·by_cases q5:st=5
   ·repeat apply Or.inl
    refine And.intro (fun _=>?_) (fun _=>?_)<;>first | (exfalso; omega) | skip
    repeat apply Or.inl
    refine And.intro (fun _=>?_) (fun _=>?_)<;>first | (exfalso; omega) | skip
    repeat apply Or.inl
    refine And.intro (fun _=>?_) (fun _=>?_)<;>first | (exfalso; omega) | skip
    cases ba with
    | false=>
     rw [Bool.false_and,if_neg (by simp)] at hQ
     cases si with
     | true=>
      repeat apply Or.inl
      refine hS.r77 d _ _ _ (by omega) h3 ?_
      intro _;rw [Bool.true_and] at hQ;cases hs:S.sg (tx.1,tx.2) with
      | true=>rw [e0] at hs; rw [hs,if_pos rfl] at hQ; (repeat apply Or.inl); exact hQ
      | false=>rw [e0] at hs; rw [hs,if_neg (by simp)] at hQ; (repeat apply Or.inl); exact hQ
     | false=>rw [Bool.false_and,if_neg (by simp)] at hQ; (repeat apply Or.inl); exact hQ
    | true=>
     rw [Bool.true_and] at hQ
     repeat apply Or.inl
     refine And.intro (fun _=>?_) (fun _=>?_)<;>first | (exfalso; omega) | skip
     repeat apply Or.inl
     intro _ _;refine And.intro (fun h=>?_) (fun h=>?_)
     ·rw [vI h,Bool.true_and] at hQ
      repeat apply Or.inl
      refine hS.r104 d _ _ _ _ (by omega) h3 ?_
      intro _;cases hp:S.pl (tx.1,tx.2) fl with
      | false=>
       rw [e0] at hp;rw [hp,Bool.false_and,if_neg (by simp)] at hQ
       cases si with
       | true=>
        repeat apply Or.inl
        refine hS.r77 d _ _ _ (by omega) h3 ?_
        intro _;rw [Bool.true_and] at hQ;cases hs:S.sg (tx.1,tx.2) with
        | true=>rw [e0] at hs; rw [hs,if_pos rfl] at hQ; (repeat apply Or.inl); exact hQ
        | false=>rw [e0] at hs; rw [hs,if_neg (by simp)] at hQ; (repeat apply Or.inl); exact hQ
       | false=>rw [Bool.false_and,if_neg (by simp)] at hQ; (repeat apply Or.inl); exact hQ
      | true=>
       rw [e0] at hp;rw [hp,Bool.true_and] at hQ
       repeat apply Or.inl
       refine hS.r106 d _ _ _ (by omega) h3 ?_
       intro _;refine hS.r48 d _ _ _ (by omega) jId ?_
       intro _;intro _ _;refine And.intro (fun h=>?_) (fun h=>?_)
       ·rw [decide_eq_true (Prod.ext h.1 h.2),if_pos rfl] at hQ
        repeat apply Or.inl
        exact hQ
       ·rw [decide_eq_false (fun e=>h ⟨congrArg Prod.fst e,congrArg Prod.snd e⟩),if_neg (by simp)] at hQ
        cases si with
        | true=>
         repeat apply Or.inl
         refine hS.r77 d _ _ _ (by omega) h3 ?_
         intro _;rw [Bool.true_and] at hQ;cases hs:S.sg (tx.1,tx.2) with
         | true=>rw [e0] at hs; rw [hs,if_pos rfl] at hQ; (repeat apply Or.inl); exact hQ
         | false=>rw [e0] at hs; rw [hs,if_neg (by simp)] at hQ; (repeat apply Or.inl); exact hQ
        | false=>rw [Bool.false_and,if_neg (by simp)] at hQ; (repeat apply Or.inl); exact hQ
     ·rw [uN h,Bool.false_and,if_neg (by simp)] at hQ
      cases si with
      | true=>
       repeat apply Or.inl
       refine hS.r77 d _ _ _ (by omega) h3 ?_
       intro _;rw [Bool.true_and] at hQ;cases hs:S.sg (tx.1,tx.2) with
       | true=>rw [e0] at hs; rw [hs,if_pos rfl] at hQ; (repeat apply Or.inl); exact hQ
       | false=>rw [e0] at hs; rw [hs,if_neg (by simp)] at hQ; (repeat apply Or.inl); exact hQ
      | false=>rw [Bool.false_and,if_neg (by simp)] at hQ; (repeat apply Or.inl); exact hQ
   ·repeat apply Or.inl
    refine And.intro (fun _=>?_) (fun _=>?_)<;>first | (exfalso; omega) | skip
    repeat apply Or.inl
    refine And.intro (fun _=>?_) (fun _=>?_)<;>first | (exfalso; omega) | skip
    repeat apply Or.inl
    refine And.intro (fun _=>?_) (fun _=>?_)<;>first | (exfalso; omega) | skip
    cases ba with
    | false=>
     rw [Bool.false_and,if_neg (by simp)] at hQ
     cases si with
     | true=>
      repeat apply Or.inl
      refine hS.r77 d _ _ _ (by omega) h3 ?_
      intro _;rw [Bool.true_and] at hQ;cases hs:S.sg (tx.1,tx.2) with
      | true=>rw [e0] at hs; rw [hs,if_pos rfl] at hQ; (repeat apply Or.inl); exact hQ
      | false=>rw [e0] at hs; rw [hs,if_neg (by simp)] at hQ; (repeat apply Or.inl); exact hQ
     | false=>rw [Bool.false_and,if_neg (by simp)] at hQ; (repeat apply Or.inl); exact hQ
    | true=>
     rw [Bool.true_and] at hQ
     repeat apply Or.inl
     refine And.intro (fun _=>?_) (fun _=>?_)<;>first | (exfalso; omega) | skip
     repeat apply Or.inl
     intro _ _;refine And.intro (fun h=>?_) (fun h=>?_)
     ·rw [vI h,Bool.true_and] at hQ
      repeat apply Or.inl
      refine hS.r104 d _ _ _ _ (by omega) h3 ?_
      intro _;cases hp:S.pl (tx.1,tx.2) fl with
      | false=>
       rw [e0] at hp;rw [hp,Bool.false_and,if_neg (by simp)] at hQ
       cases si with
       | true=>
        repeat apply Or.inl
        refine hS.r77 d _ _ _ (by omega) h3 ?_
        intro _;rw [Bool.true_and] at hQ;cases hs:S.sg (tx.1,tx.2) with
        | true=>rw [e0] at hs; rw [hs,if_pos rfl] at hQ; (repeat apply Or.inl); exact hQ
        | false=>rw [e0] at hs; rw [hs,if_neg (by simp)] at hQ; (repeat apply Or.inl); exact hQ
       | false=>rw [Bool.false_and,if_neg (by simp)] at hQ; (repeat apply Or.inl); exact hQ
      | true=>
       rw [e0] at hp;rw [hp,Bool.true_and] at hQ
       repeat apply Or.inl
       refine hS.r106 d _ _ _ (by omega) h3 ?_
       intro _;refine hS.r48 d _ _ _ (by omega) jId ?_
       intro _;intro _ _;refine And.intro (fun h=>?_) (fun h=>?_)
       ·rw [decide_eq_true (Prod.ext h.1 h.2),if_pos rfl] at hQ
        repeat apply Or.inl
        exact hQ
       ·rw [decide_eq_false (fun e=>h ⟨congrArg Prod.fst e,congrArg Prod.snd e⟩),if_neg (by simp)] at hQ
        cases si with
        | true=>
         repeat apply Or.inl
         refine hS.r77 d _ _ _ (by omega) h3 ?_
         intro _;rw [Bool.true_and] at hQ;cases hs:S.sg (tx.1,tx.2) with
         | true=>rw [e0] at hs; rw [hs,if_pos rfl] at hQ; (repeat apply Or.inl); exact hQ
         | false=>rw [e0] at hs; rw [hs,if_neg (by simp)] at hQ; (repeat apply Or.inl); exact hQ
        | false=>rw [Bool.false_and,if_neg (by simp)] at hQ; (repeat apply Or.inl); exact hQ
     ·rw [uN h,Bool.false_and,if_neg (by simp)] at hQ
      cases si with
      | true=>
       repeat apply Or.inl
       refine hS.r77 d _ _ _ (by omega) h3 ?_
       intro _;rw [Bool.true_and] at hQ;cases hs:S.sg (tx.1,tx.2) with
       | true=>rw [e0] at hs; rw [hs,if_pos rfl] at hQ; (repeat apply Or.inl); exact hQ
       | false=>rw [e0] at hs; rw [hs,if_neg (by simp)] at hQ; (repeat apply Or.inl); exact hQ
      | false=>rw [Bool.false_and,if_neg (by simp)] at hQ; (repeat apply Or.inl); exact hQ
theorem qMa {S:Sc} (hS:tK S) {si ba fl:Bool} {st:Int} {tg tx:Tx} (h:¬ mY S si ba fl st tg tx=1):fM S si ba fl st tg tx=S.qt tx si:=by
 unfold fM;rw [if_neg h,hS.qs tx si]
 congr 1
 unfold mY at h ⊢;split
 ·rename_i e; rw [if_pos e] at h; exact absurd rfl h
 ·rename_i e;rw [if_neg e] at h;split
  ·rename_i e2; rw [if_pos e2] at h; exact absurd rfl h
  ·split
   ·rename_i e3; rw [e3]; rfl
   ·rename_i e3; rw [Bool.eq_false_iff.2 e3]; rfl
theorem q46 {S:Sc} (hS:ScR Γ S) (h76:∀ d l H Q,tR S d l H Q→Γ d 76 l H Q) (d:Nat) (l:List SV) (H:Hp) (Q:Q2) (h:jCl S (d+1) l H Q):wF (PT.C G) Γ LL d 46 g46 l H Q:=by
 obtain ⟨si,ba,fl,k,st,an,tg,tx,ks,row,rfl,rfl,hr,ho,hd,hQ⟩:=h;have hr0:=hr;simp only [isQ] at hr;obtain ⟨n2,n3,w8,l8,w9,l9,b10,m11,v11,kr,rfl,_⟩:=hr;have ho0:=ho;simp only [okQ] at ho;obtain ⟨⟨_,_,h3⟩,_⟩:=ho
 repeat apply Or.inl
 refine h76 d _ _ _ ⟨si,ba,fl,k,st,an,tg,tx,ks,_,rfl,rfl,hr0,ho0,by omega,?_⟩
 repeat apply Or.inl
 refine And.intro (fun h=>?_) (fun h=>?_)
 ·unfold fM at hQ;rw [if_pos h] at hQ
  repeat apply Or.inl
  exact hQ
 ·rw [qMa hS.ok h] at hQ
  repeat apply Or.inl
  refine hS.r49 d _ _ _ _ (by omega) h3 ?_
  intro _
  repeat apply Or.inl
  exact hQ
theorem jZl {S:Sc} {si ba fl:Bool} {k st:Int} {an tg tx:Tx} {ks:List Tq} (h:kK k st tx=true):isE (zG S si ba (.mk k st an tg tx ks) fl)=isE (qO an tg):=by
 unfold kK at h;simp only [Bool.and_eq_true,decide_eq_true_eq] at h;obtain ⟨rfl,rfl,he⟩:=h;simp only [zG];have e1:zZ S si ba fl 1 1 tg tx (qA S si ba ks)=tx:=by
  unfold zZ;rw [if_neg (by decide),if_pos rfl]
  unfold fM mY;rw [he];simp
 rw [e1];unfold zT;rw [he,Bool.or_true,if_pos rfl];have h0:tx.1=0∧tx.2=0:=of_decide_eq_true he;unfold isE jX;simp only [h0.1,h0.2];simp
theorem q23 {S:Sc} (hS:ScR Γ S) (h22:∀ d l H Q,nH S d l H Q→Γ d 22 l H Q) (h47:∀ d l H Q,mG d l H Q→Γ d 47 l H Q) (h21:∀ d l H Q,gA d l H Q→Γ d 21 l H Q) (d:Nat) (l:List SV) (H:Hp) (Q:Q2) (h:jJr S (d+1) l H Q):wF (PT.C G) Γ LL d 23 g23 l H Q:=by
 obtain ⟨si,ba,fl,k,st,an,tg,tx,ks,row,rfl,rfl,hr,ho,hw,hd,hQ⟩:=h;have hr0:=hr;simp only [isQ] at hr;obtain ⟨n2,n3,w8,l8,w9,l9,b10,m11,v11,kr,rfl,_⟩:=hr;have e1:MX=140737488355328:=rfl;have hl:=yW hS.ok si ba (.mk k st an tg tx ks) fl ho;have hp1:1≤wtQ (.mk k st an tg tx ks):=by simp only [wtQ]; omega
 have hf:=(yT hS.ok si ba (.mk k st an tg tx ks) fl ho).2;have hv:=fun h=>jZl (S:=S) (si:=si) (ba:=ba) (fl:=fl) (k:=k) (st:=st) (an:=an) (tg:=tg) (tx:=tx) (ks:=ks) h;unfold sT at hQ
 repeat apply Or.inl
 refine h22 d _ _ _ ⟨si,ba,fl,_,_,rfl,rfl,hr0,ho,hw,by omega,?_⟩
 generalize zG S si ba (.mk k st an tg tx ks) fl=s at hQ hl hf hv
 repeat apply Or.inl
 refine And.intro (fun h=>?_) (fun h=>?_)
 ·rw [decide_eq_true h,Bool.true_or,if_pos rfl] at hQ
  repeat apply Or.inl
  refine ⟨by omega,fun _ _=>?_⟩
  repeat apply Or.inl
  refine ⟨by omega,fun _ _=>?_⟩
  repeat apply Or.inl
  exact hQ
 ·rw [decide_eq_false h,Bool.false_or] at hQ
  repeat apply Or.inl
  refine h47 d _ _ _ ⟨k,st,an,tg,tx,ks,_,rfl,rfl,hr0,by omega,?_⟩
  cases he:kK k st tx with
  | true=>
   rw [he,Bool.true_and,hv he] at hQ
   repeat apply Or.inl
   refine h21 d _ _ _ ⟨k,st,an,tg,tx,ks,_,rfl,rfl,hr0,ho,by omega,?_⟩
   repeat apply Or.inl
   intro _ _;refine And.intro (fun h=>?_) (fun h=>?_)
   ·rw [uN h,Bool.not_false,if_pos rfl] at hQ
    repeat apply Or.inl
    refine ⟨by omega,fun _ _=>?_⟩
    repeat apply Or.inl
    refine ⟨by omega,fun _ _=>?_⟩
    repeat apply Or.inl
    exact hQ
   ·rw [vI h,Bool.not_true,if_neg (by simp)] at hQ
    repeat apply Or.inl
    refine ⟨by omega,fun _ _=>?_⟩
    repeat apply Or.inl
    exact hQ
  | false=>
   rw [he,Bool.false_and,if_neg (by simp)] at hQ
   repeat apply Or.inl
   refine ⟨by omega,fun _ _=>?_⟩
   repeat apply Or.inl
   exact hQ
end
end
noncomputable section
set_option linter.all false
open Go Ev Rf
set_option maxRecDepth 2000
set_option maxHeartbeats 4000000
section
variable {G:Nat→List SV→SV→Prop} {Γ:qJ}
theorem xE (a b c:Tx):jX (jX a b) c=jX a (jX b c):=by
 refine Prod.ext ?_ ?_
 ·show a.1+b.1+c.1=a.1+(b.1+c.1); omega
 ·show a.2+b.2*256^a.1+c.2*256^(a.1+b.1)=a.2+(b.2+c.2*256^b.1)*256^a.1;rw [Nat.add_mul,Nat.pow_add,Nat.mul_assoc c.2,Nat.mul_comm (256^b.1),Nat.add_assoc]
theorem jDt (a:Tx):∀ (l:List Tx),l≠[]→jM (l++[a])=jX (jX (jM l) (2,8236)) a
 | [],h=>absurd rfl h
 | [b],_=>rfl
 | b::c::r,_=>by
  have h:=jDt a (c::r) (List.cons_ne_nil _ _);rw [List.cons_append] at h;rw [List.cons_append,List.cons_append,jM,h,jM,xE,xE,xE,xE,xE]
theorem jHx {l:List Tx} {i:Nat} {a o:Tx} (h:l[i]?=some a) (hi:0<i):jX (jX (jX o (jM (l.take i))) (2,8236)) a=jX o (jM (l.take (i+1))):=by
 have hne:l.take i≠[]:=by
  intro e;have h1:=congrArg List.length e;have h2:=(List.getElem?_eq_some_iff.1 h).1;rw [List.length_take] at h1;simp only [List.length_nil] at h1;omega
 rw [pT h,jDt a _ hne,xE,xE,xE]
theorem jRo {l:List Tx} {a o:Tx} (h:l[0]?=some a):jX (jX o (jM (l.take 0))) a=jX o (jM (l.take (0+1))):=by
 rw [pT h];rw [List.take_zero,List.nil_append];show jX (jX o (0,0)) a=jX o a
 congr 1
 refine Prod.ext ?_ ?_
 ·show o.1+0=o.1; rfl
 ·show o.2+0*256^o.1=o.2; omega
theorem jAk {l:List Tx} {i:Nat} {a o:Tx} (h:l[i]?=some a) (hi:i=0):jX (jX o (jM (l.take i))) a=jX o (jM (l.take (i+1))):=by
 subst hi;exact jRo h
theorem jDu (l:List Tx) (i:Nat):(jM (l.take i)).1≤kP l:=Nat.le_trans (yL _) (dD l i)
theorem jHz (a:Tx):∀ l:List Tx,kP (l++[a])=kP l+(a.1+2)
 | []=>by simp [kP]
 | b::l=>by rw [List.cons_append,kP,kP,jHz a l]; omega
theorem mN {l:List Tx} {i:Nat} {a:Tx} (h:l[i]?=some a):(jM (l.take i)).1+a.1+2≤kP l:=by
 have h1:=dD l (i+1);have h2:=yL (l.take i);rw [pT h,jHz] at h1;omega
theorem jAu {a b:Tx} (h:a=b):SV.s a.1 a.2=SV.s b.1 b.2:=by rw [h]
theorem q22 {S:Sc} (hS:ScR Γ S) (h21:∀ d l H Q,gA d l H Q→Γ d 21 l H Q) (h46:∀ d l H Q,jCl S d l H Q→Γ d 46 l H Q) (h47:∀ d l H Q,mG d l H Q→Γ d 47 l H Q) (h50:∀ d l H Q,fN d l H Q→Γ d 50 l H Q) (h22:∀ d l H Q,nH S d l H Q→Γ d 22 l H Q) (h23:∀ d l H Q,jJr S d l H Q→Γ d 23 l H Q) (d:Nat) (l:List SV) (H:Hp) (Q:Q2) (h:nH S (d+1) l H Q):wF (PT.C G) Γ LL d 22 g22 l H Q:=by
 obtain ⟨si,ba,fl,t,row,rfl,rfl,hr,ho,hw,hd,hQ⟩:=h;obtain ⟨k,st,an,tg,tx,ks⟩:=t;have hr0:=hr;simp only [isQ] at hr;obtain ⟨n2,n3,w8,l8,w9,l9,b10,m11,v11,kr,rfl,hks⟩:=hr;have e1:MX=140737488355328:=rfl;have e2:NB=1000000:=rfl;have e3:LL=200000000000000:=rfl;have ho0:=ho;have hf:=yT hS.ok si ba (.mk k st an tg tx ks) fl ho;simp only [okQ] at ho;obtain ⟨⟨h1,h2,h3⟩,⟨g1,g2,g3⟩,h5,h4⟩:=ho;have p1:=oP an tg;obtain ⟨k1,k2⟩:=nU hS.ok si ba ks h4;have hpc:uP (qO an tg):=tW ⟨g1,h1.2⟩ ⟨g2,h2.2⟩;simp only [zG] at hQ;simp only [wtQ] at hw hd;have fb:=lP hS.ok si ba fl (k:=k) (st:=st) (tg:=tg) (tx:=tx) h3 g3 (kM hS.ok si ba ks h4);have hlen:=eV hks;have hkl:=nV S si ba ks;have j1:=yL ((qA S si ba ks).map (·.1));rw [gG] at j1;have j2:=yL (uO (qA S si ba ks));have j3:=dB (qA S si ba ks);have p2:=jEp hS.ok (si:=si) (ba:=ba) (fl:=fl) (st:=st) (tg:=tg) h3
 repeat apply Or.inl
 refine And.intro (fun h=>?_) (fun h=>?_)
 ·have eb:zZ S si ba fl k st tg tx (qA S si ba ks)=jX (1,42) tx:=by unfold zZ; rw [if_pos h]
  rw [eb] at hQ fb
  repeat apply Or.inl
  refine ⟨by omega,fun _ _=>?_⟩
  repeat apply Or.inl
  refine h21 d _ _ _ ⟨k,st,an,tg,tx,ks,_,rfl,rfl,hr0,ho0,by omega,?_⟩
  repeat apply Or.inl
  refine h50 d _ _ _ ⟨qO an tg,jX (1,42) tx,rfl,rfl,hpc.2,fb.2,?_,by omega,?_⟩
  ·show (qO an tg).1+(1+tx.1)+1≤MX; omega
  intro _
  repeat apply Or.inl
  exact hQ
 ·repeat apply Or.inl
  refine And.intro (fun h'=>?_) (fun h'=>?_)
  ·have eb:zZ S si ba fl k st tg tx (qA S si ba ks)=fM S si ba fl st tg tx:=by unfold zZ; rw [if_neg h,if_pos h']
   rw [eb] at hQ fb
   repeat apply Or.inl
   refine h46 d _ _ _ ⟨si,ba,fl,k,st,an,tg,tx,ks,_,rfl,rfl,hr0,ho0,by omega,?_⟩
   repeat apply Or.inl
   refine h21 d _ _ _ ⟨k,st,an,tg,tx,ks,_,rfl,rfl,hr0,ho0,by omega,?_⟩
   repeat apply Or.inl
   refine h50 d _ _ _ ⟨qO an tg,fM S si ba fl st tg tx,rfl,rfl,hpc.2,fb.2,by omega,by omega,?_⟩
   intro _
   repeat apply Or.inl
   exact hQ
  ·repeat apply Or.inl
   refine And.intro (fun q=>?_) (fun q=>?_)
   ·have eb:zZ S si ba fl k st tg tx (qA S si ba ks)=jX (jX (1,91) (jM ((qA S si ba ks).map (·.1)))) (1,93):=by unfold zZ; rw [if_neg h,if_neg h',if_pos q]
    rw [eb] at hQ fb;have hLc:∀ p,p∈(qA S si ba ks).map (·.1)→p.2<256^p.1:=fun p hp=>by
     obtain ⟨y,hy,rfl⟩:=List.mem_map.1 hp;exact (kM hS.ok si ba ks h4 y hy).1.2
    generalize hL:(qA S si ba ks).map (·.1)=L at hQ j1 hLc fb;have hLl:L.length=ks.length:=by rw [←hL,List.length_map,hkl]
    have hLs:kP L=jRp (qA S si ba ks):=by rw [←hL,gG]
    repeat apply Or.inl
    refine mO 1 ⟨[3,4],[],Nat,fun i=>[(7,.s (jX (1,91) (jM (L.take i))).1 (jX (1,91) (jM (L.take i))).2),(8,.i .i64 (i:Int))],fun i=>[⟨35,0,.l [.i .i64 k,.i .i64 st,.i .i64 n2,.i .i64 n3,.s an.1 an.2,.s tg.1 tg.2,.s tx.1 tx.2,.qx 12 kr,.qx w8 l8,.qx w9 l9,.b b10,.s m11 v11]⟩,⟨39,0,.l (cf si ba)⟩],fun i=>i≤ks.length,fun i=>ks.length - i,⟨0,⟨⟨_,rfl,rfl⟩,⟨_,rfl,rfl⟩,⟨_,rfl,rfl⟩,⟨_,rfl,rfl⟩,trivial⟩,rfl,Nat.zero_le _,?_⟩,?_⟩
    ·show ks.length - 0<LL; omega
    intro i hi;have hjt:=jDu L i
    repeat apply Or.inl
    refine And.intro (fun hlt=>?_) (fun hge=>?_)
    ·repeat apply Or.inl
     by_cases hpos:0<i
     ·refine And.intro (fun _=>?_) (fun _=>?_)<;>first | (exfalso; omega) | skip
      repeat apply Or.inl
      refine ⟨?_,fun _ _=>?_⟩
      ·show 1+(jM (L.take i)).1+2≤_; omega
      repeat apply Or.inl
      refine And.intro ⟨by omega,by omega⟩ ?_
      intro p hp;obtain ⟨t,ht,hq⟩:=uU hks (k:=i) (by simpa using hp)
      have hwt:=fD ht;have hot:=uZ h4 ht;have hgt:=vT S si ba ht;have hq0:=hq;obtain ⟨k',st',an',tg',tx',ks'⟩:=t;simp only [isQ] at hq;obtain ⟨n2',n3',w8',l8',w9',l9',b10',m11',v11',kr',rfl,_⟩:=hq;have hLg:L[i]?=some (itm S si ba (.mk k' st' an' tg' tx' ks')).1:=by rw [←hL,List.getElem?_map,hgt]; rfl
      have hjb:=mN hLg;have hst:jX (jX (jX (1,91) (jM (L.take i))) (2,8236)) (itm S si ba (.mk k' st' an' tg' tx' ks')).1=jX (1,91) (jM (L.take (i+1))):=jHx hLg hpos;rw [mM] at hst hjb;dsimp only at hst hjb;have hsl:=yW hS.ok si ba (.mk k' st' an' tg' tx' ks') true hot;have hsp:1≤wtQ (.mk k' st' an' tg' tx' ks'):=by simp only [wtQ]; omega
      repeat apply Or.inl
      refine h47 d _ _ _ ⟨k',st',an',tg',tx',ks',_,rfl,rfl,hq0,by omega,?_⟩
      cases he:kK k' st' tx' with
      | true=>
       rw [he,Bool.true_and] at hst hjb
       repeat apply Or.inl
       refine And.intro ⟨by omega,by omega⟩ ?_
       intro p2 hp2;rw [hp] at hp2;cases hp2
       repeat apply Or.inl
       refine h21 d _ _ _ ⟨k',st',an',tg',tx',ks',_,rfl,rfl,hq0,hot,by omega,?_⟩
       repeat apply Or.inl
       intro _ _;refine And.intro (fun h=>?_) (fun h=>?_)
       ·rw [vI h,if_pos rfl] at hst hjb;have hn1:=hS.ok.ll;have hn2:=hS.ok.ql (0,0) si jOn;have hn3:(dJ S si).1=2+(S.lg (4,1819047278)).1+2+(S.qt (0,0) si).1:=rfl;dsimp only at hn2;unfold dJ at hst;rw [←xE,←xE,←xE] at hst
        repeat apply Or.inl
        refine ⟨?_,fun _ _=>?_⟩
        ·show (1+(jM (L.take i)).1+2)+2≤_; omega
        refine hS.r48 d _ _ _ (by omega) jSb ?_
        intro _;refine ⟨?_,fun _ _=>?_⟩
        ·show (1+(jM (L.take i)).1+2)+2+(S.lg (4,1819047278)).1≤_; omega
        refine ⟨?_,fun _ _=>?_⟩
        ·show (1+(jM (L.take i)).1+2)+2+(S.lg (4,1819047278)).1+2≤_; omega
        refine hS.r49 d _ _ _ _ (by omega) jOn ?_
        intro _;refine ⟨?_,fun _ _=>?_⟩
        ·show (1+(jM (L.take i)).1+2)+2+(S.lg (4,1819047278)).1+2+(S.qt (0,0) si).1≤_; omega
        repeat apply Or.inl
        refine And.intro ⟨by omega,by omega⟩ ?_
        repeat apply Or.inl
        refine ⟨i+1,⟨⟨_,rfl,jAu hst⟩,⟨_,rfl,rfl⟩,⟨_,rfl,rfl⟩,⟨_,rfl,rfl⟩,trivial⟩,⟨rfl,rfl,trivial⟩,?_,?_⟩
        ·show i+1≤ks.length; omega
        ·show ks.length - (i+1)<ks.length - i; omega
       ·rw [uN h,if_neg (by simp)] at hst hjb
        repeat apply Or.inl
        refine And.intro ⟨by omega,by omega⟩ ?_
        intro p3 hp3;rw [hp] at hp3;cases hp3
        repeat apply Or.inl
        refine h22 d _ _ _ ⟨si,ba,true,_,_,rfl,rfl,hq0,hot,by omega,by omega,?_⟩
        repeat apply Or.inl
        refine ⟨?_,fun _ _=>?_⟩
        ·show (1+(jM (L.take i)).1+2)+(zG S si ba (.mk k' st' an' tg' tx' ks') true).1≤_; omega
        repeat apply Or.inl
        refine And.intro ⟨by omega,by omega⟩ ?_
        repeat apply Or.inl
        refine ⟨i+1,⟨⟨_,rfl,jAu hst⟩,⟨_,rfl,rfl⟩,⟨_,rfl,rfl⟩,⟨_,rfl,rfl⟩,trivial⟩,⟨rfl,rfl,trivial⟩,?_,?_⟩
        ·show i+1≤ks.length; omega
        ·show ks.length - (i+1)<ks.length - i; omega
      | false=>
       rw [he,Bool.false_and,if_neg (by simp)] at hst hjb
       repeat apply Or.inl
       refine And.intro ⟨by omega,by omega⟩ ?_
       intro p3 hp3;rw [hp] at hp3;cases hp3
       repeat apply Or.inl
       refine h22 d _ _ _ ⟨si,ba,true,_,_,rfl,rfl,hq0,hot,by omega,by omega,?_⟩
       repeat apply Or.inl
       refine ⟨?_,fun _ _=>?_⟩
       ·show (1+(jM (L.take i)).1+2)+(zG S si ba (.mk k' st' an' tg' tx' ks') true).1≤_; omega
       repeat apply Or.inl
       refine And.intro ⟨by omega,by omega⟩ ?_
       repeat apply Or.inl
       refine ⟨i+1,⟨⟨_,rfl,jAu hst⟩,⟨_,rfl,rfl⟩,⟨_,rfl,rfl⟩,⟨_,rfl,rfl⟩,trivial⟩,⟨rfl,rfl,trivial⟩,?_,?_⟩
       ·show i+1≤ks.length; omega
       ·show ks.length - (i+1)<ks.length - i; omega
     ·have hi0:i=0:=by omega
      refine And.intro (fun _=>?_) (fun _=>?_)<;>first | (exfalso; omega) | skip
      repeat apply Or.inl
      refine And.intro ⟨by omega,by omega⟩ ?_
      intro p hp;obtain ⟨t,ht,hq⟩:=uU hks (k:=i) (by simpa using hp)
      have hwt:=fD ht;have hot:=uZ h4 ht;have hgt:=vT S si ba ht;have hq0:=hq;obtain ⟨k',st',an',tg',tx',ks'⟩:=t;simp only [isQ] at hq;obtain ⟨n2',n3',w8',l8',w9',l9',b10',m11',v11',kr',rfl,_⟩:=hq;have hLg:L[i]?=some (itm S si ba (.mk k' st' an' tg' tx' ks')).1:=by rw [←hL,List.getElem?_map,hgt]; rfl
      have hjb:=mN hLg;have hst:jX (jX (1,91) (jM (L.take i))) (itm S si ba (.mk k' st' an' tg' tx' ks')).1=jX (1,91) (jM (L.take (i+1))):=jAk hLg hi0;rw [mM] at hst hjb;dsimp only at hst hjb;have hsl:=yW hS.ok si ba (.mk k' st' an' tg' tx' ks') true hot;have hsp:1≤wtQ (.mk k' st' an' tg' tx' ks'):=by simp only [wtQ]; omega
      repeat apply Or.inl
      refine h47 d _ _ _ ⟨k',st',an',tg',tx',ks',_,rfl,rfl,hq0,by omega,?_⟩
      cases he:kK k' st' tx' with
      | true=>
       rw [he,Bool.true_and] at hst hjb
       repeat apply Or.inl
       refine And.intro ⟨by omega,by omega⟩ ?_
       intro p2 hp2;rw [hp] at hp2;cases hp2
       repeat apply Or.inl
       refine h21 d _ _ _ ⟨k',st',an',tg',tx',ks',_,rfl,rfl,hq0,hot,by omega,?_⟩
       repeat apply Or.inl
       intro _ _;refine And.intro (fun h=>?_) (fun h=>?_)
       ·rw [vI h,if_pos rfl] at hst hjb;have hn1:=hS.ok.ll;have hn2:=hS.ok.ql (0,0) si jOn;have hn3:(dJ S si).1=2+(S.lg (4,1819047278)).1+2+(S.qt (0,0) si).1:=rfl;dsimp only at hn2;unfold dJ at hst;rw [←xE,←xE,←xE] at hst
        repeat apply Or.inl
        refine ⟨?_,fun _ _=>?_⟩
        ·show (1+(jM (L.take i)).1)+2≤_; omega
        refine hS.r48 d _ _ _ (by omega) jSb ?_
        intro _;refine ⟨?_,fun _ _=>?_⟩
        ·show (1+(jM (L.take i)).1)+2+(S.lg (4,1819047278)).1≤_; omega
        refine ⟨?_,fun _ _=>?_⟩
        ·show (1+(jM (L.take i)).1)+2+(S.lg (4,1819047278)).1+2≤_; omega
        refine hS.r49 d _ _ _ _ (by omega) jOn ?_
        intro _;refine ⟨?_,fun _ _=>?_⟩
        ·show (1+(jM (L.take i)).1)+2+(S.lg (4,1819047278)).1+2+(S.qt (0,0) si).1≤_; omega
        repeat apply Or.inl
        refine And.intro ⟨by omega,by omega⟩ ?_
        repeat apply Or.inl
        refine ⟨i+1,⟨⟨_,rfl,jAu hst⟩,⟨_,rfl,rfl⟩,⟨_,rfl,rfl⟩,⟨_,rfl,rfl⟩,trivial⟩,⟨rfl,rfl,trivial⟩,?_,?_⟩
        ·show i+1≤ks.length; omega
        ·show ks.length - (i+1)<ks.length - i; omega
       ·rw [uN h,if_neg (by simp)] at hst hjb
        repeat apply Or.inl
        refine And.intro ⟨by omega,by omega⟩ ?_
        intro p3 hp3;rw [hp] at hp3;cases hp3
        repeat apply Or.inl
        refine h22 d _ _ _ ⟨si,ba,true,_,_,rfl,rfl,hq0,hot,by omega,by omega,?_⟩
        repeat apply Or.inl
        refine ⟨?_,fun _ _=>?_⟩
        ·show (1+(jM (L.take i)).1)+(zG S si ba (.mk k' st' an' tg' tx' ks') true).1≤_; omega
        repeat apply Or.inl
        refine And.intro ⟨by omega,by omega⟩ ?_
        repeat apply Or.inl
        refine ⟨i+1,⟨⟨_,rfl,jAu hst⟩,⟨_,rfl,rfl⟩,⟨_,rfl,rfl⟩,⟨_,rfl,rfl⟩,trivial⟩,⟨rfl,rfl,trivial⟩,?_,?_⟩
        ·show i+1≤ks.length; omega
        ·show ks.length - (i+1)<ks.length - i; omega
      | false=>
       rw [he,Bool.false_and,if_neg (by simp)] at hst hjb
       repeat apply Or.inl
       refine And.intro ⟨by omega,by omega⟩ ?_
       intro p3 hp3;rw [hp] at hp3;cases hp3
       repeat apply Or.inl
       refine h22 d _ _ _ ⟨si,ba,true,_,_,rfl,rfl,hq0,hot,by omega,by omega,?_⟩
       repeat apply Or.inl
       refine ⟨?_,fun _ _=>?_⟩
       ·show (1+(jM (L.take i)).1)+(zG S si ba (.mk k' st' an' tg' tx' ks') true).1≤_; omega
       repeat apply Or.inl
       refine And.intro ⟨by omega,by omega⟩ ?_
       repeat apply Or.inl
       refine ⟨i+1,⟨⟨_,rfl,jAu hst⟩,⟨_,rfl,rfl⟩,⟨_,rfl,rfl⟩,⟨_,rfl,rfl⟩,trivial⟩,⟨rfl,rfl,trivial⟩,?_,?_⟩
       ·show i+1≤ks.length; omega
       ·show ks.length - (i+1)<ks.length - i; omega
    ·obtain rfl:i=ks.length:=by omega
     have hT:L.take ks.length=L:=by rw [List.take_of_length_le (by omega)]
     rw [←hT] at hQ fb
     repeat apply Or.inl
     refine ⟨?_,fun _ _=>?_⟩
     ·show 1+(jM (L.take ks.length)).1+1≤_; omega
     repeat apply Or.inl
     refine h21 d _ _ _ ⟨k,st,an,tg,tx,ks,_,rfl,rfl,hr0,ho0,by omega,?_⟩
     repeat apply Or.inl
     refine h50 d _ _ _ ⟨qO an tg,_,rfl,rfl,hpc.2,fb.2,?_,by omega,?_⟩
     ·show (qO an tg).1+(1+(jM (L.take ks.length)).1+1)+1≤MX; omega
     intro _
     repeat apply Or.inl
     exact hQ
   ·repeat apply Or.inl
    refine And.intro (fun q'=>?_) (fun q'=>?_)
    ·have eb:zZ S si ba fl k st tg tx (qA S si ba ks)=jX (jX (1,123) (jM (uO (qA S si ba ks)))) (1,125):=by unfold zZ; rw [if_neg h,if_neg h',if_neg q,if_pos q']
     rw [eb] at hQ fb;have hPl:=jEm (qA S si ba ks);rw [hkl] at hPl;have hPg:=fun j a b=>jEl (l:=qA S si ba ks) (j:=j) (a:=a) (b:=b);have hLs:kP (uO (qA S si ba ks))≤50*dW ks:=by omega
     generalize uO (qA S si ba ks)=L at hQ j2 j3 hPl hPg fb hLs
     repeat apply Or.inl
     refine mO 3 ⟨[3,4],[],Nat,fun i=>[(7,.s (jX (1,123) (jM (L.take i))).1 (jX (1,123) (jM (L.take i))).2),(9,.i .i64 (2*(i:Int)))],fun i=>[⟨35,0,.l [.i .i64 k,.i .i64 st,.i .i64 n2,.i .i64 n3,.s an.1 an.2,.s tg.1 tg.2,.s tx.1 tx.2,.qx 12 kr,.qx w8 l8,.qx w9 l9,.b b10,.s m11 v11]⟩,⟨39,0,.l (cf si ba)⟩],fun i=>i≤L.length,fun i=>L.length - i,⟨0,⟨⟨_,rfl,rfl⟩,⟨_,rfl,rfl⟩,⟨_,rfl,rfl⟩,⟨_,rfl,rfl⟩,trivial⟩,rfl,Nat.zero_le _,?_⟩,?_⟩
     ·show L.length - 0<LL; omega
     intro i hi;have hjt:=jDu L i
     repeat apply Or.inl
     refine And.intro ⟨by omega,by omega⟩ ?_
     repeat apply Or.inl
     refine And.intro (fun hlt=>?_) (fun hge=>?_)
     ·repeat apply Or.inl
      by_cases hpos:0<i
      ·refine And.intro (fun _=>?_) (fun _=>?_)<;>first | (exfalso; omega) | skip
       repeat apply Or.inl
       refine ⟨?_,fun _ _=>?_⟩
       ·show 1+(jM (L.take i)).1+2≤_; omega
       repeat apply Or.inl
       refine And.intro ⟨by omega,by omega⟩ ?_
       intro p hp;rw [show (2*(i:Int)).toNat=2*i by omega] at hp
       obtain ⟨t,ht,hq⟩:=uU hks hp;have hot:=uZ h4 ht;have hgt:=vT S si ba ht;have hq0:=hq;obtain ⟨k',st',an',tg',tx',ks'⟩:=t;simp only [isQ] at hq;obtain ⟨n2',n3',w8',l8',w9',l9',b10',m11',v11',kr',rfl,_⟩:=hq;have hwt0:=fD ht
       repeat apply Or.inl
       refine h23 d _ _ _ ⟨si,ba,true,k',st',an',tg',tx',ks',_,rfl,rfl,hq0,hot,by omega,by omega,?_⟩
       repeat apply Or.inl
       refine And.intro ⟨by omega,by omega⟩ ?_
       refine And.intro ⟨by omega,by omega⟩ ?_
       intro p2 hp2;rw [show (2*(i:Int)+1).toNat=2*i+1 by omega] at hp2
       obtain ⟨u,hu,hq2⟩:=uU hks hp2;have hou:=uZ h4 hu;have hgu:=vT S si ba hu;have hwt:=sO ht hu;have hu0:=hq2;obtain ⟨k4,st4,an4,tg4,tx4,ks4⟩:=u;simp only [isQ] at hq2;obtain ⟨n24,n34,w84,l84,w94,l94,b104,m114,v114,kr4,rfl,_⟩:=hq2;have hLg:=hPg i _ _ hgt hgu;rw [mM,mM] at hLg;dsimp only at hLg;have hjb:=mN hLg;have hst:jX (jX (jX (1,123) (jM (L.take i))) (2,8236)) (zT (sT k' st' tx' (zG S si ba (.mk k' st' an' tg' tx' ks') true)) (zG S si ba (.mk k4 st4 an4 tg4 tx4 ks4) true))=jX (1,123) (jM (L.take (i+1))):=jHx hLg hpos;have f1:=yT hS.ok si ba (.mk k' st' an' tg' tx' ks') true hot;have f2:=yT hS.ok si ba (.mk k4 st4 an4 tg4 tx4 ks4) true hou;have f3:=eI (k:=k') (st:=st') (tx:=tx') f1;have l1:=yW hS.ok si ba (.mk k' st' an' tg' tx' ks') true hot;have l2:=yW hS.ok si ba (.mk k4 st4 an4 tg4 tx4 ks4) true hou;have l3:=jBo k' st' tx' (zG S si ba (.mk k' st' an' tg' tx' ks') true);have l4:=kO (sT k' st' tx' (zG S si ba (.mk k' st' an' tg' tx' ks') true)) (zG S si ba (.mk k4 st4 an4 tg4 tx4 ks4) true)
       repeat apply Or.inl
       refine h22 d _ _ _ ⟨si,ba,true,_,_,rfl,rfl,hu0,hou,by omega,by omega,?_⟩
       refine h50 d _ _ _ ⟨_,_,rfl,rfl,f3.2,f2.2,by omega,by omega,?_⟩
       intro _;refine ⟨?_,fun _ _=>?_⟩
       ·show (1+(jM (L.take i)).1+2)+(zT (sT k' st' tx' (zG S si ba (.mk k' st' an' tg' tx' ks') true)) (zG S si ba (.mk k4 st4 an4 tg4 tx4 ks4) true)).1≤_; omega
       repeat apply Or.inl
       refine And.intro ⟨by omega,by omega⟩ ?_
       repeat apply Or.inl
       refine ⟨i+1,⟨⟨_,rfl,jAu hst⟩,⟨_,rfl,?_⟩,⟨_,rfl,rfl⟩,⟨_,rfl,rfl⟩,trivial⟩,⟨rfl,rfl,trivial⟩,?_,?_⟩
       ·show SV.i .i64 (2*(i:Int)+2) = .i .i64 (2*((i+1:Nat):Int))
        congr 1
       ·show i+1≤L.length; have:=(List.getElem?_eq_some_iff.1 hLg).1; omega
       ·show L.length - (i+1)<L.length - i; have:=(List.getElem?_eq_some_iff.1 hLg).1; omega
      ·have hi0:i=0:=by omega
       refine And.intro (fun _=>?_) (fun _=>?_)<;>first | (exfalso; omega) | skip
       repeat apply Or.inl
       refine And.intro ⟨by omega,by omega⟩ ?_
       intro p hp;rw [show (2*(i:Int)).toNat=2*i by omega] at hp
       obtain ⟨t,ht,hq⟩:=uU hks hp;have hot:=uZ h4 ht;have hgt:=vT S si ba ht;have hq0:=hq;obtain ⟨k',st',an',tg',tx',ks'⟩:=t;simp only [isQ] at hq;obtain ⟨n2',n3',w8',l8',w9',l9',b10',m11',v11',kr',rfl,_⟩:=hq;have hwt0:=fD ht
       repeat apply Or.inl
       refine h23 d _ _ _ ⟨si,ba,true,k',st',an',tg',tx',ks',_,rfl,rfl,hq0,hot,by omega,by omega,?_⟩
       repeat apply Or.inl
       refine And.intro ⟨by omega,by omega⟩ ?_
       refine And.intro ⟨by omega,by omega⟩ ?_
       intro p2 hp2;rw [show (2*(i:Int)+1).toNat=2*i+1 by omega] at hp2
       obtain ⟨u,hu,hq2⟩:=uU hks hp2;have hou:=uZ h4 hu;have hgu:=vT S si ba hu;have hwt:=sO ht hu;have hu0:=hq2;obtain ⟨k4,st4,an4,tg4,tx4,ks4⟩:=u;simp only [isQ] at hq2;obtain ⟨n24,n34,w84,l84,w94,l94,b104,m114,v114,kr4,rfl,_⟩:=hq2;have hLg:=hPg i _ _ hgt hgu;rw [mM,mM] at hLg;dsimp only at hLg;have hjb:=mN hLg;have hst:jX (jX (1,123) (jM (L.take i))) (zT (sT k' st' tx' (zG S si ba (.mk k' st' an' tg' tx' ks') true)) (zG S si ba (.mk k4 st4 an4 tg4 tx4 ks4) true))=jX (1,123) (jM (L.take (i+1))):=jAk hLg hi0;have f1:=yT hS.ok si ba (.mk k' st' an' tg' tx' ks') true hot;have f2:=yT hS.ok si ba (.mk k4 st4 an4 tg4 tx4 ks4) true hou;have f3:=eI (k:=k') (st:=st') (tx:=tx') f1;have l1:=yW hS.ok si ba (.mk k' st' an' tg' tx' ks') true hot;have l2:=yW hS.ok si ba (.mk k4 st4 an4 tg4 tx4 ks4) true hou;have l3:=jBo k' st' tx' (zG S si ba (.mk k' st' an' tg' tx' ks') true);have l4:=kO (sT k' st' tx' (zG S si ba (.mk k' st' an' tg' tx' ks') true)) (zG S si ba (.mk k4 st4 an4 tg4 tx4 ks4) true)
       repeat apply Or.inl
       refine h22 d _ _ _ ⟨si,ba,true,_,_,rfl,rfl,hu0,hou,by omega,by omega,?_⟩
       refine h50 d _ _ _ ⟨_,_,rfl,rfl,f3.2,f2.2,by omega,by omega,?_⟩
       intro _;refine ⟨?_,fun _ _=>?_⟩
       ·show (1+(jM (L.take i)).1)+(zT (sT k' st' tx' (zG S si ba (.mk k' st' an' tg' tx' ks') true)) (zG S si ba (.mk k4 st4 an4 tg4 tx4 ks4) true)).1≤_; omega
       repeat apply Or.inl
       refine And.intro ⟨by omega,by omega⟩ ?_
       repeat apply Or.inl
       refine ⟨i+1,⟨⟨_,rfl,jAu hst⟩,⟨_,rfl,?_⟩,⟨_,rfl,rfl⟩,⟨_,rfl,rfl⟩,trivial⟩,⟨rfl,rfl,trivial⟩,?_,?_⟩
       ·show SV.i .i64 (2*(i:Int)+2) = .i .i64 (2*((i+1:Nat):Int))
        congr 1
       ·show i+1≤L.length; have:=(List.getElem?_eq_some_iff.1 hLg).1; omega
       ·show L.length - (i+1)<L.length - i; have:=(List.getElem?_eq_some_iff.1 hLg).1; omega
     ·have hil:i=L.length:=by omega
      have hT:L.take i=L:=by rw [hil,List.take_length]
      rw [←hT] at hQ fb
      repeat apply Or.inl
      refine ⟨?_,fun _ _=>?_⟩
      ·show 1+(jM (L.take i)).1+1≤_; omega
      repeat apply Or.inl
      refine h21 d _ _ _ ⟨k,st,an,tg,tx,ks,_,rfl,rfl,hr0,ho0,by omega,?_⟩
      repeat apply Or.inl
      refine h50 d _ _ _ ⟨qO an tg,_,rfl,rfl,hpc.2,fb.2,?_,by omega,?_⟩
      ·show (qO an tg).1+(1+(jM (L.take i)).1+1)+1≤MX; omega
      intro _
      repeat apply Or.inl
      exact hQ
    ·have eb:zZ S si ba fl k st tg tx (qA S si ba ks)=(0,0):=by unfold zZ; rw [if_neg h,if_neg h',if_neg q,if_neg q']
     rw [eb] at hQ
     repeat apply Or.inl
     refine h21 d _ _ _ ⟨k,st,an,tg,tx,ks,_,rfl,rfl,hr0,ho0,by omega,?_⟩
     repeat apply Or.inl
     refine h50 d _ _ _ ⟨qO an tg,(0,0),rfl,rfl,hpc.2,by decide,?_,by omega,?_⟩
     ·show (qO an tg).1+0+1≤MX; omega
     intro _
     repeat apply Or.inl
     exact hQ
end
end
noncomputable section
set_option linter.all false
open Go Ev Rf
set_option maxRecDepth 2000
set_option maxHeartbeats 4000000
section
variable {G:Nat→List SV→SV→Prop} {Γ:qJ}
theorem q6 {S:Sc} (hS:ScR Γ S) (h11:∀ d l H Q,gA d l H Q→Γ d 11 l H Q) (h21:∀ d l H Q,gA d l H Q→Γ d 21 l H Q) (h9:∀ d l H Q,nH S d l H Q→Γ d 9 l H Q) (h22:∀ d l H Q,nH S d l H Q→Γ d 22 l H Q) (h10:∀ d l H Q,jJr S d l H Q→Γ d 10 l H Q) (h23:∀ d l H Q,jJr S d l H Q→Γ d 23 l H Q) (h6:∀ d l H Q,jMq d l H Q→Γ d 6 l H Q) (d:Nat) (l:List SV) (H:Hp) (Q:Q2) (h:jMq (d+1) l H Q):wF (PT.C G) Γ LL d 6 g6 l H Q:=by
 obtain ⟨si,ba,fl,t,row,rfl,rfl,hr,ho,hw,hd,hQ⟩:=h;obtain ⟨k,st,an,tg,tx,ks⟩:=t;have hr0:=hr;simp only [isQ] at hr;obtain ⟨n2,n3,w8,l8,w9,l9,b10,m11,v11,kr,rfl,hks⟩:=hr;have e1:MX=140737488355328:=rfl;have e2:NB=1000000:=rfl;have e3:LL=200000000000000:=rfl;have ho0:=ho;simp only [okQ] at ho;obtain ⟨_,_,h5,h4⟩:=ho;have hlen:=eV hks;have hw1:1≤wtQ (.mk k st an tg tx ks):=by simp only [wtQ]; omega
 have hw2:dW ks+1≤wtQ (.mk k st an tg tx ks):=by simp only [wtQ]; omega
 repeat apply Or.inl
 refine h11 d _ _ _ ⟨k,st,an,tg,tx,ks,_,rfl,rfl,hr0,ho0,by omega,?_⟩
 repeat apply Or.inl
 refine h21 d _ _ _ ⟨k,st,an,tg,tx,ks,_,rfl,rfl,hr0,ho0,by omega,?_⟩
 repeat apply Or.inl
 intro _ _;refine And.intro (fun h=>?_) (fun h=>?_)
 ·exact absurd ⟨rfl,rfl⟩ h
 repeat apply Or.inl
 refine h9 d _ _ _ ⟨si,ba,fl,_,_,rfl,rfl,hr0,ho0,hw,by omega,?_⟩
 repeat apply Or.inl
 refine h22 d _ _ _ ⟨si,ba,fl,_,_,rfl,rfl,hr0,ho0,hw,by omega,?_⟩
 repeat apply Or.inl
 intro _ _;refine And.intro (fun h=>?_) (fun h=>?_)
 ·exact absurd ⟨rfl,rfl⟩ h
 repeat apply Or.inl
 refine h10 d _ _ _ ⟨si,ba,fl,k,st,an,tg,tx,ks,_,rfl,rfl,hr0,ho0,hw,by omega,?_⟩
 repeat apply Or.inl
 refine h23 d _ _ _ ⟨si,ba,fl,k,st,an,tg,tx,ks,_,rfl,rfl,hr0,ho0,hw,by omega,?_⟩
 repeat apply Or.inl
 intro _ _;refine And.intro (fun h=>?_) (fun h=>?_)
 ·exact absurd ⟨rfl,rfl⟩ h
 repeat apply Or.inl
 refine mO 0 ⟨[2,3,4],[],Nat,fun i=>[(7,.i .i64 (i:Int))],fun i=>[⟨35,0,.l [.i .i64 k,.i .i64 st,.i .i64 n2,.i .i64 n3,.s an.1 an.2,.s tg.1 tg.2,.s tx.1 tx.2,.qx 12 kr,.qx w8 l8,.qx w9 l9,.b b10,.s m11 v11]⟩,⟨39,0,.l (cf si ba)⟩],fun i=>i≤ks.length,fun i=>ks.length - i,⟨0,⟨⟨_,rfl,rfl⟩,⟨_,rfl,rfl⟩,⟨_,rfl,rfl⟩,⟨_,rfl,rfl⟩,trivial⟩,rfl,Nat.zero_le _,?_⟩,?_⟩
 ·show ks.length - 0<LL; omega
 intro i hi
 repeat apply Or.inl
 refine And.intro (fun hlt=>?_) (fun hge=>?_)
 ·repeat apply Or.inl
  refine And.intro ⟨by omega,by omega⟩ ?_
  intro p hp;obtain ⟨t,ht,hq⟩:=uU hks (k:=i) (by simpa using hp)
  have hwt:=fD ht;have hot:=uZ h4 ht;have hq0:=hq;obtain ⟨k',st',an',tg',tx',ks'⟩:=t;simp only [isQ] at hq;obtain ⟨n2',n3',w8',l8',w9',l9',b10',m11',v11',kr',rfl,_⟩:=hq
  repeat apply Or.inl
  refine h6 d _ _ _ ⟨si,ba,fl,_,_,rfl,rfl,hq0,hot,by omega,by omega,?_⟩
  repeat apply Or.inl
  refine And.intro ⟨by omega,by omega⟩ ?_
  repeat apply Or.inl
  refine ⟨i+1,⟨⟨_,rfl,rfl⟩,⟨_,rfl,rfl⟩,⟨_,rfl,rfl⟩,⟨_,rfl,rfl⟩,trivial⟩,⟨rfl,rfl,trivial⟩,?_,?_⟩
  ·show i+1≤ks.length; omega
  ·show ks.length - (i+1)<ks.length - i; omega
 ·repeat apply Or.inl
  exact hQ
end
section
variable {G:Nat→List SV→SV→Prop} {Γ:qJ}
def qAk:Ct:=fun d l H Q=>l=[]∧H=[]∧1≤d∧Q (.b true) []
def qKv:Ct:=fun d l H Q=>∃ (n v m:Nat) (fl si ba:Bool),l=[.s n v,.fis m,.b fl,.b si,.b ba]∧H=[]∧v<256^n∧100000000000000≤d∧Q (.b true) []
def qBz (Γ:qJ):Prop:=∀ (d n v:Nat) (Q:Q2),n≤11100→260001300≤d→(∀ (r k r2 k2:Nat) (p c:Int),r≤2776110000000→k≤NB→k2≤NB→Q (.tup [.agg [.q 3 r k,.q 0 r2 k2],.i .i64 p,.i .i64 c]) [])→Γ d 5 [.s n v] [] Q
def qKf (Γ:qJ):Prop:=∀ (d m:Nat) (Q:Q2),m≤100→460≤d→(∀ n v:Nat,n≤11100→Q (.s n v) [])→Γ d 8 [.fis m] [] Q
theorem kq:Kq (PT.C G):=⟨fun r=>rfl,fun r=>rfl,rfl,rfl,fun f h=>by
  have h:rpK (PT.rk 1) f:=h;have h0:=h (4,none) (by decide) trivial
  have h1:=h (5,none) (by decide) trivial
  exact ⟨h0,h1,fun k e=>h (6,some 0) (by decide) ⟨k,e⟩⟩,fun f h=>by
  have h:rpK (PT.rk 3) f:=h;have h0:=h (7,none) (by decide) trivial
  have h1:=h (8,none) (by decide) trivial
  exact ⟨h0,h1,fun k e=>h (9,some 3) (by decide) ⟨k,e⟩⟩⟩
theorem q3 {S:Sc} (h4:∀ d l H Q,qAk d l H Q→Γ d 4 l H Q) (h5:qBz Γ) (h10:qKf Γ) (h7:∀ d l H Q,jTy d l H Q→Γ d 7 l H Q) (h6:∀ d l H Q,jMq d l H Q→Γ d 6 l H Q) (d:Nat) (l:List SV) (H:Hp) (Q:Q2) (h:qKv (d+1) l H Q):wF (PT.C G) Γ LL d 3 g3 l H Q:=by
 obtain ⟨n,v,m,fl,si,ba,rfl,rfl,hv,hd,hQ⟩:=h;have e1:MX=140737488355328:=rfl;have e2:NB=1000000:=rfl;have e3:LL=200000000000000:=rfl
 repeat apply Or.inl
 refine And.intro (fun hn=>?_) (fun hn=>?_)
 ·repeat apply Or.inl
  refine h4 d _ _ _ ⟨rfl,rfl,by omega,?_⟩
  intro _
  repeat apply Or.inl
  exact hQ
 ·repeat apply Or.inl
  refine And.intro (fun hm=>?_) (fun hm=>?_)
  ·repeat apply Or.inl
   refine h4 d _ _ _ ⟨rfl,rfl,by omega,?_⟩
   intro _
   repeat apply Or.inl
   exact hQ
  ·repeat apply Or.inl
   refine mO 0 ⟨[1,2,3,4],[],Nat×Nat×Nat,fun p=>[(11,.i .i64 (p.1:Int)),(0,.s p.2.1 p.2.2)],fun p=>[],fun p=>p.1≤2∧p.2.1≤11100,fun p=>2 - p.1,⟨(0,n,v),⟨⟨_,rfl,rfl⟩,⟨_,rfl,rfl⟩,⟨_,rfl,rfl⟩,⟨_,rfl,rfl⟩,⟨_,rfl,rfl⟩,⟨_,rfl,rfl⟩,trivial⟩,rfl,⟨Nat.zero_le _,?_⟩,?_⟩,?_⟩
   ·show n≤11100; omega
   ·show 2 - 0<LL; omega
   rintro ⟨i,n,v⟩ ⟨hi,hn⟩;dsimp only at hi hn
   repeat apply Or.inl
   refine And.intro (fun hlt=>?_) (fun hge=>?_)
   ·refine Or.inl ?_;refine Or.inr ?_;refine h5 d _ _ _ hn (by omega) fun r k r2 k2 pp cc hr hk hk2=>?_
    intro v' hv;obtain ⟨l1,rfl,y1,t1,rfl,hy1,y2,t2,rfl,hy2,y3,t3,rfl,hy3,rfl⟩:=hv;cases hy2;cases hy3;obtain ⟨l2,rfl,z1,s1,rfl,⟨D,rfl,hD,nD⟩,z2,s2,rfl,⟨E,rfl,hE,nE⟩,rfl⟩:=hy1;obtain ⟨lD,eD,bD,rD⟩:=jEd nD;cases eD;obtain ⟨ds,d1,d2,d3⟩:=qCv kq rD
    repeat apply Or.inl
    refine mO 2 ⟨[0,1,2,3,4,11,12],[],Nat,fun k=>[(15,.i .i64 (k:Int))],fun k=>[⟨27,0,.l [.qx 16 D,.qx 2 E]⟩],fun k=>k≤ds.length,fun k=>ds.length - k,⟨0,⟨⟨_,rfl,rfl⟩,⟨_,rfl,rfl⟩,⟨_,rfl,rfl⟩,⟨_,rfl,rfl⟩,⟨_,rfl,rfl⟩,⟨_,rfl,rfl⟩,⟨_,rfl,rfl⟩,⟨_,rfl,rfl⟩,trivial⟩,rfl,Nat.zero_le _,?_⟩,?_⟩
    ·show ds.length - 0<LL; omega
    intro k hk
    repeat apply Or.inl
    refine And.intro (fun hlt2=>?_) (fun hge2=>?_)
    ·repeat apply Or.inl
     refine And.intro ⟨by omega,by omega⟩ ?_
     intro p hp;obtain ⟨t,ht,hq⟩:=jHs d1 (k:=k) (by simpa using hp)
     obtain ⟨hwt,hot⟩:=d3 t (List.mem_of_getElem? ht);obtain ⟨ca,cb,cc2,rt,cz,rfl,hq⟩:=hq;have hq0:=hq;obtain ⟨k',st',an',tg',tx',ks'⟩:=t;simp only [isQ] at hq;obtain ⟨n2',n3',w8',l8',w9',l9',b10',m11',v11',kr',rfl,_⟩:=hq
     repeat apply Or.inl
     refine h7 d _ _ _ ⟨si,ba,rfl,rfl,by omega,?_⟩
     repeat apply Or.inl
     refine h6 d _ _ _ ⟨si,ba,fl,_,_,rfl,rfl,hq0,hot,by omega,by omega,?_⟩
     repeat apply Or.inl
     refine And.intro ⟨by omega,by omega⟩ ?_
     repeat apply Or.inl
     refine ⟨k+1,⟨⟨_,rfl,rfl⟩,⟨_,rfl,rfl⟩,⟨_,rfl,rfl⟩,⟨_,rfl,rfl⟩,⟨_,rfl,rfl⟩,⟨_,rfl,rfl⟩,⟨_,rfl,rfl⟩,⟨_,rfl,rfl⟩,trivial⟩,⟨rfl,trivial⟩,?_,?_⟩
     ·show k+1≤ds.length; omega
     ·show ds.length - (k+1)<ds.length - k; omega
    ·refine Or.inl ?_;refine Or.inr ?_;refine h10 d _ _ (by omega) (by omega) fun n' v' hn'=>?_
     intro v2 hv2;cases hv2
     repeat apply Or.inl
     refine And.intro ⟨by omega,by omega⟩ ?_
     repeat apply Or.inl
     refine ⟨(i+1,n',v'),⟨⟨_,rfl,rfl⟩,⟨_,rfl,rfl⟩,⟨_,rfl,rfl⟩,⟨_,rfl,rfl⟩,⟨_,rfl,rfl⟩,⟨_,rfl,rfl⟩,trivial⟩,trivial,⟨?_,?_⟩,?_⟩
     ·show i+1≤2; omega
     ·show n'≤11100; omega
     ·show 2 - (i+1)<2 - i; omega
   ·repeat apply Or.inl
    refine h4 d _ _ _ ⟨rfl,rfl,by omega,?_⟩
    intro _
    repeat apply Or.inl
    exact hQ
end
end
noncomputable section
set_option linter.all false
open Go Ev
def qAp:AV→Option Tx
 | .s n v=>some (n,v)
 | _=>none
def gC:List AV→Option (List Tx)
 | []=>some []
 | c::r=>(match qAp c,gC r with | some x,some l=>some (x::l) | _,_=>none)
def jOy (σ:Mem):AV→Option (List Tx)
 | .sl0=>some []
 | .sl b o n 1=>(match n with
  | 0=>some []
  | n+1=>(match σ.t.get b with | some blk=>(match yG (n+1) (blk.cells.drop o) with | some cs=>gC cs | none=>none) | none=>none))
 | _=>none
noncomputable def xB (S:Sc):Nat→List AV→Mem→Option AV:=fun f l σ=>match f with
 | 4=>(match l with | []=>some (.b true) | _=>none)
 | 59=>(match l with | [.s n v,.b b]=>open Classical in if okP (n,v) then some (.s (S.qt (n,v) b).1 (S.qt (n,v) b).2) else none | _=>none)
 | 49=>(match l with | [.s n v,.b b]=>open Classical in if okP (n,v) then some (.s (S.qt (n,v) b).1 (S.qt (n,v) b).2) else none | _=>none)
 | 83=>(match l with | [.s n v,.b b]=>open Classical in if okP (n,v) then some (.b (S.pl (n,v) b)) else none | _=>none)
 | 104=>(match l with | [.s n v,.b b]=>open Classical in if okP (n,v) then some (.b (S.pl (n,v) b)) else none | _=>none)
 | 85=>(match l with | [.s n v]=>open Classical in if okP (n,v) then some (.s (S.tg (n,v)).1 (S.tg (n,v)).2) else none | _=>none)
 | 106=>(match l with | [.s n v]=>open Classical in if okP (n,v) then some (.s (S.tg (n,v)).1 (S.tg (n,v)).2) else none | _=>none)
 | 86=>(match l with | [.s n v]=>open Classical in if okP (n,v) then some (.s (S.lg (n,v)).1 (S.lg (n,v)).2) else none | _=>none)
 | 48=>(match l with | [.s n v]=>open Classical in if okP (n,v) then some (.s (S.lg (n,v)).1 (S.lg (n,v)).2) else none | _=>none)
 | 87=>(match l with | [.s n v]=>open Classical in if okP (n,v) then some (.b (S.sg (n,v))) else none | _=>none)
 | 77=>(match l with | [.s n v]=>open Classical in if okP (n,v) then some (.b (S.sg (n,v))) else none | _=>none)
 | 61=>(match l with
  | [x,.s 2 8236]=>(match jOy σ x with
   | some l=>open Classical in if kP l≤MX∧l.length≤NB then some (.s (jM l).1 (jM l).2) else none
   | none=>none)
  | _=>none)
 | _=>none
def jYk (f:Nat):Bool:=Nat.beq f 4||Nat.beq f 59||Nat.beq f 61||Nat.beq f 83||Nat.beq f 85||Nat.beq f 86||Nat.beq f 87||Nat.beq f 48||Nat.beq f 49||Nat.beq f 77||Nat.beq f 104||Nat.beq f 106
theorem jIf {S:Sc} {f:Nat} (h:jYk f=false) (l:List AV) (σ:Mem):xB S f l σ=none:=by
 unfold xB;split<;>first | rfl | (cases h)
end
noncomputable section
set_option linter.all false
open Go Ev Rf Lf
set_option maxRecDepth 4000
def cQt (S:Sc):Ct:=fun d l H Q=>∃ (n v:Nat) (b:Bool),l=[.s n v,.b b]∧H=[]∧1≤d∧okP (n,v)∧Q (.s (S.qt (n,v) b).1 (S.qt (n,v) b).2) []
def cPl (S:Sc):Ct:=fun d l H Q=>∃ (n v:Nat) (b:Bool),l=[.s n v,.b b]∧H=[]∧1≤d∧okP (n,v)∧Q (.b (S.pl (n,v) b)) []
def cTg (S:Sc):Ct:=fun d l H Q=>∃ (n v:Nat),l=[.s n v]∧H=[]∧1≤d∧okP (n,v)∧Q (.s (S.tg (n,v)).1 (S.tg (n,v)).2) []
def cLg (S:Sc):Ct:=fun d l H Q=>∃ (n v:Nat),l=[.s n v]∧H=[]∧1≤d∧okP (n,v)∧Q (.s (S.lg (n,v)).1 (S.lg (n,v)).2) []
def cSg (S:Sc):Ct:=fun d l H Q=>∃ (n v:Nat),l=[.s n v]∧H=[]∧1≤d∧okP (n,v)∧Q (.b (S.sg (n,v))) []
def cJn:Ct:=fun d l H Q=>∃ (l':List Tx),l=[.qs l',.s 2 8236]∧H=[]∧1≤d∧kP l'≤MX∧l'.length≤NB∧(∀ p,p∈l'→p.2<256^p.1)∧Q (.s (jM l').1 (jM l').2) []
def Fn (S:Sc) (f:Nat):Ct:=fun d l H Q=>match f with
 | 4=>qAk d l H Q
 | 59=>cQt S d l H Q
 | 61=>cJn d l H Q
 | 83=>cPl S d l H Q
 | 85=>cTg S d l H Q
 | 86=>cLg S d l H Q
 | 87=>cSg S d l H Q
 | 48=>cLg S d l H Q
 | 49=>cQt S d l H Q
 | 77=>cSg S d l H Q
 | 104=>cPl S d l H Q
 | 106=>cTg S d l H Q
 | 3=>qKv d l H Q
 | 6=>jMq d l H Q
 | 7=>jTy d l H Q
 | 9=>nH S d l H Q
 | 10=>jJr S d l H Q
 | 11=>gA d l H Q
 | 21=>gA d l H Q
 | 22=>nH S d l H Q
 | 23=>jJr S d l H Q
 | 31=>jCl S d l H Q
 | 32=>jUa S d l H Q
 | 33=>fN d l H Q
 | 34=>mG d l H Q
 | 46=>jCl S d l H Q
 | 47=>mG d l H Q
 | 50=>fN d l H Q
 | 58=>tR S d l H Q
 | 60=>jTz S d l H Q
 | 62=>jJq S d l H Q
 | 76=>tR S d l H Q
 | _=>False
def ΓL (S:Sc) (G:Nat→List SV→SV→Prop):qJ:=fun d f l H Q=>Gam PT G d f l H Q∨Fn S f d l H Q
structure FsOK (fs:Nat→Option F):Prop where
 f3:fs 3=some g3
 f6:fs 6=some g6
 f7:fs 7=some g7
 f9:fs 9=some g9
 f10:fs 10=some g10
 f11:fs 11=some g11
 f21:fs 21=some g21
 f22:fs 22=some g22
 f23:fs 23=some g23
 f31:fs 31=some g31
 f32:fs 32=some g32
 f33:fs 33=some g33
 f34:fs 34=some g34
 f46:fs 46=some g46
 f47:fs 47=some g47
 f50:fs 50=some g50
 f58:fs 58=some g58
 f60:fs 60=some g60
 f62:fs 62=some g62
 f76:fs 76=some g76
section
variable {S:Sc} {G:Nat→List SV→SV→Prop} {fs:Nat→Option F}
theorem scr (hS:tK S):ScR (ΓL S G) S:=⟨hS,fun d n v b Q h1 h2 h3=>.inr ⟨n,v,b,rfl,rfl,h1,h2,h3⟩,fun d n v b Q h1 h2 h3=>.inr ⟨n,v,b,rfl,rfl,h1,h2,h3⟩,fun d n v Q h1 h2 h3=>.inr ⟨n,v,rfl,rfl,h1,h2,h3⟩,fun d n v Q h1 h2 h3=>.inr ⟨n,v,rfl,rfl,h1,h2,h3⟩,fun d n v Q h1 h2 h3=>.inr ⟨n,v,rfl,rfl,h1,h2,h3⟩,fun d n v b Q h1 h2 h3=>.inr ⟨n,v,b,rfl,rfl,h1,h2,h3⟩,fun d n v b Q h1 h2 h3=>.inr ⟨n,v,b,rfl,rfl,h1,h2,h3⟩,fun d n v Q h1 h2 h3=>.inr ⟨n,v,rfl,rfl,h1,h2,h3⟩,fun d n v Q h1 h2 h3=>.inr ⟨n,v,rfl,rfl,h1,h2,h3⟩,fun d n v Q h1 h2 h3=>.inr ⟨n,v,rfl,rfl,h1,h2,h3⟩,
 fun d l Q h1 h2 h3 h4 h5=>.inr ⟨l,rfl,rfl,h1,h2,h3,h4,h5⟩⟩
theorem jTf:∀ t:Tq,1≤wtQ t
 | .mk k st an tg tx ks=>by simp only [wtQ]; omega
theorem qDj {Γ:qJ} (hΓ:∀ d f l H Q,Gam PT G d f l H Q→Γ d f l H Q):qBz Γ:=by
 intro d n v Q hn hd hQ;have eN:NB=1000000:=rfl;refine hΓ _ _ _ _ _ ⟨c5,?_,fun j=>match j with | 0=>⟨n,[],0⟩ | 1=>⟨v,[],0⟩ | _=>⟨0,[],0⟩,?_,?_,rfl,⟨?_,(fun t h=>by cases h),(fun t h=>by cases h)⟩,?_⟩
 ·show c5∈fQ csT 5;rw [show fQ csT 5=[c5] from rfl]; simp
 ·simp [c5,LT.ev,evL]; omega
 ·simp [c5,jR,SX.den,LT.ev,evL]
 ·intro t ht;simp only [c5,List.mem_cons,List.not_mem_nil,or_false] at ht;rcases ht with rfl | rfl<;>simp [LT.ev,evL]<;>omega
 ·intro p hp ρ' hag hF;simp only [c5,List.mem_cons,List.not_mem_nil,or_false] at hp;subst hp;have h0:(ρ' 0).z=n:=congrArg Rv.z (hag 0 (by show 0<2; omega))
  have f1:=hF.F ⟨0,[(2,1)]⟩ (by simp)
  have f2:=hF.F ⟨0,[(2,(-1)),(0,250100000)]⟩ (by simp)
  have f3:=hF.F ⟨0,[(3,1)]⟩ (by simp)
  have f4:=hF.F ⟨0,[(3,(-1)),(0,1)]⟩ (by simp)
  have f5:=hF.F ⟨0,[(5,1)]⟩ (by simp)
  have f6:=hF.F ⟨0,[(5,(-1)),(0,1)]⟩ (by simp)
  simp only [LT.ev,evL] at f1 f2 f3 f4 f5 f6;rw [h0] at f2 f4 f6;have:=hQ (ρ' 2).z.toNat (ρ' 3).z.toNat (ρ' 4).z.toNat (ρ' 5).z.toNat (ρ' 6).z (ρ' 7).z (by omega) (by omega) (by omega)
  simpa [SX.den,jR,denH,LT.ev,evL] using this
theorem qId {Γ:qJ} (hΓ:∀ d f l H Q,Gam PT G d f l H Q→Γ d f l H Q):qKf Γ:=by
 intro d m Q hm hd hQ;refine hΓ _ _ _ _ _ ⟨c8,?_,fun j=>match j with | 0=>⟨m,[],0⟩ | _=>⟨0,[],0⟩,?_,?_,rfl,⟨?_,(fun t h=>by cases h),(fun t h=>by cases h)⟩,?_⟩
 ·show c8∈fQ csT 8;rw [show fQ csT 8=[c8] from rfl]; simp
 ·simp [c8,LT.ev,evL]; omega
 ·simp [c8,jR,SX.den,LT.ev,evL]
 ·intro t ht;simp only [c8,List.mem_cons,List.not_mem_nil,or_false] at ht;rcases ht with rfl | rfl<;>simp [LT.ev,evL]<;>omega
 ·intro p hp ρ' hag hF;simp only [c8,List.mem_cons,List.not_mem_nil,or_false] at hp;subst hp;have f1:=hF.F ⟨0,[(1,1)]⟩ (by simp)
  have f2:=hF.F ⟨11100,[(1,(-1))]⟩ (by simp)
  simp only [LT.ev,evL] at f1 f2;have:=hQ (ρ' 1).z.toNat (ρ' 2).z.toNat (by omega)
  simpa [SX.den,jR,denH,LT.ev,evL] using this
theorem qDn {d:Nat} {l:List SV} {H:Hp} {Q:Q2}:qKv d l H Q→1≤d:=fun ⟨_,_,_,_,_,_,_,_,_,h,_⟩=>by omega
theorem jZd {d:Nat} {l:List SV} {H:Hp} {Q:Q2}:jMq d l H Q→1≤d:=fun ⟨_,_,_,t,_,_,_,_,_,_,h,_⟩=>by have:=jTf t; omega
theorem jZa {d:Nat} {l:List SV} {H:Hp} {Q:Q2}:jTy d l H Q→1≤d:=fun ⟨_,_,_,_,h,_⟩=>by omega
theorem jIj {d:Nat} {l:List SV} {H:Hp} {Q:Q2}:nH S d l H Q→1≤d:=fun ⟨_,_,_,t,_,_,_,_,_,_,h,_⟩=>by have:=jTf t; omega
theorem jOt {d:Nat} {l:List SV} {H:Hp} {Q:Q2}:jJr S d l H Q→1≤d:=fun ⟨_,_,_,k,st,an,tg,tx,ks,_,_,_,_,_,_,h,_⟩=>by omega
theorem jEs {d:Nat} {l:List SV} {H:Hp} {Q:Q2}:gA d l H Q→1≤d:=fun ⟨_,_,_,_,_,_,_,_,_,_,_,h,_⟩=>by omega
theorem jIi {d:Nat} {l:List SV} {H:Hp} {Q:Q2}:jCl S d l H Q→1≤d:=fun ⟨_,_,_,_,_,_,_,_,_,_,_,_,_,_,h,_⟩=>by omega
theorem jZc {d:Nat} {l:List SV} {H:Hp} {Q:Q2}:jUa S d l H Q→1≤d:=fun ⟨_,_,_,_,_,_,_,_,_,_,_,_,_,_,_,_,h,_⟩=>by omega
theorem jAn {d:Nat} {l:List SV} {H:Hp} {Q:Q2}:fN d l H Q→1≤d:=fun ⟨_,_,_,_,_,_,_,h,_⟩=>by omega
theorem jEr {d:Nat} {l:List SV} {H:Hp} {Q:Q2}:mG d l H Q→1≤d:=fun ⟨_,_,_,_,_,_,_,_,_,_,h,_⟩=>by omega
theorem jEt {d:Nat} {l:List SV} {H:Hp} {Q:Q2}:tR S d l H Q→1≤d:=fun ⟨_,_,_,_,_,_,_,_,_,_,_,_,_,_,h,_⟩=>by omega
theorem jZb {d:Nat} {l:List SV} {H:Hp} {Q:Q2}:jTz S d l H Q→1≤d:=fun ⟨_,_,t,_,_,_,_,_,_,h,_⟩=>by have:=jTf t; omega
theorem jSd {d:Nat} {l:List SV} {H:Hp} {Q:Q2}:jJq S d l H Q→1≤d:=fun ⟨_,_,_,_,_,_,_,_,_,_,_,_,_,h,_⟩=>by omega
theorem qPf (hS:tK S) (hf:FsOK fs):∀ (f d:Nat) (l:List SV) (H:Hp) (Q:Q2),Fn S f d l H Q→jYk f=false→∃ d',d=d'+1∧∃ g,fs f=some g∧wF (PT.C G) (ΓL S G) LL d' f g l H Q:=by
 intro f d l H Q h hk;unfold Fn at h;split at h
 ·cases hk
 ·cases hk
 ·cases hk
 ·cases hk
 ·cases hk
 ·cases hk
 ·cases hk
 ·cases hk
 ·cases hk
 ·cases hk
 ·cases hk
 ·cases hk
 ·obtain ⟨e,rfl⟩:∃ e,d=e+1:=⟨d - 1,by have:=qDn h; omega⟩
  exact ⟨e,rfl,_,hf.f3,q3 (S:=S) (fun _ _ _ _ h=>.inr h) (qDj fun _ _ _ _ _ h=>.inl h) (qId fun _ _ _ _ _ h=>.inl h) (fun _ _ _ _ h=>.inr h) (fun _ _ _ _ h=>.inr h) e l H Q h⟩
 ·obtain ⟨e,rfl⟩:∃ e,d=e+1:=⟨d - 1,by have:=jZd h; omega⟩
  exact ⟨e,rfl,_,hf.f6,q6 (scr hS) (fun _ _ _ _ h=>.inr h) (fun _ _ _ _ h=>.inr h) (fun _ _ _ _ h=>.inr h) (fun _ _ _ _ h=>.inr h) (fun _ _ _ _ h=>.inr h) (fun _ _ _ _ h=>.inr h) (fun _ _ _ _ h=>.inr h) e l H Q h⟩
 ·obtain ⟨e,rfl⟩:∃ e,d=e+1:=⟨d - 1,by have:=jZa h; omega⟩
  exact ⟨e,rfl,_,hf.f7,p7 e l H Q h⟩
 ·obtain ⟨e,rfl⟩:∃ e,d=e+1:=⟨d - 1,by have:=jIj h; omega⟩
  exact ⟨e,rfl,_,hf.f9,p6 (scr hS) (fun _ _ _ _ h=>.inr h) (fun _ _ _ _ h=>.inr h) (fun _ _ _ _ h=>.inr h) (fun _ _ _ _ h=>.inr h) e l H Q h⟩
 ·obtain ⟨e,rfl⟩:∃ e,d=e+1:=⟨d - 1,by have:=jOt h; omega⟩
  exact ⟨e,rfl,_,hf.f10,p9 (scr hS) (fun _ _ _ _ h=>.inr h) (fun _ _ _ _ h=>.inr h) e l H Q h⟩
 ·obtain ⟨e,rfl⟩:∃ e,d=e+1:=⟨d - 1,by have:=jEs h; omega⟩
  exact ⟨e,rfl,_,hf.f11,p11 (fun _ _ _ _ h=>.inr h) e l H Q h⟩
 ·obtain ⟨e,rfl⟩:∃ e,d=e+1:=⟨d - 1,by have:=jEs h; omega⟩
  exact ⟨e,rfl,_,hf.f21,q21 e l H Q h⟩
 ·obtain ⟨e,rfl⟩:∃ e,d=e+1:=⟨d - 1,by have:=jIj h; omega⟩
  exact ⟨e,rfl,_,hf.f22,q22 (scr hS) (fun _ _ _ _ h=>.inr h) (fun _ _ _ _ h=>.inr h) (fun _ _ _ _ h=>.inr h) (fun _ _ _ _ h=>.inr h) (fun _ _ _ _ h=>.inr h) (fun _ _ _ _ h=>.inr h) e l H Q h⟩
 ·obtain ⟨e,rfl⟩:∃ e,d=e+1:=⟨d - 1,by have:=jOt h; omega⟩
  exact ⟨e,rfl,_,hf.f23,q23 (scr hS) (fun _ _ _ _ h=>.inr h) (fun _ _ _ _ h=>.inr h) (fun _ _ _ _ h=>.inr h) e l H Q h⟩
 ·obtain ⟨e,rfl⟩:∃ e,d=e+1:=⟨d - 1,by have:=jIi h; omega⟩
  exact ⟨e,rfl,_,hf.f31,p21 (scr hS) (fun _ _ _ _ h=>.inr h) e l H Q h⟩
 ·obtain ⟨e,rfl⟩:∃ e,d=e+1:=⟨d - 1,by have:=jZc h; omega⟩
  exact ⟨e,rfl,_,hf.f32,p22 (scr hS) (fun _ _ _ _ h=>.inr h) (fun _ _ _ _ h=>.inr h) e l H Q h⟩
 ·obtain ⟨e,rfl⟩:∃ e,d=e+1:=⟨d - 1,by have:=jAn h; omega⟩
  exact ⟨e,rfl,_,hf.f33,p23 e l H Q h⟩
 ·obtain ⟨e,rfl⟩:∃ e,d=e+1:=⟨d - 1,by have:=jEr h; omega⟩
  exact ⟨e,rfl,_,hf.f34,p24 e l H Q h⟩
 ·obtain ⟨e,rfl⟩:∃ e,d=e+1:=⟨d - 1,by have:=jIi h; omega⟩
  exact ⟨e,rfl,_,hf.f46,q46 (scr hS) (fun _ _ _ _ h=>.inr h) e l H Q h⟩
 ·obtain ⟨e,rfl⟩:∃ e,d=e+1:=⟨d - 1,by have:=jEr h; omega⟩
  exact ⟨e,rfl,_,hf.f47,q47 e l H Q h⟩
 ·obtain ⟨e,rfl⟩:∃ e,d=e+1:=⟨d - 1,by have:=jAn h; omega⟩
  exact ⟨e,rfl,_,hf.f50,q50 e l H Q h⟩
 ·obtain ⟨e,rfl⟩:∃ e,d=e+1:=⟨d - 1,by have:=jEt h; omega⟩
  exact ⟨e,rfl,_,hf.f58,p43 (scr hS) e l H Q h⟩
 ·obtain ⟨e,rfl⟩:∃ e,d=e+1:=⟨d - 1,by have:=jZb h; omega⟩
  exact ⟨e,rfl,_,hf.f60,p45 (scr hS) (fun _ _ _ _ h=>.inr h) (fun _ _ _ _ h=>.inr h) (fun _ _ _ _ h=>.inr h) e l H Q h⟩
 ·obtain ⟨e,rfl⟩:∃ e,d=e+1:=⟨d - 1,by have:=jSd h; omega⟩
  exact ⟨e,rfl,_,hf.f62,p47 (scr hS) (fun _ _ _ _ h=>.inr h) (fun _ _ _ _ h=>.inr h) (fun _ _ _ _ h=>.inr h) e l H Q h⟩
 ·obtain ⟨e,rfl⟩:∃ e,d=e+1:=⟨d - 1,by have:=jEt h; omega⟩
  exact ⟨e,rfl,_,hf.f76,q76 (scr hS) e l H Q h⟩
 ·exact h.elim
def qOv (fs:Nat→Option F):Prop:=∀ f ct,ct∈PT.cs f→jYk f=false∧∃ g,fs f=some g∧∃ (an:Nat→Option Ann) (hs:Nat→Option (List LT)) (kd:Nat→Nat),okF PT LL f g ct an hs kd
theorem jDb:∀ {l:List Tx},(∀ p,p∈l→p.2<256^p.1)→(jM l).2<256^(jM l).1
 | [],_=>by decide
 | [a],h=>h a (by simp)
 | a::b::r,h=>by
  simp only [jM];exact jJs (jJs (h a (by simp)) (by decide)) (jDb (l:=b::r) fun x hx=>h x (by simp at hx ⊢; exact .inr hx))
theorem jUc:∀ {l:List Tx} {cs:List AV},l.length≤cs.length→(∀ (m:Nat) (p:Tx),l[m]?=some p→cs[m]?=some (.s p.1 p.2))→gC (cs.take l.length)=some l
 | [],cs,_,_=>by simp [gC]
 | p::l,[],h,_=>by simp at h
 | p::l,c::cs,h,k=>by
  have h0:=k 0 p rfl;simp at h0; subst h0;simp only [List.length_cons,List.take_succ_cons,gC,qAp];rw [jUc (l:=l) (cs:=cs) (by simpa using h) fun m q e=>by simpa using k (m+1) q (by simpa using e)]
theorem qIu {C:Cx} {W:Wd} {σ:Mem} (hr:Rl C W [] σ) {l:List Tx} {v:AV} (h:XV W l v):jOy σ v=some l:=by
 obtain ⟨_,h⟩:=h;rcases h with ⟨rfl,rfl⟩ | ⟨b,o,rfl,h⟩
 ·rfl
 ·rcases h with rfl | ⟨blk,h1,h2⟩
  ·rfl
  ·cases l with
   | nil=>rfl
   | cons p l=>
    have hg:=(hr.K _ _ h1).2;unfold jOy;simp only [List.length_cons,hg];have hlen:o+(l.length+1)≤blk.cells.length:=by
     obtain ⟨q,hq⟩:∃ q,(p::l)[l.length]?=some q:=⟨_,List.getElem?_eq_some_iff.2 ⟨by simp,rfl⟩⟩
     have:=(List.getElem?_eq_some_iff.1 (h2 l.length q hq)).1;omega
    rw [gO (by simp; omega)]
    exact jUc (l:=p::l) (by simp; omega) fun m q e=>by rw [List.getElem?_drop]; exact h2 m q e
theorem qQf:∀ T p,p∈rkT T→p.1<(ctT T).length∧∀ g,p.2=some g→g<(ctT T).length
 | 0,p,h=>by simp only [rkT,List.mem_cons,List.not_mem_nil,or_false] at h; subst h; exact ⟨by decide,fun g e=>by cases e⟩
 | 1,p,h=>by simp only [rkT,List.mem_cons,List.not_mem_nil,or_false] at h; rcases h with rfl | rfl | rfl | rfl<;>exact ⟨by decide,fun g e=>by cases e<;>decide⟩
 | 2,p,h=>by cases h
 | 3,p,h=>by simp only [rkT,List.mem_cons,List.not_mem_nil,or_false] at h; rcases h with rfl | rfl | rfl | rfl<;>exact ⟨by decide,fun g e=>by cases e<;>decide⟩
 | n+4,p,h=>by cases h
theorem qQg:∀ T,jZn (ctT T)=true→rkT T=[]
 | 0,h=>by cases h
 | 1,h=>by cases h
 | 2,h=>rfl
 | 3,h=>by cases h
 | n+4,h=>rfl
theorem law_run (hS:tK S) (hf:FsOK fs) (hR:qOv fs) (hP:PSc PT) (htt:∀ T j d,(ctT T)[j]?=some (.t d)→∃ i,j=i+1∧(ctT T)[i]?≠some .b) (n v:Nat) (hv:v<256^n) (zs:List Int) (fl si ba:Bool):∃ σ',evF fs (xB S) LL 100000000000000 3 [.s n v,.fi zs,.b fl,.b si,.b ba] mP=some (.b true,σ'):=by
 have hC:wP (PT.C (Gr fs (xB S) LL)):=qPa htt (fun T=>by
  show 0<(ctT T).length;unfold ctT;split<;>decide) qQf qQg
 have hΓ:∀ d f l H Q,ΓL S (Gr fs (xB S) LL) d f l H Q→∃ d',d=d'+1∧(((∀ vs σ,xB S f vs σ=none)∧∃ g,fs f=some g∧wF (PT.C (Gr fs (xB S) LL)) (ΓL S (Gr fs (xB S) LL)) LL d' f g l H Q)∨(H=[]∧∃ s,jU s=true∧(∀ W2 H2 σ2,sv (PT.C (Gr fs (xB S) LL)) W2 H2 σ2 s (toA s))∧(∀ W2 σ2 vs,Rl (PT.C (Gr fs (xB S) LL)) W2 [] σ2→svs (PT.C (Gr fs (xB S) LL)) W2 [] σ2 l vs→xB S f vs σ2=some (toA s))∧Q s [])):=by
  intro d f l H Q h;rcases h with h | h
  ·obtain ⟨ct,hct,hc⟩:=h;obtain ⟨h4,g,hg,an,hs,kd,hk⟩:=hR f ct hct;obtain ⟨d',e,hw⟩:=qRl (qKq fs (xB S) LL) hP (Γ:=ΓL S (Gr fs (xB S) LL)) (fun _ _ _ _ _ h=>.inl h) (show 0<LL by unfold LL; omega) hk hc
   exact ⟨d',e,.inl ⟨jIf h4,g,hg,hw⟩⟩
  ·cases hk:jYk f with
   | false=>
    obtain ⟨d',e,g,hg,hw⟩:=qPf hS hf f d l H Q h hk;exact ⟨d',e,.inl ⟨jIf hk,g,hg,hw⟩⟩
   | true=>
    simp only [jYk,Bool.or_eq_true,Nat.beq_eq] at hk;rcases hk with ((((((((((rfl | rfl) | rfl) | rfl) | rfl) | rfl) | rfl) | rfl) | rfl) | rfl) | rfl) | rfl
    ·obtain ⟨rfl,rfl,hd,hQ⟩:=h;exact ⟨d - 1,by omega,.inr ⟨rfl,.b true,rfl,fun _ _ _=>rfl,fun _ _ vs _ e=>by cases e; rfl,hQ⟩⟩
    ·obtain ⟨n,v,b,rfl,rfl,hd,ho,hQ⟩:=h;refine ⟨d - 1,by omega,.inr ⟨rfl,(.s (S.qt (n,v) b).1 (S.qt (n,v) b).2:SV),rfl,fun _ _ _=>⟨rfl,(hS.qf (n,v) b ho).2⟩,fun _ _ vs _ e=>?_,hQ⟩⟩
     obtain ⟨_,_,rfl,⟨rfl,_⟩,_,_,rfl,rfl,rfl⟩:=e;simp only [xB,if_pos ho]; rfl
    ·obtain ⟨l',rfl,rfl,hd,h1,h2,h3,hQ⟩:=h;refine ⟨d - 1,by omega,.inr ⟨rfl,(.s (jM l').1 (jM l').2:SV),rfl,fun _ _ _=>⟨rfl,jDb h3⟩,fun _ _ vs hr e=>?_,hQ⟩⟩
     obtain ⟨x,_,rfl,hx,_,_,rfl,⟨rfl,_⟩,rfl⟩:=e;simp only [xB,qIu hr hx,if_pos (And.intro h1 h2)]; rfl
    ·obtain ⟨n,v,b,rfl,rfl,hd,ho,hQ⟩:=h;refine ⟨d - 1,by omega,.inr ⟨rfl,(.b (S.pl (n,v) b):SV),rfl,fun _ _ _=>rfl,fun _ _ vs _ e=>?_,hQ⟩⟩
     obtain ⟨_,_,rfl,⟨rfl,_⟩,_,_,rfl,rfl,rfl⟩:=e;simp only [xB,if_pos ho]; rfl
    ·obtain ⟨n,v,rfl,rfl,hd,ho,hQ⟩:=h;refine ⟨d - 1,by omega,.inr ⟨rfl,(.s (S.tg (n,v)).1 (S.tg (n,v)).2:SV),rfl,fun _ _ _=>⟨rfl,hS.tc (n,v) ho⟩,fun _ _ vs _ e=>?_,hQ⟩⟩
     obtain ⟨_,_,rfl,⟨rfl,_⟩,rfl⟩:=e;simp only [xB,if_pos ho]; rfl
    ·obtain ⟨n,v,rfl,rfl,hd,ho,hQ⟩:=h;refine ⟨d - 1,by omega,.inr ⟨rfl,(.s (S.lg (n,v)).1 (S.lg (n,v)).2:SV),rfl,fun _ _ _=>⟨rfl,hS.lc (n,v) ho⟩,fun _ _ vs _ e=>?_,hQ⟩⟩
     obtain ⟨_,_,rfl,⟨rfl,_⟩,rfl⟩:=e;simp only [xB,if_pos ho]; rfl
    ·obtain ⟨n,v,rfl,rfl,hd,ho,hQ⟩:=h;refine ⟨d - 1,by omega,.inr ⟨rfl,(.b (S.sg (n,v)):SV),rfl,fun _ _ _=>rfl,fun _ _ vs _ e=>?_,hQ⟩⟩
     obtain ⟨_,_,rfl,⟨rfl,_⟩,rfl⟩:=e;simp only [xB,if_pos ho]; rfl
    ·obtain ⟨n,v,rfl,rfl,hd,ho,hQ⟩:=h;refine ⟨d - 1,by omega,.inr ⟨rfl,(.s (S.lg (n,v)).1 (S.lg (n,v)).2:SV),rfl,fun _ _ _=>⟨rfl,hS.lc (n,v) ho⟩,fun _ _ vs _ e=>?_,hQ⟩⟩
     obtain ⟨_,_,rfl,⟨rfl,_⟩,rfl⟩:=e;simp only [xB,if_pos ho]; rfl
    ·obtain ⟨n,v,b,rfl,rfl,hd,ho,hQ⟩:=h;refine ⟨d - 1,by omega,.inr ⟨rfl,(.s (S.qt (n,v) b).1 (S.qt (n,v) b).2:SV),rfl,fun _ _ _=>⟨rfl,(hS.qf (n,v) b ho).2⟩,fun _ _ vs _ e=>?_,hQ⟩⟩
     obtain ⟨_,_,rfl,⟨rfl,_⟩,_,_,rfl,rfl,rfl⟩:=e;simp only [xB,if_pos ho]; rfl
    ·obtain ⟨n,v,rfl,rfl,hd,ho,hQ⟩:=h;refine ⟨d - 1,by omega,.inr ⟨rfl,(.b (S.sg (n,v)):SV),rfl,fun _ _ _=>rfl,fun _ _ vs _ e=>?_,hQ⟩⟩
     obtain ⟨_,_,rfl,⟨rfl,_⟩,rfl⟩:=e;simp only [xB,if_pos ho]; rfl
    ·obtain ⟨n,v,b,rfl,rfl,hd,ho,hQ⟩:=h;refine ⟨d - 1,by omega,.inr ⟨rfl,(.b (S.pl (n,v) b):SV),rfl,fun _ _ _=>rfl,fun _ _ vs _ e=>?_,hQ⟩⟩
     obtain ⟨_,_,rfl,⟨rfl,_⟩,_,_,rfl,rfl,rfl⟩:=e;simp only [xB,if_pos ho]; rfl
    ·obtain ⟨n,v,rfl,rfl,hd,ho,hQ⟩:=h;refine ⟨d - 1,by omega,.inr ⟨rfl,(.s (S.tg (n,v)).1 (S.tg (n,v)).2:SV),rfl,fun _ _ _=>⟨rfl,hS.tc (n,v) ho⟩,fun _ _ vs _ e=>?_,hQ⟩⟩
     obtain ⟨_,_,rfl,⟨rfl,_⟩,rfl⟩:=e;simp only [xB,if_pos ho]; rfl
 let W0:Wd:=⟨fun _=>False,fun _=>none,fun _=>0⟩
 have r0:Rl (PT.C (Gr fs (xB S) LL)) W0 [] mP:=⟨fun i j x y hx=>by simp at hx,fun i x hx=>by simp at hx,fun i x hx=>by simp at hx,fun i x hx=>by simp at hx,fun b h=>h.elim,fun b x h=>by cases h⟩
 obtain ⟨x,σ',s,W',H',e1,rfl,_,_,e5,_⟩:=qPe hC (qOu rfl) hΓ 100000000000000 3 [.s n v,.fis zs.length,.b fl,.b si,.b ba] [] (fun s _=>s = .b true) (.inr ⟨n,v,zs.length,fl,si,ba,rfl,rfl,hv,Nat.le_refl _,rfl⟩) W0 mP [.s n v,.fi zs,.b fl,.b si,.b ba] r0 ⟨_,_,rfl,⟨rfl,hv⟩,_,_,rfl,⟨zs,rfl,rfl⟩,_,_,rfl,rfl,_,_,rfl,rfl,_,_,rfl,rfl,rfl⟩;cases e5;exact ⟨σ',e1⟩
end
end
end Go.Proofs.YtdlhiljbhepliaaGreatDoor.Ev.Fb
