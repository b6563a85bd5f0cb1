/-
A walk: a collection in brackets.
-/
import Derived.Test.YtngfdcnglojcaaaGreatDoorFbC
section
set_option linter.all false
namespace Go.Proofs.YtngfdcnglojcaaaGreatDoor.Ev.Fb
noncomputable section
open Go Ev Rf
set_option maxRecDepth 2000
set_option maxHeartbeats 4000000
section
variable {G:Nat→List SV→SV→Prop} {Γ:qE}
theorem jFi (S:Sc) (si ba:Bool) (t:Tq) (ts:List Tq):qG S si ba (t::ts)=itm S si ba t::qG S si ba ts:=by
 obtain ⟨k,st,an,tg,tx,ks⟩:=t
 unfold itm; simp only [qG]; rfl
theorem tT (S:Sc) (si ba:Bool):∀ {ks:List Tq} {t:Tq} {i:Nat},ks[i]?=some t→(qG S si ba ks)[i]?=some (itm S si ba t)
 | [],t,i,h=>by simp at h
 | a::ks,t,i,h=>by
  rw [jFi]
  cases i with
  | zero=>simp at h; subst h; rfl
  | succ i=>exact tT S si ba (ks:=ks) (i:=i) (by simpa using h)
theorem lH (S:Sc) (si ba:Bool):∀ (ks:List Tq),(qG S si ba ks).length=ks.length
 | []=>rfl
 | a::ks=>by rw [jFi,List.length_cons,List.length_cons,lH S si ba ks]
theorem eR:∀ (l:List Tx) (n:Nat),gI (l.take n)≤gI l
 | [],n=>by simp
 | a::l,0=>Nat.zero_le _
 | a::l,n+1=>by have:=eR l n; simp only [List.take_succ_cons,gI]; omega
theorem jGm:∀ {ts:List Tq} {t u:Tq} {k:Nat},ts[k]?=some t→ts[k+1]?=some u→wtQ t+wtQ u≤fX ts
 | [],t,u,k,e,_=>by simp at e
 | a::ts,t,u,k,e,e'=>by
  cases k with
  | zero=>
   simp at e e'; subst e
   have:=vN (ts:=ts) (k:=0) (by simpa using e')
   simp only [fX]; omega
  | succ k=>
   have:=jGm (ts:=ts) (k:=k) (by simpa using e) (by simpa using e')
   simp only [fX]; omega
theorem jLv:∀ (l:List (Tx×Tx×Tx)),(uR l).length=l.length / 2
 | []=>rfl
 | [a]=>by simp [uR]
 | a::b::r=>by
  have:=jLv r
  simp only [uR,List.length_cons,this]
  omega
theorem jLu:∀ {l:List (Tx×Tx×Tx)} {j:Nat} {a b:Tx×Tx×Tx},l[2*j]?=some a→l[2*j+1]?=some b→(uR l)[j]?=some (yO a.2.1 b.2.2)
 | [],j,a,b,h,_=>by simp at h
 | [x],j,a,b,_,h=>by
  have:=(List.getElem?_eq_some_iff.1 h).1
  simp at this
 | x::y::r,j,a,b,h,h'=>by
  simp only [uR]
  cases j with
  | zero=>simp at h h'; subst h; subst h'; rfl
  | succ j=>
   rw [List.getElem?_cons_succ]
   refine jLu (l:=r) ?_ ?_
   ·rw [show 2*(j+1)=2*j+1+1 by omega,List.getElem?_cons_succ,List.getElem?_cons_succ] at h; exact h
   ·rw [show 2*(j+1)+1=2*j+1+1+1 by omega,List.getElem?_cons_succ,List.getElem?_cons_succ] at h'; exact h'
theorem p22 {S:Sc} (hS:ScR Γ S) (h45:∀ d l H Q,jQk S d l H Q→Γ d 45 l H Q) (h47:∀ d l H Q,jHe S d l H Q→Γ d 47 l H Q) (d:Nat) (l:List SV) (H:Hp) (Q:Q2) (h:jQl S (d+1) l H Q):wF (PT.C G) Γ LL d 22 g22 l H Q:=by
 obtain ⟨si,ba,k,st,an,tg,tx,ks,row,rfl,rfl,hr,hk,ho,hb,hw,hd,hQ⟩:=h
 simp only [isQ] at hr
 obtain ⟨n2,n3,w8,l8,w9,l9,b10,m11,v11,kr,rfl,hks⟩:=hr
 have e1:MX=140737488355328:=rfl
 have e2:NB=1000000:=rfl
 have e3:LL=200000000000000:=rfl
 have hlen:=jBl hks
 have hkl:=lH S si ba ks
 obtain ⟨k1,k2⟩:=tU hS.ok si ba ks ho
 have j1:=uP ((qG S si ba ks).map (·.1))
 rw [mD] at j1
 have j2:=uP (uR (qG S si ba ks))
 have j3:=nQ (qG S si ba ks)
 repeat apply Or.inl
 refine And.intro (fun h3=>?_) (fun h3=>?_)
 ·have eb:xU S si ba false k st tg tx (qG S si ba ks)=xL (xL (1,91) (zS ((qG S si ba ks).map (·.1)))) (1,93):=by unfold xU; rw [if_neg (by omega),if_neg (by omega),if_pos h3]
  rw [eb] at hQ
  have hLc:∀ p,p∈(qG S si ba ks).map (·.1)→p.2<256^p.1:=fun p hp=>by
   obtain ⟨y,hy,rfl⟩:=List.mem_map.1 hp
   exact (gH hS.ok si ba ks ho y hy).1.2
  generalize hL:(qG S si ba ks).map (·.1)=L at hQ j1 hLc
  have hLl:L.length=ks.length:=by rw [←hL,List.length_map,hkl]
  have hLs:gI L=jVj (qG S si ba ks):=by rw [←hL,mD]
  repeat apply Or.inl
  refine fO 0 ⟨[2,3,6,17,18],[(.slot 5 9 (.xs []),1)],Nat,fun i=>[(19,.i .i64 (i:Int)),(5,.ts 2 i i 1)],fun i=>[⟨60,0,.l (cf si ba)⟩,⟨34,0,.l [.i .i64 k,.i .i64 st,.i .i64 n2,.i .i64 n3,.s an.1 an.2,.s tg.1 tg.2,.s tx.1 tx.2,.qx 12 kr,.qx w8 l8,.qx w9 l9,.b b10,.s m11 v11]⟩,⟨9,i,.xs (L.take i)⟩],fun i=>i≤ks.length,fun i=>ks.length - i,⟨0,⟨⟨_,rfl,rfl⟩,⟨_,rfl,rfl⟩,⟨_,rfl,rfl⟩,⟨_,rfl,rfl⟩,⟨_,rfl,rfl⟩,⟨_,rfl,rfl⟩,⟨_,rfl,rfl⟩,trivial⟩,rfl,Nat.zero_le _,?_⟩,?_⟩
  ·show ks.length - 0<LL; omega
  intro i hi
  refine And.intro (fun hlt=>?_) (fun hge=>?_)
  ·repeat apply Or.inl
   refine And.intro ⟨by omega,by omega⟩ ?_
   intro p hp
   obtain ⟨t,ht,hq⟩:=uC hks (k:=i) (by simpa using hp)
   have hwt:=vN ht
   have hot:=uF ho ht
   have hgt:=tT S si ba ht
   have hq0:=hq
   obtain ⟨k',st',an',tg',tx',ks'⟩:=t
   simp only [isQ] at hq
   obtain ⟨n2',n3',w8',l8',w9',l9',b10',m11',v11',kr',rfl,_⟩:=hq
   have hLg:L[i]?=some (itm S si ba (.mk k' st' an' tg' tx' ks')).1:=by rw [←hL,List.getElem?_map,hgt]; rfl
   repeat apply Or.inl
   refine h45 d _ _ _ ⟨si,ba,_,_,rfl,rfl,hq0,hot,by omega,by omega,?_⟩
   repeat apply Or.inl
   refine uG ?_
   refine And.intro ⟨?_,?_⟩ ?_
   ·show (i+1)*16≤100000000000000; omega
   ·show i+1≤100000000000000; omega
   repeat apply Or.inl
   refine And.intro ⟨by omega,by omega⟩ ?_
   repeat apply Or.inl
   refine ⟨i+1,⟨⟨_,rfl,rfl⟩,⟨_,rfl,rfl⟩,⟨_,rfl,rfl⟩,⟨_,rfl,rfl⟩,⟨_,rfl,rfl⟩,⟨_,rfl,rfl⟩,⟨_,rfl,rfl⟩,trivial⟩,⟨rfl,rfl,?_,trivial⟩,?_,?_⟩
   ·rw [wX hLg]
   ·show i+1≤ks.length; omega
   ·show ks.length - (i+1)<ks.length - i; omega
  ·obtain rfl:i=ks.length:=by omega
   have hT:L.take ks.length=L:=by rw [List.take_of_length_le (by omega)]
   rw [←hT] at hQ j1
   have hls:=eR L ks.length
   repeat apply Or.inl
   refine uG ?_
   refine hS.h46 d (L.take ks.length) _ (by omega) (by omega) (by rw [hT]; omega) (fun p hp=>hLc p (List.mem_of_mem_take hp)) ?_
   refine ⟨?_,fun _ _=>?_⟩
   ·show 1+(zS (L.take ks.length)).1≤MX; omega
   repeat apply Or.inl
   refine ⟨?_,fun _ _=>?_⟩
   ·show 1+(zS (L.take ks.length)).1+1≤MX; omega
   repeat apply Or.inl
   exact hQ
 ·have h4:k=4:=by omega
  have eb:xU S si ba false k st tg tx (qG S si ba ks)=xL (xL (1,123) (zS (uR (qG S si ba ks)))) (1,125):=by unfold xU; rw [if_neg (by omega),if_neg (by omega),if_neg (by omega),if_pos h4]
  rw [eb] at hQ
  have hPl:=jLv (qG S si ba ks)
  rw [hkl] at hPl
  have hPg:=fun j a b=>jLu (l:=qG S si ba ks) (j:=j) (a:=a) (b:=b)
  have hLc:∀ p,p∈uR (qG S si ba ks)→p.2<256^p.1:=fun p hp=>(eC (gH hS.ok si ba ks ho) p hp).2
  generalize uR (qG S si ba ks)=L at hQ j2 j3 hPl hPg hLc
  repeat apply Or.inl
  refine fO 2 ⟨[2,3,9],[(.slot 5 9 (.xs []),1)],Nat,fun i=>[(10,.i .i64 (2*(i:Int)+1)),(5,.ts 2 i i 1)],fun i=>[⟨60,0,.l (cf si ba)⟩,⟨34,0,.l [.i .i64 k,.i .i64 st,.i .i64 n2,.i .i64 n3,.s an.1 an.2,.s tg.1 tg.2,.s tx.1 tx.2,.qx 12 kr,.qx w8 l8,.qx w9 l9,.b b10,.s m11 v11]⟩,⟨9,i,.xs (L.take i)⟩],fun i=>i≤L.length,fun i=>L.length - i,⟨0,⟨⟨_,rfl,rfl⟩,⟨_,rfl,rfl⟩,⟨_,rfl,rfl⟩,⟨_,rfl,rfl⟩,⟨_,rfl,rfl⟩,trivial⟩,rfl,Nat.zero_le _,?_⟩,?_⟩
  ·show L.length - 0<LL; omega
  intro i hi
  repeat apply Or.inl
  refine And.intro (fun hlt=>?_) (fun hge=>?_)
  ·repeat apply Or.inl
   refine And.intro ⟨by omega,by omega⟩ ?_
   refine And.intro ⟨by omega,by omega⟩ ?_
   intro p hp
   rw [show (2*(i:Int)+1 - 1).toNat=2*i by omega] at hp
   obtain ⟨t,ht,hq⟩:=uC hks hp
   have hot:=uF ho ht
   have hgt:=tT S si ba ht
   have hq0:=hq
   obtain ⟨k',st',an',tg',tx',ks'⟩:=t
   simp only [isQ] at hq
   obtain ⟨n2',n3',w8',l8',w9',l9',b10',m11',v11',kr',rfl,_⟩:=hq
   repeat apply Or.inl
   refine And.intro ⟨by omega,by omega⟩ ?_
   intro p2 hp2
   rw [show (2*(i:Int)+1).toNat=2*i+1 by omega] at hp2
   obtain ⟨u,hu,hq2⟩:=uC hks hp2
   have hou:=uF ho hu
   have hgu:=tT S si ba hu
   have hwt:=jGm ht hu
   have hu0:=hq2
   obtain ⟨k4,st4,an4,tg4,tx4,ks4⟩:=u
   simp only [isQ] at hq2
   obtain ⟨n24,n34,w84,l84,w94,l94,b104,m114,v114,kr4,rfl,_⟩:=hq2
   have hLg:=hPg i _ _ hgt hgu
   repeat apply Or.inl
   refine h47 d _ _ _ ⟨si,ba,_,_,_,_,rfl,rfl,hq0,hu0,hot,hou,by omega,by omega,?_⟩
   repeat apply Or.inl
   refine uG ?_
   refine And.intro ⟨?_,?_⟩ ?_
   ·show (i+1)*16≤100000000000000; omega
   ·show i+1≤100000000000000; omega
   repeat apply Or.inl
   refine And.intro ⟨by omega,by omega⟩ ?_
   repeat apply Or.inl
   refine ⟨i+1,⟨⟨_,rfl,?_⟩,⟨_,rfl,rfl⟩,⟨_,rfl,rfl⟩,⟨_,rfl,rfl⟩,⟨_,rfl,rfl⟩,trivial⟩,⟨rfl,rfl,?_,trivial⟩,?_,?_⟩
   ·show SV.i .i64 (2*(i:Int)+1+2) = .i .i64 (2*((i+1:Nat):Int)+1)
    congr 1
   ·rw [wX hLg]
   ·show i+1≤L.length; have:=(List.getElem?_eq_some_iff.1 hLg).1; omega
   ·show L.length - (i+1)<L.length - i; have:=(List.getElem?_eq_some_iff.1 hLg).1; omega
  ·obtain rfl:i=L.length:=by omega
   have hT:L.take L.length=L:=by rw [List.take_length]
   have hLn:L.length≤NB:=by omega
   generalize hn:L.length=n at *
   rw [←hT] at hQ j2
   have hls:=eR L n
   repeat apply Or.inl
   refine uG ?_
   refine hS.h46 d (L.take n) _ (by omega) (by omega) (by rw [hT]; omega) (fun p hp=>hLc p (List.mem_of_mem_take hp)) ?_
   have hjj:(zS (L.take n)).1+2≤MX:=by rw [hT] at j2 ⊢; omega
   refine ⟨?_,fun _ _=>?_⟩
   ·show 1+(zS (L.take n)).1≤MX; omega
   repeat apply Or.inl
   refine ⟨?_,fun _ _=>?_⟩
   ·show 1+(zS (L.take n)).1+1≤MX; omega
   repeat apply Or.inl
   exact hQ
end
end
end Go.Proofs.YtngfdcnglojcaaaGreatDoor.Ev.Fb
end
section
set_option linter.all false
namespace Go.Proofs.YtngfdcnglojcaaaGreatDoor.Ev.Fb
noncomputable section
open Go Ev Rf
set_option maxRecDepth 2000
set_option maxHeartbeats 4000000
section
variable {G:Nat→List SV→SV→Prop} {Γ:qE}
theorem tS:∀ {a:List Tq} {ra:List (List Nd)} {b:List Tq} {rb:List (List Nd)},xM a ra→xM b rb→xM (a++b) (ra++rb)
 | [],ra,b,rb,h,k=>by simp only [xM] at h; subst h; exact k
 | t::a,ra,b,rb,h,k=>by
  simp only [xM] at h
  obtain ⟨r,rs,rfl,h1,h2⟩:=h
  simp only [List.cons_append,xM]
  exact ⟨r,rs++rb,rfl,h1,tS h2 k⟩
theorem fP:∀ (a b:List Tq),jV (a++b)=jV a++jV b
 | [],b=>rfl
 | t::a,b=>by simp only [List.cons_append,jV,fP a b]
theorem tZ:∀ l:List Nd,vQ (l.map ofN)=0
 | []=>rfl
 | c::l=>by
  simp only [List.map_cons,vQ,tZ l]
  cases c<;>rfl
theorem p8 (h8:∀ d l H Q,jAb d l H Q→Γ d 8 l H Q) (d:Nat) (l:List SV) (H:Hp) (Q:Q2) (h:jAb (d+1) l H Q):wF (PT.C G) Γ LL d 8 g8 l H Q:=by
 obtain ⟨t,row,rfl,rfl,hr,ho,hd,hQ⟩:=h
 obtain ⟨k,st,an,tg,tx,ks⟩:=t
 simp only [isQ] at hr
 obtain ⟨n2,n3,w8,l8,w9,l9,b10,m11,v11,kr,rfl,hks⟩:=hr
 simp only [okQ] at ho
 obtain ⟨_,_,hb,ho⟩:=ho
 simp only [wtQ] at hd
 have e2:NB=1000000:=rfl
 have e3:LL=200000000000000:=rfl
 have hlen:=jBl hks
 have body:∀ (st':Int),st'=(if k=3∨k=4 then 7 else st)→∀ kr',xM (jV ks) kr'→Q (.agg ([.i .i64 k,.i .i64 st',.i .i64 0,.i .i64 0,.s an.1 an.2,.s tg.1 tg.2,.s tx.1 tx.2,.q 12 kr',.q 2 [],.q 2 [],.b false,.s 0 0].map ofN)) []:=fun st' e kr' h=>by
  subst e
  refine hQ _ ?_
  simp only [xB,isQ]
  exact ⟨_,_,_,_,_,_,_,_,_,_,rfl,h⟩
 repeat apply Or.inl
 refine And.intro (fun h3=>?_) (fun h3=>?_)
 ·repeat apply Or.inl
  refine fO 0 ⟨[1,2,3],[],Nat×List (List Nd)×List Nd,fun p=>[(4,.i .i64 (p.1:Int))],fun p=>(match p.1 with | 0=>[⟨34,0,.l [.i .i64 k,.i .i64 st,.i .i64 n2,.i .i64 n3,.s an.1 an.2,.s tg.1 tg.2,.s tx.1 tx.2,.qx 12 kr,.qx w8 l8,.qx w9 l9,.b b10,.s m11 v11]⟩,⟨34,0,.l [.i .i64 0,.i .i64 0,.i .i64 0,.i .i64 0,.s 0 0,.s 0 0,.s 0 0,.sl0,.sl0,.sl0,.b false,.s 0 0]⟩,⟨34,0,.l [.i .i64 k,.i .i64 7,.i .i64 0,.i .i64 0,.s an.1 an.2,.s tg.1 tg.2,.s tx.1 tx.2,.sl0,.sl0,.sl0,.b false,.s 0 0]⟩] | n+1=>[⟨34,0,.l [.i .i64 k,.i .i64 st,.i .i64 n2,.i .i64 n3,.s an.1 an.2,.s tg.1 tg.2,.s tx.1 tx.2,.qx 12 kr,.qx w8 l8,.qx w9 l9,.b b10,.s m11 v11]⟩,⟨34,0,.l [.i .i64 0,.i .i64 0,.i .i64 0,.i .i64 0,.s 0 0,.s 0 0,.s 0 0,.sl0,.sl0,.sl0,.b false,.s 0 0]⟩,⟨34,0,.l [.i .i64 k,.i .i64 7,.i .i64 0,.i .i64 0,.s an.1 an.2,.s tg.1 tg.2,.s tx.1 tx.2,.ts 4 n (n+1) 12,.sl0,.sl0,.b false,.s 0 0]⟩,⟨34,0,.l (p.2.2.map ofN)⟩,⟨34,n,.xr 12 p.2.1⟩]),fun p=>p.1≤ks.length∧xM (jV (ks.take p.1)) p.2.1,fun p=>ks.length - p.1,⟨(0,[],[]),⟨⟨_,rfl,rfl⟩,⟨_,rfl,rfl⟩,⟨_,rfl,rfl⟩,⟨_,rfl,rfl⟩,trivial⟩,rfl,⟨Nat.zero_le _,?_⟩,?_⟩,?_⟩
  ·simp only [List.take_zero,jV,xM]
  ·show ks.length - 0<LL; omega
  rintro ⟨i,out,junk⟩ ⟨hi,hI⟩
  dsimp only at hi hI
  cases i with
  | zero=>
   repeat apply Or.inl
   refine And.intro (fun hlt=>?_) (fun hge=>?_)
   ·repeat apply Or.inl
    refine And.intro ⟨by omega,by omega⟩ ?_
    intro p hp
    obtain ⟨t,ht,hq⟩:=uC hks (k:=0) (by simpa using hp)
    have hot:=uF ho ht
    have hwt:=vN ht
    have hq0:=hq
    obtain ⟨k',st',an',tg',tx',ks'⟩:=t
    simp only [isQ] at hq
    obtain ⟨n2',n3',w8',l8',w9',l9',b10',m11',v11',kr',rfl,_⟩:=hq
    refine Or.inl ?_
    refine h8 d _ _ _ ⟨_,_,rfl,rfl,hq0,hot,by omega,?_⟩
    intro row' hrow
    have hrow0:=hrow
    simp only [xB,isQ] at hrow
    obtain ⟨n24,n34,w84,l84,w94,l94,b104,m114,v114,kr4,rfl,_⟩:=hrow
    refine Or.inl ?_
    refine Or.inr (Or.inr ?_)
    refine ⟨[.i .i64 k',.i .i64 (if k'=3∨k'=4 then 7 else st'),.i .i64 n24,.i .i64 n34,.s an'.1 an'.2,.s tg'.1 tg'.2,.s tx'.1 tx'.2,.q 12 kr4,.q w84 l84,.q w94 l94,.b b104,.s m114 v114],rfl,⟨by decide,rfl⟩,⟨by decide,by decide⟩,?_⟩
    repeat apply Or.inl
    refine And.intro ⟨by omega,by omega⟩ ?_
    repeat apply Or.inl
    refine ⟨(1,[[.i .i64 k',.i .i64 (if k'=3∨k'=4 then 7 else st'),.i .i64 n24,.i .i64 n34,.s an'.1 an'.2,.s tg'.1 tg'.2,.s tx'.1 tx'.2,.q 12 kr4,.q w84 l84,.q w94 l94,.b b104,.s m114 v114]],[.i .i64 k',.i .i64 (if k'=3∨k'=4 then 7 else st'),.i .i64 n24,.i .i64 n34,.s an'.1 an'.2,.s tg'.1 tg'.2,.s tx'.1 tx'.2,.q 12 kr4,.q w84 l84,.q w94 l94,.b b104,.s m114 v114]),⟨⟨_,rfl,rfl⟩,⟨_,rfl,rfl⟩,⟨_,rfl,rfl⟩,⟨_,rfl,rfl⟩,trivial⟩,⟨rfl,rfl,rfl,rfl,rfl,trivial⟩,⟨?_,?_⟩,?_⟩
    ·show 1≤ks.length; omega
    ·show xM (jV (ks.take 1)) _
     rw [wX ht,List.take_zero,List.nil_append]
     simp only [jV,xM]
     exact ⟨_,_,rfl,hrow0,rfl⟩
    ·show ks.length - 1<ks.length - 0; omega
   ·have hk0:ks=[]:=List.eq_nil_of_length_eq_zero (by omega)
    repeat apply Or.inl
    exact body _ (by rw [if_pos (by omega)]) [] (by subst hk0; simp only [jV,xM])
  | succ i=>
   repeat apply Or.inl
   refine And.intro (fun hlt=>?_) (fun hge=>?_)
   ·repeat apply Or.inl
    refine And.intro ⟨by omega,by omega⟩ ?_
    intro p hp
    obtain ⟨t,ht,hq⟩:=uC hks (k:=i+1) (by simpa using hp)
    have hot:=uF ho ht
    have hwt:=vN ht
    have hq0:=hq
    obtain ⟨k',st',an',tg',tx',ks'⟩:=t
    simp only [isQ] at hq
    obtain ⟨n2',n3',w8',l8',w9',l9',b10',m11',v11',kr',rfl,_⟩:=hq
    refine Or.inl ?_
    refine h8 d _ _ _ ⟨_,_,rfl,rfl,hq0,hot,by omega,?_⟩
    intro row' hrow
    have hrow0:=hrow
    simp only [xB,isQ] at hrow
    obtain ⟨n24,n34,w84,l84,w94,l94,b104,m114,v114,kr4,rfl,_⟩:=hrow
    refine Or.inl ?_
    refine Or.inr (Or.inr ?_)
    refine uG ?_
    refine ⟨[.i .i64 k',.i .i64 (if k'=3∨k'=4 then 7 else st'),.i .i64 n24,.i .i64 n34,.s an'.1 an'.2,.s tg'.1 tg'.2,.s tx'.1 tx'.2,.q 12 kr4,.q w84 l84,.q w94 l94,.b b104,.s m114 v114],rfl,rfl,⟨?_,?_⟩,?_⟩
    ·show (i+1+1)*176≤100000000000000; omega
    ·show i+1+1≤100000000000000; omega
    repeat apply Or.inl
    refine And.intro ⟨by omega,by omega⟩ ?_
    repeat apply Or.inl
    refine ⟨(i+2,out++[[.i .i64 k',.i .i64 (if k'=3∨k'=4 then 7 else st'),.i .i64 n24,.i .i64 n34,.s an'.1 an'.2,.s tg'.1 tg'.2,.s tx'.1 tx'.2,.q 12 kr4,.q w84 l84,.q w94 l94,.b b104,.s m114 v114]],junk),⟨⟨_,rfl,rfl⟩,⟨_,rfl,rfl⟩,⟨_,rfl,rfl⟩,⟨_,rfl,rfl⟩,trivial⟩,⟨rfl,rfl,rfl,rfl,rfl,trivial⟩,jPc ?_ ⟨⟨?_,?_⟩,?_⟩⟩
    ·show (Nat.ble 5 5&&Nat.ble 3 5&&Nat.ble (mx 0 (mx 0 (mx 5 (mx (vQ (junk.map ofN)) (mx 0 0))))) 5)=true
     rw [tZ]; rfl
    ·show i+2≤ks.length; omega
    ·show xM (jV (ks.take (i+2))) _
     rw [wX ht,fP]
     refine tS hI ?_
     simp only [jV,xM]
     exact ⟨_,_,rfl,hrow0,rfl⟩
    ·show ks.length - (i+2)<ks.length - (i+1); omega
   ·have hEq:ks.length=i+1:=by omega
    repeat apply Or.inl
    refine uG ?_
    exact body _ (by rw [if_pos (by omega)]) out (by rw [List.take_of_length_le (by omega)] at hI; exact hI)
 ·repeat apply Or.inl
  refine And.intro (fun h4=>?_) (fun h4=>?_)
  ·repeat apply Or.inl
   refine fO 0 ⟨[1,2,3],[],Nat×List (List Nd)×List Nd,fun p=>[(4,.i .i64 (p.1:Int))],fun p=>(match p.1 with | 0=>[⟨34,0,.l [.i .i64 k,.i .i64 st,.i .i64 n2,.i .i64 n3,.s an.1 an.2,.s tg.1 tg.2,.s tx.1 tx.2,.qx 12 kr,.qx w8 l8,.qx w9 l9,.b b10,.s m11 v11]⟩,⟨34,0,.l [.i .i64 0,.i .i64 0,.i .i64 0,.i .i64 0,.s 0 0,.s 0 0,.s 0 0,.sl0,.sl0,.sl0,.b false,.s 0 0]⟩,⟨34,0,.l [.i .i64 k,.i .i64 7,.i .i64 0,.i .i64 0,.s an.1 an.2,.s tg.1 tg.2,.s tx.1 tx.2,.sl0,.sl0,.sl0,.b false,.s 0 0]⟩] | n+1=>[⟨34,0,.l [.i .i64 k,.i .i64 st,.i .i64 n2,.i .i64 n3,.s an.1 an.2,.s tg.1 tg.2,.s tx.1 tx.2,.qx 12 kr,.qx w8 l8,.qx w9 l9,.b b10,.s m11 v11]⟩,⟨34,0,.l [.i .i64 0,.i .i64 0,.i .i64 0,.i .i64 0,.s 0 0,.s 0 0,.s 0 0,.sl0,.sl0,.sl0,.b false,.s 0 0]⟩,⟨34,0,.l [.i .i64 k,.i .i64 7,.i .i64 0,.i .i64 0,.s an.1 an.2,.s tg.1 tg.2,.s tx.1 tx.2,.ts 4 n (n+1) 12,.sl0,.sl0,.b false,.s 0 0]⟩,⟨34,0,.l (p.2.2.map ofN)⟩,⟨34,n,.xr 12 p.2.1⟩]),fun p=>p.1≤ks.length∧xM (jV (ks.take p.1)) p.2.1,fun p=>ks.length - p.1,⟨(0,[],[]),⟨⟨_,rfl,rfl⟩,⟨_,rfl,rfl⟩,⟨_,rfl,rfl⟩,⟨_,rfl,rfl⟩,trivial⟩,rfl,⟨Nat.zero_le _,?_⟩,?_⟩,?_⟩
   ·simp only [List.take_zero,jV,xM]
   ·show ks.length - 0<LL; omega
   rintro ⟨i,out,junk⟩ ⟨hi,hI⟩
   dsimp only at hi hI
   cases i with
   | zero=>
    repeat apply Or.inl
    refine And.intro (fun hlt=>?_) (fun hge=>?_)
    ·repeat apply Or.inl
     refine And.intro ⟨by omega,by omega⟩ ?_
     intro p hp
     obtain ⟨t,ht,hq⟩:=uC hks (k:=0) (by simpa using hp)
     have hot:=uF ho ht
     have hwt:=vN ht
     have hq0:=hq
     obtain ⟨k',st',an',tg',tx',ks'⟩:=t
     simp only [isQ] at hq
     obtain ⟨n2',n3',w8',l8',w9',l9',b10',m11',v11',kr',rfl,_⟩:=hq
     refine Or.inl ?_
     refine h8 d _ _ _ ⟨_,_,rfl,rfl,hq0,hot,by omega,?_⟩
     intro row' hrow
     have hrow0:=hrow
     simp only [xB,isQ] at hrow
     obtain ⟨n24,n34,w84,l84,w94,l94,b104,m114,v114,kr4,rfl,_⟩:=hrow
     refine Or.inl ?_
     refine Or.inr (Or.inr ?_)
     refine ⟨[.i .i64 k',.i .i64 (if k'=3∨k'=4 then 7 else st'),.i .i64 n24,.i .i64 n34,.s an'.1 an'.2,.s tg'.1 tg'.2,.s tx'.1 tx'.2,.q 12 kr4,.q w84 l84,.q w94 l94,.b b104,.s m114 v114],rfl,⟨by decide,rfl⟩,⟨by decide,by decide⟩,?_⟩
     repeat apply Or.inl
     refine And.intro ⟨by omega,by omega⟩ ?_
     repeat apply Or.inl
     refine ⟨(1,[[.i .i64 k',.i .i64 (if k'=3∨k'=4 then 7 else st'),.i .i64 n24,.i .i64 n34,.s an'.1 an'.2,.s tg'.1 tg'.2,.s tx'.1 tx'.2,.q 12 kr4,.q w84 l84,.q w94 l94,.b b104,.s m114 v114]],[.i .i64 k',.i .i64 (if k'=3∨k'=4 then 7 else st'),.i .i64 n24,.i .i64 n34,.s an'.1 an'.2,.s tg'.1 tg'.2,.s tx'.1 tx'.2,.q 12 kr4,.q w84 l84,.q w94 l94,.b b104,.s m114 v114]),⟨⟨_,rfl,rfl⟩,⟨_,rfl,rfl⟩,⟨_,rfl,rfl⟩,⟨_,rfl,rfl⟩,trivial⟩,⟨rfl,rfl,rfl,rfl,rfl,trivial⟩,⟨?_,?_⟩,?_⟩
     ·show 1≤ks.length; omega
     ·show xM (jV (ks.take 1)) _
      rw [wX ht,List.take_zero,List.nil_append]
      simp only [jV,xM]
      exact ⟨_,_,rfl,hrow0,rfl⟩
     ·show ks.length - 1<ks.length - 0; omega
    ·have hk0:ks=[]:=List.eq_nil_of_length_eq_zero (by omega)
     repeat apply Or.inl
     exact body _ (by rw [if_pos (by omega)]) [] (by subst hk0; simp only [jV,xM])
   | succ i=>
    repeat apply Or.inl
    refine And.intro (fun hlt=>?_) (fun hge=>?_)
    ·repeat apply Or.inl
     refine And.intro ⟨by omega,by omega⟩ ?_
     intro p hp
     obtain ⟨t,ht,hq⟩:=uC hks (k:=i+1) (by simpa using hp)
     have hot:=uF ho ht
     have hwt:=vN ht
     have hq0:=hq
     obtain ⟨k',st',an',tg',tx',ks'⟩:=t
     simp only [isQ] at hq
     obtain ⟨n2',n3',w8',l8',w9',l9',b10',m11',v11',kr',rfl,_⟩:=hq
     refine Or.inl ?_
     refine h8 d _ _ _ ⟨_,_,rfl,rfl,hq0,hot,by omega,?_⟩
     intro row' hrow
     have hrow0:=hrow
     simp only [xB,isQ] at hrow
     obtain ⟨n24,n34,w84,l84,w94,l94,b104,m114,v114,kr4,rfl,_⟩:=hrow
     refine Or.inl ?_
     refine Or.inr (Or.inr ?_)
     refine uG ?_
     refine ⟨[.i .i64 k',.i .i64 (if k'=3∨k'=4 then 7 else st'),.i .i64 n24,.i .i64 n34,.s an'.1 an'.2,.s tg'.1 tg'.2,.s tx'.1 tx'.2,.q 12 kr4,.q w84 l84,.q w94 l94,.b b104,.s m114 v114],rfl,rfl,⟨?_,?_⟩,?_⟩
     ·show (i+1+1)*176≤100000000000000; omega
     ·show i+1+1≤100000000000000; omega
     repeat apply Or.inl
     refine And.intro ⟨by omega,by omega⟩ ?_
     repeat apply Or.inl
     refine ⟨(i+2,out++[[.i .i64 k',.i .i64 (if k'=3∨k'=4 then 7 else st'),.i .i64 n24,.i .i64 n34,.s an'.1 an'.2,.s tg'.1 tg'.2,.s tx'.1 tx'.2,.q 12 kr4,.q w84 l84,.q w94 l94,.b b104,.s m114 v114]],junk),⟨⟨_,rfl,rfl⟩,⟨_,rfl,rfl⟩,⟨_,rfl,rfl⟩,⟨_,rfl,rfl⟩,trivial⟩,⟨rfl,rfl,rfl,rfl,rfl,trivial⟩,jPc ?_ ⟨⟨?_,?_⟩,?_⟩⟩
     ·show (Nat.ble 5 5&&Nat.ble 3 5&&Nat.ble (mx 0 (mx 0 (mx 5 (mx (vQ (junk.map ofN)) (mx 0 0))))) 5)=true
      rw [tZ]; rfl
     ·show i+2≤ks.length; omega
     ·show xM (jV (ks.take (i+2))) _
      rw [wX ht,fP]
      refine tS hI ?_
      simp only [jV,xM]
      exact ⟨_,_,rfl,hrow0,rfl⟩
     ·show ks.length - (i+2)<ks.length - (i+1); omega
    ·have hEq:ks.length=i+1:=by omega
     repeat apply Or.inl
     refine uG ?_
     exact body _ (by rw [if_pos (by omega)]) out (by rw [List.take_of_length_le (by omega)] at hI; exact hI)
  ·repeat apply Or.inl
   refine fO 0 ⟨[1,2,3],[],Nat×List (List Nd)×List Nd,fun p=>[(4,.i .i64 (p.1:Int))],fun p=>(match p.1 with | 0=>[⟨34,0,.l [.i .i64 k,.i .i64 st,.i .i64 n2,.i .i64 n3,.s an.1 an.2,.s tg.1 tg.2,.s tx.1 tx.2,.qx 12 kr,.qx w8 l8,.qx w9 l9,.b b10,.s m11 v11]⟩,⟨34,0,.l [.i .i64 0,.i .i64 0,.i .i64 0,.i .i64 0,.s 0 0,.s 0 0,.s 0 0,.sl0,.sl0,.sl0,.b false,.s 0 0]⟩,⟨34,0,.l [.i .i64 k,.i .i64 st,.i .i64 0,.i .i64 0,.s an.1 an.2,.s tg.1 tg.2,.s tx.1 tx.2,.sl0,.sl0,.sl0,.b false,.s 0 0]⟩] | n+1=>[⟨34,0,.l [.i .i64 k,.i .i64 st,.i .i64 n2,.i .i64 n3,.s an.1 an.2,.s tg.1 tg.2,.s tx.1 tx.2,.qx 12 kr,.qx w8 l8,.qx w9 l9,.b b10,.s m11 v11]⟩,⟨34,0,.l [.i .i64 0,.i .i64 0,.i .i64 0,.i .i64 0,.s 0 0,.s 0 0,.s 0 0,.sl0,.sl0,.sl0,.b false,.s 0 0]⟩,⟨34,0,.l [.i .i64 k,.i .i64 st,.i .i64 0,.i .i64 0,.s an.1 an.2,.s tg.1 tg.2,.s tx.1 tx.2,.ts 4 n (n+1) 12,.sl0,.sl0,.b false,.s 0 0]⟩,⟨34,0,.l (p.2.2.map ofN)⟩,⟨34,n,.xr 12 p.2.1⟩]),fun p=>p.1≤ks.length∧xM (jV (ks.take p.1)) p.2.1,fun p=>ks.length - p.1,⟨(0,[],[]),⟨⟨_,rfl,rfl⟩,⟨_,rfl,rfl⟩,⟨_,rfl,rfl⟩,⟨_,rfl,rfl⟩,trivial⟩,rfl,⟨Nat.zero_le _,?_⟩,?_⟩,?_⟩
   ·simp only [List.take_zero,jV,xM]
   ·show ks.length - 0<LL; omega
   rintro ⟨i,out,junk⟩ ⟨hi,hI⟩
   dsimp only at hi hI
   cases i with
   | zero=>
    repeat apply Or.inl
    refine And.intro (fun hlt=>?_) (fun hge=>?_)
    ·repeat apply Or.inl
     refine And.intro ⟨by omega,by omega⟩ ?_
     intro p hp
     obtain ⟨t,ht,hq⟩:=uC hks (k:=0) (by simpa using hp)
     have hot:=uF ho ht
     have hwt:=vN ht
     have hq0:=hq
     obtain ⟨k',st',an',tg',tx',ks'⟩:=t
     simp only [isQ] at hq
     obtain ⟨n2',n3',w8',l8',w9',l9',b10',m11',v11',kr',rfl,_⟩:=hq
     refine Or.inl ?_
     refine h8 d _ _ _ ⟨_,_,rfl,rfl,hq0,hot,by omega,?_⟩
     intro row' hrow
     have hrow0:=hrow
     simp only [xB,isQ] at hrow
     obtain ⟨n24,n34,w84,l84,w94,l94,b104,m114,v114,kr4,rfl,_⟩:=hrow
     refine Or.inl ?_
     refine Or.inr (Or.inr ?_)
     refine ⟨[.i .i64 k',.i .i64 (if k'=3∨k'=4 then 7 else st'),.i .i64 n24,.i .i64 n34,.s an'.1 an'.2,.s tg'.1 tg'.2,.s tx'.1 tx'.2,.q 12 kr4,.q w84 l84,.q w94 l94,.b b104,.s m114 v114],rfl,⟨by decide,rfl⟩,⟨by decide,by decide⟩,?_⟩
     repeat apply Or.inl
     refine And.intro ⟨by omega,by omega⟩ ?_
     repeat apply Or.inl
     refine ⟨(1,[[.i .i64 k',.i .i64 (if k'=3∨k'=4 then 7 else st'),.i .i64 n24,.i .i64 n34,.s an'.1 an'.2,.s tg'.1 tg'.2,.s tx'.1 tx'.2,.q 12 kr4,.q w84 l84,.q w94 l94,.b b104,.s m114 v114]],[.i .i64 k',.i .i64 (if k'=3∨k'=4 then 7 else st'),.i .i64 n24,.i .i64 n34,.s an'.1 an'.2,.s tg'.1 tg'.2,.s tx'.1 tx'.2,.q 12 kr4,.q w84 l84,.q w94 l94,.b b104,.s m114 v114]),⟨⟨_,rfl,rfl⟩,⟨_,rfl,rfl⟩,⟨_,rfl,rfl⟩,⟨_,rfl,rfl⟩,trivial⟩,⟨rfl,rfl,rfl,rfl,rfl,trivial⟩,⟨?_,?_⟩,?_⟩
     ·show 1≤ks.length; omega
     ·show xM (jV (ks.take 1)) _
      rw [wX ht,List.take_zero,List.nil_append]
      simp only [jV,xM]
      exact ⟨_,_,rfl,hrow0,rfl⟩
     ·show ks.length - 1<ks.length - 0; omega
    ·have hk0:ks=[]:=List.eq_nil_of_length_eq_zero (by omega)
     repeat apply Or.inl
     exact body _ (by rw [if_neg (by omega)]) [] (by subst hk0; simp only [jV,xM])
   | succ i=>
    repeat apply Or.inl
    refine And.intro (fun hlt=>?_) (fun hge=>?_)
    ·repeat apply Or.inl
     refine And.intro ⟨by omega,by omega⟩ ?_
     intro p hp
     obtain ⟨t,ht,hq⟩:=uC hks (k:=i+1) (by simpa using hp)
     have hot:=uF ho ht
     have hwt:=vN ht
     have hq0:=hq
     obtain ⟨k',st',an',tg',tx',ks'⟩:=t
     simp only [isQ] at hq
     obtain ⟨n2',n3',w8',l8',w9',l9',b10',m11',v11',kr',rfl,_⟩:=hq
     refine Or.inl ?_
     refine h8 d _ _ _ ⟨_,_,rfl,rfl,hq0,hot,by omega,?_⟩
     intro row' hrow
     have hrow0:=hrow
     simp only [xB,isQ] at hrow
     obtain ⟨n24,n34,w84,l84,w94,l94,b104,m114,v114,kr4,rfl,_⟩:=hrow
     refine Or.inl ?_
     refine Or.inr (Or.inr ?_)
     refine uG ?_
     refine ⟨[.i .i64 k',.i .i64 (if k'=3∨k'=4 then 7 else st'),.i .i64 n24,.i .i64 n34,.s an'.1 an'.2,.s tg'.1 tg'.2,.s tx'.1 tx'.2,.q 12 kr4,.q w84 l84,.q w94 l94,.b b104,.s m114 v114],rfl,rfl,⟨?_,?_⟩,?_⟩
     ·show (i+1+1)*176≤100000000000000; omega
     ·show i+1+1≤100000000000000; omega
     repeat apply Or.inl
     refine And.intro ⟨by omega,by omega⟩ ?_
     repeat apply Or.inl
     refine ⟨(i+2,out++[[.i .i64 k',.i .i64 (if k'=3∨k'=4 then 7 else st'),.i .i64 n24,.i .i64 n34,.s an'.1 an'.2,.s tg'.1 tg'.2,.s tx'.1 tx'.2,.q 12 kr4,.q w84 l84,.q w94 l94,.b b104,.s m114 v114]],junk),⟨⟨_,rfl,rfl⟩,⟨_,rfl,rfl⟩,⟨_,rfl,rfl⟩,⟨_,rfl,rfl⟩,trivial⟩,⟨rfl,rfl,rfl,rfl,rfl,trivial⟩,jPc ?_ ⟨⟨?_,?_⟩,?_⟩⟩
     ·show (Nat.ble 5 5&&Nat.ble 3 5&&Nat.ble (mx 0 (mx 0 (mx 5 (mx (vQ (junk.map ofN)) (mx 0 0))))) 5)=true
      rw [tZ]; rfl
     ·show i+2≤ks.length; omega
     ·show xM (jV (ks.take (i+2))) _
      rw [wX ht,fP]
      refine tS hI ?_
      simp only [jV,xM]
      exact ⟨_,_,rfl,hrow0,rfl⟩
     ·show ks.length - (i+2)<ks.length - (i+1); omega
    ·have hEq:ks.length=i+1:=by omega
     repeat apply Or.inl
     refine uG ?_
     exact body _ (by rw [if_neg (by omega)]) out (by rw [List.take_of_length_le (by omega)] at hI; exact hI)
end
end
end Go.Proofs.YtngfdcnglojcaaaGreatDoor.Ev.Fb
end
section
set_option linter.all false
namespace Go.Proofs.YtngfdcnglojcaaaGreatDoor.Ev.Fb
noncomputable section
open Go Ev Rf
set_option maxRecDepth 2000
set_option maxHeartbeats 4000000
section
variable {G:Nat→List SV→SV→Prop} {Γ:qE}
def jWz:Ct:=fun d l H Q=>l=[]∧H=[]∧1≤d∧Q (.b true) []
def qGm:Ct:=fun d l H Q=>∃ (n v m:Nat) (fl si ba:Bool),l=[.s n v,.fis m,.b fl,.b si,.b ba]∧H=[]∧v<256^n∧100000000000000≤d∧Q (.b true) []
def jYl (Γ:qE):Prop:=∀ (d n v:Nat) (Q:Q2),n≤11100→260001300≤d→(∀ (r k r2 k2:Nat) (p c:Int),r≤2776110000000→k≤NB→k2≤NB→Q (.tup [.agg [.q 3 r k,.q 0 r2 k2],.i .i64 p,.i .i64 c]) [])→Γ d 5 [.s n v] [] Q
def qFr (Γ:qE):Prop:=∀ (d m:Nat) (Q:Q2),m≤100→460≤d→(∀ n v:Nat,n≤11100→Q (.s n v) [])→Γ d 10 [.fis m] [] Q
mutual
theorem jNj:∀ t:Tq,wtQ (xB t)=wtQ t
 | .mk k st an tg tx ks=>by simp only [xB,wtQ,jGn ks]
theorem jGn:∀ ts:List Tq,fX (jV ts)=fX ts
 | []=>rfl
 | t::ts=>by simp only [jV,fX,jNj t,jGn ts]
end
theorem lK:∀ ts:List Tq,(jV ts).length=ts.length
 | []=>rfl
 | t::ts=>by simp only [jV,List.length_cons,lK ts]
mutual
theorem jLt:∀ t:Tq,okQ t→okQ (xB t)
 | .mk k st an tg tx ks,h=>by
  simp only [okQ] at h
  simp only [xB,okQ,lK]
  exact ⟨h.1,h.2.1,h.2.2.1,jFo ks h.2.2.2⟩
theorem jFo:∀ ts:List Tq,mK ts→mK (jV ts)
 | [],_=>by simp only [jV,mK]
 | t::ts,h=>by
  simp only [mK] at h
  simp only [jV,mK]
  exact ⟨jLt t h.1,jFo ts h.2⟩
end
theorem kq:Kq (PT.C G):=⟨fun r=>rfl,fun r=>rfl,rfl,rfl,fun f h=>by
  have h:rpK (PT.rk 1) f:=h
  have h0:=h (4,none) (by decide) trivial
  have h1:=h (5,none) (by decide) trivial
  exact ⟨h0,h1,fun k e=>h (6,some 0) (by decide) ⟨k,e⟩⟩,fun f h=>by
  have h:rpK (PT.rk 3) f:=h
  have h0:=h (7,none) (by decide) trivial
  have h1:=h (8,none) (by decide) trivial
  exact ⟨h0,h1,fun k e=>h (9,some 3) (by decide) ⟨k,e⟩⟩⟩
theorem p3 {S:Sc} (hS:ScR Γ S) (h4:∀ d l H Q,jWz d l H Q→Γ d 4 l H Q) (h5:jYl Γ) (h10:qFr Γ) (h6:∀ d l H Q,jAd S d l H Q→Γ d 6 l H Q) (h7:∀ d l H Q,jQj d l H Q→Γ d 7 l H Q)
  (h8:∀ d l H Q,jAb d l H Q→Γ d 8 l H Q) (h9:∀ d l H Q,jXb S d l H Q→Γ d 9 l H Q) (d:Nat) (l:List SV) (H:Hp) (Q:Q2) (h:qGm (d+1) l H Q):wF (PT.C G) Γ LL d 3 g3 l H Q:=by
 obtain ⟨n,v,m,fl,si,ba,rfl,rfl,hv,hd,hQ⟩:=h
 have e1:MX=140737488355328:=rfl
 have e2:NB=1000000:=rfl
 have e3:LL=200000000000000:=rfl
 repeat apply Or.inl
 refine And.intro (fun hn=>?_) (fun hn=>?_)
 ·repeat apply Or.inl
  refine h4 d _ _ _ ⟨rfl,rfl,by omega,?_⟩
  intro _
  repeat apply Or.inl
  exact hQ
 ·repeat apply Or.inl
  refine And.intro (fun hm=>?_) (fun hm=>?_)
  ·repeat apply Or.inl
   refine h4 d _ _ _ ⟨rfl,rfl,by omega,?_⟩
   intro _
   repeat apply Or.inl
   exact hQ
  ·repeat apply Or.inl
   refine fO 0 ⟨[1,2,3,4],[],Nat×Nat×Nat,fun p=>[(11,.i .i64 (p.1:Int)),(0,.s p.2.1 p.2.2)],fun p=>[],fun p=>p.1≤2∧p.2.1≤11100,fun p=>2 - p.1,⟨(0,n,v),⟨⟨_,rfl,rfl⟩,⟨_,rfl,rfl⟩,⟨_,rfl,rfl⟩,⟨_,rfl,rfl⟩,⟨_,rfl,rfl⟩,⟨_,rfl,rfl⟩,trivial⟩,rfl,⟨Nat.zero_le _,?_⟩,?_⟩,?_⟩
   ·show n≤11100; omega
   ·show 2 - 0<LL; omega
   rintro ⟨i,n,v⟩ ⟨hi,hn⟩
   dsimp only at hi hn
   repeat apply Or.inl
   refine And.intro (fun hlt=>?_) (fun hge=>?_)
   ·refine Or.inl ?_
    refine Or.inr ?_
    refine h5 d _ _ _ hn (by omega) fun r k r2 k2 pp cc hr hk hk2=>?_
    intro v' hv
    obtain ⟨l1,rfl,y1,t1,rfl,hy1,y2,t2,rfl,hy2,y3,t3,rfl,hy3,rfl⟩:=hv
    cases hy2
    cases hy3
    obtain ⟨l2,rfl,z1,s1,rfl,⟨D,rfl,hD,nD⟩,z2,s2,rfl,⟨E,rfl,hE,nE⟩,rfl⟩:=hy1
    obtain ⟨lD,eD,bD,rD⟩:=jBy nD
    cases eD
    obtain ⟨ds,d1,d2,d3⟩:=jZd kq rD
    repeat apply Or.inl
    refine fO 2 ⟨[0,1,2,3,4,11,12],[],Nat,fun k=>[(15,.i .i64 (k:Int))],fun k=>[⟨27,0,.l [.qx 16 D,.qx 2 E]⟩],fun k=>k≤ds.length,fun k=>ds.length - k,⟨0,⟨⟨_,rfl,rfl⟩,⟨_,rfl,rfl⟩,⟨_,rfl,rfl⟩,⟨_,rfl,rfl⟩,⟨_,rfl,rfl⟩,⟨_,rfl,rfl⟩,⟨_,rfl,rfl⟩,⟨_,rfl,rfl⟩,trivial⟩,rfl,Nat.zero_le _,?_⟩,?_⟩
    ·show ds.length - 0<LL; omega
    intro k hk
    repeat apply Or.inl
    refine And.intro (fun hlt2=>?_) (fun hge2=>?_)
    ·repeat apply Or.inl
     refine And.intro ⟨by omega,by omega⟩ ?_
     intro p hp
     obtain ⟨t,ht,hq⟩:=jFd d1 (k:=k) (by simpa using hp)
     obtain ⟨hwt,hot⟩:=d3 t (List.mem_of_getElem? ht)
     obtain ⟨ca,cb,cc2,rt,cz,rfl,hq⟩:=hq
     have hq0:=hq
     have hop:=jLt t hot
     have hwp:=jNj t
     have hsp:=jCx S si ba t fl
     obtain ⟨k',st',an',tg',tx',ks'⟩:=t
     simp only [isQ] at hq
     obtain ⟨n2',n3',w8',l8',w9',l9',b10',m11',v11',kr',rfl,_⟩:=hq
     have hkp:eO k' (if k'=3∨k'=4 then 7 else st') tx' (yG S si ba (.mk k' (if k'=3∨k'=4 then 7 else st') an' tg' tx' (jV ks')) fl)=eO k' st' tx' (yG S si ba (.mk k' st' an' tg' tx' ks') fl):=by
      have h:=hsp
      simp only [xB] at h
      rw [h]
      simp only [eO,lA]
     have hop2:=hop
     have hwp2:=hwp
     simp only [xB] at hop2 hwp2
     have hlen:=kZ hS.ok si ba (.mk k' st' an' tg' tx' ks') fl hot
     have hfin:=kM hS.ok si ba (.mk k' st' an' tg' tx' ks') fl hot
     repeat apply Or.inl
     refine h7 d _ _ _ ⟨si,ba,rfl,rfl,by omega,?_⟩
     repeat apply Or.inl
     refine h6 d _ _ _ ⟨si,ba,fl,_,_,rfl,rfl,hq0,hot,by omega,by omega,?_⟩
     repeat apply Or.inl
     refine h8 d _ _ _ ⟨_,_,rfl,rfl,hq0,hot,by omega,?_⟩
     intro row' hrow
     have hrow0:=hrow
     simp only [xB,isQ] at hrow
     obtain ⟨n24,n34,w84,l84,w94,l94,b104,m114,v114,kr4,rfl,_⟩:=hrow
     repeat apply Or.inl
     refine h7 d _ _ _ ⟨si,ba,rfl,rfl,by omega,?_⟩
     repeat apply Or.inl
     refine h6 d _ _ _ ⟨si,ba,fl,_,_,rfl,rfl,hrow0,hop,by omega,by omega,?_⟩
     rw [hsp]
     intro _ _
     refine And.intro (fun h=>absurd ⟨rfl,rfl⟩ h) (fun _=>?_)
     repeat apply Or.inl
     refine h7 d _ _ _ ⟨si,ba,rfl,rfl,by omega,?_⟩
     repeat apply Or.inl
     refine h9 d _ _ _ ⟨si,ba,fl,k',st',an',tg',tx',ks',_,rfl,rfl,hq0,hot,by omega,by omega,?_⟩
     repeat apply Or.inl
     refine h8 d _ _ _ ⟨_,_,rfl,rfl,hq0,hot,by omega,?_⟩
     intro row2 hrow
     have hrow2:=hrow
     simp only [xB] at hrow2
     simp only [xB,isQ] at hrow
     obtain ⟨n25,n35,w85,l85,w95,l95,b105,m115,v115,kr5,rfl,_⟩:=hrow
     repeat apply Or.inl
     refine h7 d _ _ _ ⟨si,ba,rfl,rfl,by omega,?_⟩
     repeat apply Or.inl
     refine h9 d _ _ _ ⟨si,ba,fl,k',_,an',tg',tx',jV ks',_,rfl,rfl,hrow2,hop2,by omega,by omega,?_⟩
     rw [hkp]
     intro _ _
     refine And.intro (fun h=>absurd ⟨rfl,rfl⟩ h) (fun _=>?_)
     repeat apply Or.inl
     generalize yG S si ba (.mk k' st' an' tg' tx' ks') fl=s at hfin hlen
     refine fO 4 ⟨[0,1,2,3,4,11,12,15,17],[],Nat,fun j=>[(18,.i .i64 (j:Int))],fun j=>[⟨27,0,.l [.qx 16 D,.qx 2 E]⟩,⟨34,0,.l [.i .i64 k',.i .i64 st',.i .i64 n2',.i .i64 n3',.s an'.1 an'.2,.s tg'.1 tg'.2,.s tx'.1 tx'.2,.qx 12 kr',.qx w8' l8',.qx w9' l9',.b b10',.s m11' v11']⟩],fun j=>j≤s.1,fun j=>s.1 - j,⟨0,⟨⟨_,rfl,rfl⟩,⟨_,rfl,rfl⟩,⟨_,rfl,rfl⟩,⟨_,rfl,rfl⟩,⟨_,rfl,rfl⟩,⟨_,rfl,rfl⟩,⟨_,rfl,rfl⟩,⟨_,rfl,rfl⟩,⟨_,rfl,rfl⟩,⟨_,rfl,rfl⟩,trivial⟩,rfl,Nat.zero_le _,?_⟩,?_⟩
     ·show s.1 - 0<LL; omega
     intro j hj
     repeat apply Or.inl
     refine And.intro (fun hl=>?_) (fun hl=>?_)
     ·repeat apply Or.inl
      refine And.intro ⟨by omega,by omega⟩ ?_
      intro hb0 hb1
      refine And.intro (fun hx=>?_) (fun hx=>?_)
      ·exfalso
       refine hfin.1 j (by omega) ?_
       unfold byZ at hx
       rw [Int.toNat_natCast] at hx
       exact Int.ofNat.inj hx
      ·repeat apply Or.inl
       refine And.intro ⟨by omega,by omega⟩ ?_
       repeat apply Or.inl
       refine ⟨j+1,⟨⟨_,rfl,rfl⟩,⟨_,rfl,rfl⟩,⟨_,rfl,rfl⟩,⟨_,rfl,rfl⟩,⟨_,rfl,rfl⟩,⟨_,rfl,rfl⟩,⟨_,rfl,rfl⟩,⟨_,rfl,rfl⟩,⟨_,rfl,rfl⟩,⟨_,rfl,rfl⟩,trivial⟩,⟨rfl,rfl,trivial⟩,?_,?_⟩
       ·show j+1≤s.1; omega
       ·show s.1 - (j+1)<s.1 - j; omega
     ·repeat apply Or.inl
      refine And.intro ⟨by omega,by omega⟩ ?_
      repeat apply Or.inl
      refine ⟨k+1,⟨⟨_,rfl,rfl⟩,⟨_,rfl,rfl⟩,⟨_,rfl,rfl⟩,⟨_,rfl,rfl⟩,⟨_,rfl,rfl⟩,⟨_,rfl,rfl⟩,⟨_,rfl,rfl⟩,⟨_,rfl,rfl⟩,trivial⟩,⟨rfl,trivial⟩,?_,?_⟩
      ·show k+1≤ds.length; omega
      ·show ds.length - (k+1)<ds.length - k; omega
    ·refine Or.inl ?_
     refine Or.inr ?_
     refine h10 d _ _ (by omega) (by omega) fun n' v' hn'=>?_
     intro v2 hv2
     cases hv2
     repeat apply Or.inl
     refine And.intro ⟨by omega,by omega⟩ ?_
     repeat apply Or.inl
     refine ⟨(i+1,n',v'),⟨⟨_,rfl,rfl⟩,⟨_,rfl,rfl⟩,⟨_,rfl,rfl⟩,⟨_,rfl,rfl⟩,⟨_,rfl,rfl⟩,⟨_,rfl,rfl⟩,trivial⟩,trivial,⟨?_,?_⟩,?_⟩
     ·show i+1≤2; omega
     ·show n'≤11100; omega
     ·show 2 - (i+1)<2 - i; omega
   ·repeat apply Or.inl
    refine h4 d _ _ _ ⟨rfl,rfl,by omega,?_⟩
    intro _
    repeat apply Or.inl
    exact hQ
end
end
end Go.Proofs.YtngfdcnglojcaaaGreatDoor.Ev.Fb
end
section
set_option linter.all false
namespace Go.Proofs.YtngfdcnglojcaaaGreatDoor.Ev.Fb
noncomputable section
open Go Ev
def jXf:AV→Option Tx
 | .s n v=>some (n,v)
 | _=>none
def kQ:List AV→Option (List Tx)
 | []=>some []
 | c::r=>(match jXf c,kQ r with | some x,some l=>some (x::l) | _,_=>none)
def jMd (σ:Mem):AV→Option (List Tx)
 | .sl0=>some []
 | .sl b o n 1=>(match n with
  | 0=>some []
  | n+1=>(match σ.t.get b with | some blk=>(match zL (n+1) (blk.cells.drop o) with | some cs=>kQ cs | none=>none) | none=>none))
 | _=>none
noncomputable def yE (S:Sc):Nat→List AV→Mem→Option AV:=fun f l σ=>match f with
 | 4=>(match l with | []=>some (.b true) | _=>none)
 | 44=>(match l with | [.s n v,.b b]=>open Classical in if okP (n,v) then some (.s (S.qt (n,v) b).1 (S.qt (n,v) b).2) else none | _=>none)
 | 68=>(match l with | [.s n v,.b b]=>open Classical in if okP (n,v) then some (.b (S.pl (n,v) b)) else none | _=>none)
 | 70=>(match l with | [.s n v]=>open Classical in if okP (n,v) then some (.s (S.tg (n,v)).1 (S.tg (n,v)).2) else none | _=>none)
 | 71=>(match l with | [.s n v]=>open Classical in if okP (n,v) then some (.s (S.lg (n,v)).1 (S.lg (n,v)).2) else none | _=>none)
 | 72=>(match l with | [.s n v]=>open Classical in if okP (n,v) then some (.b (S.sg (n,v))) else none | _=>none)
 | 46=>(match l with
  | [x,.s 2 8236]=>(match jMd σ x with
   | some l=>open Classical in if gI l≤MX∧l.length≤NB then some (.s (zS l).1 (zS l).2) else none
   | none=>none)
  | _=>none)
 | _=>none
def jVh (f:Nat):Bool:=Nat.beq f 4||Nat.beq f 44||Nat.beq f 46||Nat.beq f 68||Nat.beq f 70||Nat.beq f 71||Nat.beq f 72
theorem jFp {S:Sc} {f:Nat} (h:jVh f=false) (l:List AV) (σ:Mem):yE S f l σ=none:=by
 unfold yE
 split<;>first | rfl | (cases h)
end
end Go.Proofs.YtngfdcnglojcaaaGreatDoor.Ev.Fb
end
section
set_option linter.all false
namespace Go.Proofs.YtngfdcnglojcaaaGreatDoor.Ev.Fb
noncomputable section
open Go Ev Rf Lf
set_option maxRecDepth 4000
def cQt (S:Sc):Ct:=fun d l H Q=>∃ (n v:Nat) (b:Bool),l=[.s n v,.b b]∧H=[]∧1≤d∧okP (n,v)∧Q (.s (S.qt (n,v) b).1 (S.qt (n,v) b).2) []
def cPl (S:Sc):Ct:=fun d l H Q=>∃ (n v:Nat) (b:Bool),l=[.s n v,.b b]∧H=[]∧1≤d∧okP (n,v)∧Q (.b (S.pl (n,v) b)) []
def cTg (S:Sc):Ct:=fun d l H Q=>∃ (n v:Nat),l=[.s n v]∧H=[]∧1≤d∧okP (n,v)∧Q (.s (S.tg (n,v)).1 (S.tg (n,v)).2) []
def cLg (S:Sc):Ct:=fun d l H Q=>∃ (n v:Nat),l=[.s n v]∧H=[]∧1≤d∧okP (n,v)∧Q (.s (S.lg (n,v)).1 (S.lg (n,v)).2) []
def cSg (S:Sc):Ct:=fun d l H Q=>∃ (n v:Nat),l=[.s n v]∧H=[]∧1≤d∧okP (n,v)∧Q (.b (S.sg (n,v))) []
def cJn:Ct:=fun d l H Q=>∃ (l':List Tx),l=[.qs l',.s 2 8236]∧H=[]∧1≤d∧gI l'≤MX∧l'.length≤NB∧(∀ p,p∈l'→p.2<256^p.1)∧Q (.s (zS l').1 (zS l').2) []
def Fn (S:Sc) (f:Nat):Ct:=fun d l H Q=>match f with
 | 4=>jWz d l H Q
 | 44=>cQt S d l H Q
 | 46=>cJn d l H Q
 | 68=>cPl S d l H Q
 | 70=>cTg S d l H Q
 | 71=>cLg S d l H Q
 | 72=>cSg S d l H Q
 | 3=>qGm d l H Q
 | 6=>jAd S d l H Q
 | 7=>jQj d l H Q
 | 8=>jAb d l H Q
 | 9=>jXb S d l H Q
 | 11=>jAc d l H Q
 | 21=>jQm S d l H Q
 | 22=>jQl S d l H Q
 | 23=>nF d l H Q
 | 24=>oY d l H Q
 | 43=>jHf S d l H Q
 | 45=>jQk S d l H Q
 | 47=>jHe S d l H Q
 | _=>False
def ΓL (S:Sc) (G:Nat→List SV→SV→Prop):qE:=fun d f l H Q=>Gam PT G d f l H Q∨Fn S f d l H Q
structure FsOK (fs:Nat→Option F):Prop where
 f3:fs 3=some g3
 f6:fs 6=some g6
 f7:fs 7=some g7
 f8:fs 8=some g8
 f9:fs 9=some g9
 f11:fs 11=some g11
 f21:fs 21=some g21
 f22:fs 22=some g22
 f23:fs 23=some g23
 f24:fs 24=some g24
 f43:fs 43=some g43
 f45:fs 45=some g45
 f47:fs 47=some g47
section
variable {S:Sc} {G:Nat→List SV→SV→Prop} {fs:Nat→Option F}
theorem scr (hS:sU S):ScR (ΓL S G) S:=⟨hS,fun d n v b Q h1 h2 h3=>.inr ⟨n,v,b,rfl,rfl,h1,h2,h3⟩,fun d n v b Q h1 h2 h3=>.inr ⟨n,v,b,rfl,rfl,h1,h2,h3⟩,fun d n v Q h1 h2 h3=>.inr ⟨n,v,rfl,rfl,h1,h2,h3⟩,fun d n v Q h1 h2 h3=>.inr ⟨n,v,rfl,rfl,h1,h2,h3⟩,fun d n v Q h1 h2 h3=>.inr ⟨n,v,rfl,rfl,h1,h2,h3⟩,
 fun d l Q h1 h2 h3 h4 h5=>.inr ⟨l,rfl,rfl,h1,h2,h3,h4,h5⟩⟩
theorem jPq:∀ t:Tq,1≤wtQ t
 | .mk k st an tg tx ks=>by simp only [wtQ]; omega
theorem jZr {Γ:qE} (hΓ:∀ d f l H Q,Gam PT G d f l H Q→Γ d f l H Q):jYl Γ:=by
 intro d n v Q hn hd hQ
 have eN:NB=1000000:=rfl
 refine hΓ _ _ _ _ _ ⟨c5,?_,fun j=>match j with | 0=>⟨n,[],0⟩ | 1=>⟨v,[],0⟩ | _=>⟨0,[],0⟩,?_,?_,rfl,⟨?_,(fun t h=>by cases h),(fun t h=>by cases h)⟩,?_⟩
 ·show c5∈kH csT 5
  rw [show kH csT 5=[c5] from rfl]; simp
 ·simp [c5,LT.ev,evL]; omega
 ·simp [c5,jQ,SX.den,LT.ev,evL]
 ·intro t ht
  simp only [c5,List.mem_cons,List.not_mem_nil,or_false] at ht
  rcases ht with rfl | rfl<;>simp [LT.ev,evL]<;>omega
 ·intro p hp ρ' hag hF
  simp only [c5,List.mem_cons,List.not_mem_nil,or_false] at hp
  subst hp
  have h0:(ρ' 0).z=n:=congrArg Rv.z (hag 0 (by show 0<2; omega))
  have f1:=hF.F ⟨0,[(2,1)]⟩ (by simp)
  have f2:=hF.F ⟨0,[(2,(-1)),(0,250100000)]⟩ (by simp)
  have f3:=hF.F ⟨0,[(3,1)]⟩ (by simp)
  have f4:=hF.F ⟨0,[(3,(-1)),(0,1)]⟩ (by simp)
  have f5:=hF.F ⟨0,[(5,1)]⟩ (by simp)
  have f6:=hF.F ⟨0,[(5,(-1)),(0,1)]⟩ (by simp)
  simp only [LT.ev,evL] at f1 f2 f3 f4 f5 f6
  rw [h0] at f2 f4 f6
  have:=hQ (ρ' 2).z.toNat (ρ' 3).z.toNat (ρ' 4).z.toNat (ρ' 5).z.toNat (ρ' 6).z (ρ' 7).z (by omega) (by omega) (by omega)
  simpa [SX.den,jQ,denH,LT.ev,evL] using this
theorem qDy {Γ:qE} (hΓ:∀ d f l H Q,Gam PT G d f l H Q→Γ d f l H Q):qFr Γ:=by
 intro d m Q hm hd hQ
 refine hΓ _ _ _ _ _ ⟨c10,?_,fun j=>match j with | 0=>⟨m,[],0⟩ | _=>⟨0,[],0⟩,?_,?_,rfl,⟨?_,(fun t h=>by cases h),(fun t h=>by cases h)⟩,?_⟩
 ·show c10∈kH csT 10
  rw [show kH csT 10=[c10] from rfl]; simp
 ·simp [c10,LT.ev,evL]; omega
 ·simp [c10,jQ,SX.den,LT.ev,evL]
 ·intro t ht
  simp only [c10,List.mem_cons,List.not_mem_nil,or_false] at ht
  rcases ht with rfl | rfl<;>simp [LT.ev,evL]<;>omega
 ·intro p hp ρ' hag hF
  simp only [c10,List.mem_cons,List.not_mem_nil,or_false] at hp
  subst hp
  have f1:=hF.F ⟨0,[(1,1)]⟩ (by simp)
  have f2:=hF.F ⟨11100,[(1,(-1))]⟩ (by simp)
  simp only [LT.ev,evL] at f1 f2
  have:=hQ (ρ' 1).z.toNat (ρ' 2).z.toNat (by omega)
  simpa [SX.den,jQ,denH,LT.ev,evL] using this
theorem jZv {d:Nat} {l:List SV} {H:Hp} {Q:Q2}:qGm d l H Q→1≤d:=fun ⟨_,_,_,_,_,_,_,_,_,h,_⟩=>by omega
theorem jWa {d:Nat} {l:List SV} {H:Hp} {Q:Q2}:jAd S d l H Q→1≤d:=fun ⟨_,_,_,t,_,_,_,_,_,_,h,_⟩=>by have:=jPq t; omega
theorem jVw {d:Nat} {l:List SV} {H:Hp} {Q:Q2}:jQj d l H Q→1≤d:=fun ⟨_,_,_,_,h,_⟩=>by omega
theorem jOz {d:Nat} {l:List SV} {H:Hp} {Q:Q2}:jAb d l H Q→1≤d:=fun ⟨t,_,_,_,_,_,h,_⟩=>by have:=jPq t; omega
theorem jZu {d:Nat} {l:List SV} {H:Hp} {Q:Q2}:jXb S d l H Q→1≤d:=fun ⟨_,_,_,k,st,an,tg,tx,ks,_,_,_,_,_,_,h,_⟩=>by omega
theorem jPa {d:Nat} {l:List SV} {H:Hp} {Q:Q2}:jAc d l H Q→1≤d:=fun ⟨_,_,_,_,_,_,_,_,_,_,_,h,_⟩=>by omega
theorem jVz {d:Nat} {l:List SV} {H:Hp} {Q:Q2}:jQm S d l H Q→1≤d:=fun ⟨_,_,_,_,_,_,_,_,_,_,_,_,_,_,h,_⟩=>by omega
theorem jVy {d:Nat} {l:List SV} {H:Hp} {Q:Q2}:jQl S d l H Q→1≤d:=fun ⟨_,_,_,_,_,_,_,_,_,_,_,_,_,_,_,_,h,_⟩=>by omega
theorem jLy {d:Nat} {l:List SV} {H:Hp} {Q:Q2}:nF d l H Q→1≤d:=fun ⟨_,_,_,_,_,_,_,h,_⟩=>by omega
theorem jOx {d:Nat} {l:List SV} {H:Hp} {Q:Q2}:oY d l H Q→1≤d:=fun ⟨_,_,_,_,_,_,_,_,_,_,h,_⟩=>by omega
theorem jPb {d:Nat} {l:List SV} {H:Hp} {Q:Q2}:jHf S d l H Q→1≤d:=fun ⟨_,_,_,_,_,_,_,_,_,_,_,_,_,_,h,_⟩=>by omega
theorem jVx {d:Nat} {l:List SV} {H:Hp} {Q:Q2}:jQk S d l H Q→1≤d:=fun ⟨_,_,t,_,_,_,_,_,_,h,_⟩=>by have:=jPq t; omega
theorem jOy {d:Nat} {l:List SV} {H:Hp} {Q:Q2}:jHe S d l H Q→1≤d:=fun ⟨_,_,_,_,_,_,_,_,_,_,_,_,_,h,_⟩=>by omega
theorem qLb (hS:sU S) (hf:FsOK fs):∀ (f d:Nat) (l:List SV) (H:Hp) (Q:Q2),Fn S f d l H Q→jVh f=false→∃ d',d=d'+1∧∃ g,fs f=some g∧wF (PT.C G) (ΓL S G) LL d' f g l H Q:=by
 intro f d l H Q h hk
 unfold Fn at h
 split at h
 ·cases hk
 ·cases hk
 ·cases hk
 ·cases hk
 ·cases hk
 ·cases hk
 ·cases hk
 ·obtain ⟨e,rfl⟩:∃ e,d=e+1:=⟨d - 1,by have:=jZv h; omega⟩
  exact ⟨e,rfl,_,hf.f3,p3 (scr hS) (fun _ _ _ _ h=>.inr h) (jZr fun _ _ _ _ _ h=>.inl h) (qDy fun _ _ _ _ _ h=>.inl h) (fun _ _ _ _ h=>.inr h) (fun _ _ _ _ h=>.inr h) (fun _ _ _ _ h=>.inr h) (fun _ _ _ _ h=>.inr h) e l H Q h⟩
 ·obtain ⟨e,rfl⟩:∃ e,d=e+1:=⟨d - 1,by have:=jWa h; omega⟩
  exact ⟨e,rfl,_,hf.f6,p6 (scr hS) (fun _ _ _ _ h=>.inr h) (fun _ _ _ _ h=>.inr h) (fun _ _ _ _ h=>.inr h) (fun _ _ _ _ h=>.inr h) e l H Q h⟩
 ·obtain ⟨e,rfl⟩:∃ e,d=e+1:=⟨d - 1,by have:=jVw h; omega⟩
  exact ⟨e,rfl,_,hf.f7,p7 e l H Q h⟩
 ·obtain ⟨e,rfl⟩:∃ e,d=e+1:=⟨d - 1,by have:=jOz h; omega⟩
  exact ⟨e,rfl,_,hf.f8,p8 (fun _ _ _ _ h=>.inr h) e l H Q h⟩
 ·obtain ⟨e,rfl⟩:∃ e,d=e+1:=⟨d - 1,by have:=jZu h; omega⟩
  exact ⟨e,rfl,_,hf.f9,p9 (scr hS) (fun _ _ _ _ h=>.inr h) (fun _ _ _ _ h=>.inr h) e l H Q h⟩
 ·obtain ⟨e,rfl⟩:∃ e,d=e+1:=⟨d - 1,by have:=jPa h; omega⟩
  exact ⟨e,rfl,_,hf.f11,p11 (fun _ _ _ _ h=>.inr h) e l H Q h⟩
 ·obtain ⟨e,rfl⟩:∃ e,d=e+1:=⟨d - 1,by have:=jVz h; omega⟩
  exact ⟨e,rfl,_,hf.f21,p21 (scr hS) (fun _ _ _ _ h=>.inr h) e l H Q h⟩
 ·obtain ⟨e,rfl⟩:∃ e,d=e+1:=⟨d - 1,by have:=jVy h; omega⟩
  exact ⟨e,rfl,_,hf.f22,p22 (scr hS) (fun _ _ _ _ h=>.inr h) (fun _ _ _ _ h=>.inr h) e l H Q h⟩
 ·obtain ⟨e,rfl⟩:∃ e,d=e+1:=⟨d - 1,by have:=jLy h; omega⟩
  exact ⟨e,rfl,_,hf.f23,p23 e l H Q h⟩
 ·obtain ⟨e,rfl⟩:∃ e,d=e+1:=⟨d - 1,by have:=jOx h; omega⟩
  exact ⟨e,rfl,_,hf.f24,p24 e l H Q h⟩
 ·obtain ⟨e,rfl⟩:∃ e,d=e+1:=⟨d - 1,by have:=jPb h; omega⟩
  exact ⟨e,rfl,_,hf.f43,p43 (scr hS) e l H Q h⟩
 ·obtain ⟨e,rfl⟩:∃ e,d=e+1:=⟨d - 1,by have:=jVx h; omega⟩
  exact ⟨e,rfl,_,hf.f45,p45 (scr hS) (fun _ _ _ _ h=>.inr h) (fun _ _ _ _ h=>.inr h) (fun _ _ _ _ h=>.inr h) e l H Q h⟩
 ·obtain ⟨e,rfl⟩:∃ e,d=e+1:=⟨d - 1,by have:=jOy h; omega⟩
  exact ⟨e,rfl,_,hf.f47,p47 (scr hS) (fun _ _ _ _ h=>.inr h) (fun _ _ _ _ h=>.inr h) (fun _ _ _ _ h=>.inr h) e l H Q h⟩
 ·exact h.elim
def qKh (fs:Nat→Option F):Prop:=∀ f ct,ct∈PT.cs f→jVh f=false∧∃ g,fs f=some g∧∃ (an:Nat→Option Ann) (hs:Nat→Option (List LT)) (kd:Nat→Nat),okF PT LL f g ct an hs kd
theorem jAu:∀ {l:List Tx},(∀ p,p∈l→p.2<256^p.1)→(zS l).2<256^(zS l).1
 | [],_=>by decide
 | [a],h=>h a (by simp)
 | a::b::r,h=>by
  simp only [zS]
  exact jHh (jHh (h a (by simp)) (by decide)) (jAu (l:=b::r) fun x hx=>h x (by simp at hx ⊢; exact .inr hx))
theorem jQo:∀ {l:List Tx} {cs:List AV},l.length≤cs.length→(∀ (m:Nat) (p:Tx),l[m]?=some p→cs[m]?=some (.s p.1 p.2))→kQ (cs.take l.length)=some l
 | [],cs,_,_=>by simp [kQ]
 | p::l,[],h,_=>by simp at h
 | p::l,c::cs,h,k=>by
  have h0:=k 0 p rfl
  simp at h0; subst h0
  simp only [List.length_cons,List.take_succ_cons,kQ,jXf]
  rw [jQo (l:=l) (cs:=cs) (by simpa using h) fun m q e=>by simpa using k (m+1) q (by simpa using e)]
theorem qEk {C:Cx} {W:Wd} {σ:Mem} (hr:Rl C W [] σ) {l:List Tx} {v:AV} (h:XV W l v):jMd σ v=some l:=by
 obtain ⟨_,h⟩:=h
 rcases h with ⟨rfl,rfl⟩ | ⟨b,o,rfl,h⟩
 ·rfl
 ·rcases h with rfl | ⟨blk,h1,h2⟩
  ·rfl
  ·cases l with
   | nil=>rfl
   | cons p l=>
    have hg:=(hr.K _ _ h1).2
    unfold jMd
    simp only [List.length_cons,hg]
    have hlen:o+(l.length+1)≤blk.cells.length:=by
     obtain ⟨q,hq⟩:∃ q,(p::l)[l.length]?=some q:=⟨_,List.getElem?_eq_some_iff.2 ⟨by simp,rfl⟩⟩
     have:=(List.getElem?_eq_some_iff.1 (h2 l.length q hq)).1
     omega
    rw [fB (by simp; omega)]
    exact jQo (l:=p::l) (by simp; omega) fun m q e=>by rw [List.getElem?_drop]; exact h2 m q e
theorem qLy:∀ T p,p∈rkT T→p.1<(ctT T).length∧∀ g,p.2=some g→g<(ctT T).length
 | 0,p,h=>by simp only [rkT,List.mem_cons,List.not_mem_nil,or_false] at h; subst h; exact ⟨by decide,fun g e=>by cases e⟩
 | 1,p,h=>by simp only [rkT,List.mem_cons,List.not_mem_nil,or_false] at h; rcases h with rfl | rfl | rfl | rfl<;>exact ⟨by decide,fun g e=>by cases e<;>decide⟩
 | 2,p,h=>by cases h
 | 3,p,h=>by simp only [rkT,List.mem_cons,List.not_mem_nil,or_false] at h; rcases h with rfl | rfl | rfl | rfl<;>exact ⟨by decide,fun g e=>by cases e<;>decide⟩
 | n+4,p,h=>by cases h
theorem qLz:∀ T,jWg (ctT T)=true→rkT T=[]
 | 0,h=>by cases h
 | 1,h=>by cases h
 | 2,h=>rfl
 | 3,h=>by cases h
 | n+4,h=>rfl
theorem law_run (hS:sU S) (hf:FsOK fs) (hR:qKh fs) (hP:PSc PT) (htt:∀ T j d,(ctT T)[j]?=some (.t d)→∃ i,j=i+1∧(ctT T)[i]?≠some .b) (n v:Nat) (hv:v<256^n) (zs:List Int) (fl si ba:Bool):∃ σ',evF fs (yE S) LL 100000000000000 3 [.s n v,.fi zs,.b fl,.b si,.b ba] bY=some (.b true,σ'):=by
 have hC:uV (PT.C (Gr fs (yE S) LL)):=qKp htt (fun T=>by
  show 0<(ctT T).length
  unfold ctT
  split<;>decide) qLy qLz
 have hΓ:∀ d f l H Q,ΓL S (Gr fs (yE S) LL) d f l H Q→∃ d',d=d'+1∧(((∀ vs σ,yE S f vs σ=none)∧∃ g,fs f=some g∧wF (PT.C (Gr fs (yE S) LL)) (ΓL S (Gr fs (yE S) LL)) LL d' f g l H Q)∨(H=[]∧∃ s,jT s=true∧(∀ W2 H2 σ2,sv (PT.C (Gr fs (yE S) LL)) W2 H2 σ2 s (toA s))∧(∀ W2 σ2 vs,Rl (PT.C (Gr fs (yE S) LL)) W2 [] σ2→svs (PT.C (Gr fs (yE S) LL)) W2 [] σ2 l vs→yE S f vs σ2=some (toA s))∧Q s [])):=by
  intro d f l H Q h
  rcases h with h | h
  ·obtain ⟨ct,hct,hc⟩:=h
   obtain ⟨h4,g,hg,an,hs,kd,hk⟩:=hR f ct hct
   obtain ⟨d',e,hw⟩:=qMn (qGg fs (yE S) LL) hP (Γ:=ΓL S (Gr fs (yE S) LL)) (fun _ _ _ _ _ h=>.inl h) (show 0<LL by unfold LL; omega) hk hc
   exact ⟨d',e,.inl ⟨jFp h4,g,hg,hw⟩⟩
  ·cases hk:jVh f with
   | false=>
    obtain ⟨d',e,g,hg,hw⟩:=qLb hS hf f d l H Q h hk
    exact ⟨d',e,.inl ⟨jFp hk,g,hg,hw⟩⟩
   | true=>
    simp only [jVh,Bool.or_eq_true,Nat.beq_eq] at hk
    rcases hk with (((((rfl | rfl) | rfl) | rfl) | rfl) | rfl) | rfl
    ·obtain ⟨rfl,rfl,hd,hQ⟩:=h
     exact ⟨d - 1,by omega,.inr ⟨rfl,.b true,rfl,fun _ _ _=>rfl,fun _ _ vs _ e=>by cases e; rfl,hQ⟩⟩
    ·obtain ⟨n,v,b,rfl,rfl,hd,ho,hQ⟩:=h
     refine ⟨d - 1,by omega,.inr ⟨rfl,(.s (S.qt (n,v) b).1 (S.qt (n,v) b).2:SV),rfl,fun _ _ _=>⟨rfl,(hS.qf (n,v) b ho).2⟩,fun _ _ vs _ e=>?_,hQ⟩⟩
     obtain ⟨_,_,rfl,⟨rfl,_⟩,_,_,rfl,rfl,rfl⟩:=e
     simp only [yE,if_pos ho]; rfl
    ·obtain ⟨l',rfl,rfl,hd,h1,h2,h3,hQ⟩:=h
     refine ⟨d - 1,by omega,.inr ⟨rfl,(.s (zS l').1 (zS l').2:SV),rfl,fun _ _ _=>⟨rfl,jAu h3⟩,fun _ _ vs hr e=>?_,hQ⟩⟩
     obtain ⟨x,_,rfl,hx,_,_,rfl,⟨rfl,_⟩,rfl⟩:=e
     simp only [yE,qEk hr hx,if_pos (And.intro h1 h2)]; rfl
    ·obtain ⟨n,v,b,rfl,rfl,hd,ho,hQ⟩:=h
     refine ⟨d - 1,by omega,.inr ⟨rfl,(.b (S.pl (n,v) b):SV),rfl,fun _ _ _=>rfl,fun _ _ vs _ e=>?_,hQ⟩⟩
     obtain ⟨_,_,rfl,⟨rfl,_⟩,_,_,rfl,rfl,rfl⟩:=e
     simp only [yE,if_pos ho]; rfl
    ·obtain ⟨n,v,rfl,rfl,hd,ho,hQ⟩:=h
     refine ⟨d - 1,by omega,.inr ⟨rfl,(.s (S.tg (n,v)).1 (S.tg (n,v)).2:SV),rfl,fun _ _ _=>⟨rfl,hS.tc (n,v) ho⟩,fun _ _ vs _ e=>?_,hQ⟩⟩
     obtain ⟨_,_,rfl,⟨rfl,_⟩,rfl⟩:=e
     simp only [yE,if_pos ho]; rfl
    ·obtain ⟨n,v,rfl,rfl,hd,ho,hQ⟩:=h
     refine ⟨d - 1,by omega,.inr ⟨rfl,(.s (S.lg (n,v)).1 (S.lg (n,v)).2:SV),rfl,fun _ _ _=>⟨rfl,hS.lc (n,v) ho⟩,fun _ _ vs _ e=>?_,hQ⟩⟩
     obtain ⟨_,_,rfl,⟨rfl,_⟩,rfl⟩:=e
     simp only [yE,if_pos ho]; rfl
    ·obtain ⟨n,v,rfl,rfl,hd,ho,hQ⟩:=h
     refine ⟨d - 1,by omega,.inr ⟨rfl,(.b (S.sg (n,v)):SV),rfl,fun _ _ _=>rfl,fun _ _ vs _ e=>?_,hQ⟩⟩
     obtain ⟨_,_,rfl,⟨rfl,_⟩,rfl⟩:=e
     simp only [yE,if_pos ho]; rfl
 let W0:Wd:=⟨fun _=>False,fun _=>none,fun _=>0⟩
 have r0:Rl (PT.C (Gr fs (yE S) LL)) W0 [] bY:=⟨fun i j x y hx=>by simp at hx,fun i x hx=>by simp at hx,fun i x hx=>by simp at hx,fun i x hx=>by simp at hx,fun b h=>h.elim,fun b x h=>by cases h⟩
 obtain ⟨x,σ',s,W',H',e1,rfl,_,_,e5,_⟩:=qLa hC (qKg rfl) hΓ 100000000000000 3 [.s n v,.fis zs.length,.b fl,.b si,.b ba] [] (fun s _=>s = .b true) (.inr ⟨n,v,zs.length,fl,si,ba,rfl,rfl,hv,Nat.le_refl _,rfl⟩) W0 bY [.s n v,.fi zs,.b fl,.b si,.b ba] r0 ⟨_,_,rfl,⟨rfl,hv⟩,_,_,rfl,⟨zs,rfl,rfl⟩,_,_,rfl,rfl,_,_,rfl,rfl,_,_,rfl,rfl,rfl⟩
 cases e5
 exact ⟨σ',e1⟩
end
end
end Go.Proofs.YtngfdcnglojcaaaGreatDoor.Ev.Fb
end
