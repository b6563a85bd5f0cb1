/-
Trees of nodes: kind, style, anchor, tag, text, kids; what the contents of a call's result are; how a node is told in one row. No program is named here.
-/
import Derived.Test.YtngfdcnglojcaaaGreatDoorWd
import Derived.Test.YtngfdcnglojcaaaGreatDoorEvN
import Derived.Test.YtngfdcnglojcaaaGreatDoorRl
import Derived.Test.YtngfdcnglojcaaaGreatDoorLg
import Derived.Test.YtngfdcnglojcaaaGreatDoorRv
section
set_option linter.all false
namespace Go.Proofs.YtngfdcnglojcaaaGreatDoor.Ev.Fb
noncomputable section
open Go Ev
abbrev Tx:=Nat×Nat
inductive Tq where
 | mk (k st:Int) (an tg tx:Tx) (ks:List Tq)
mutual
def isQ:Tq→List Nd→Prop
 | .mk k st an tg tx ks,row=>∃ n2 n3 w8 l8 w9 l9 b m v kr,row=[.i .i64 k,.i .i64 st,.i .i64 n2,.i .i64 n3,.s an.1 an.2,.s tg.1 tg.2,.s tx.1 tx.2,.q 12 kr,.q w8 l8,.q w9 l9,.b b,.s m v]∧xM ks kr
def xM:List Tq→List (List Nd)→Prop
 | [],l=>l=[]
 | t::ts,l=>∃ r rs,l=r::rs∧isQ t r∧xM ts rs
end
def qLh (t:Tq) (row:List Nd):Prop:=∃ a b c rt z,row=a::b::c::(rt++[z])∧isQ t rt
def jYt:List Tq→List (List Nd)→Prop
 | [],l=>l=[]
 | d::ds,l=>∃ r rs,l=r::rs∧qLh d r∧jYt ds rs
mutual
def wtQ:Tq→Nat
 | .mk k st an tg tx ks=>1+(an.1+(tg.1+(tx.1+fX ks)))
def fX:List Tq→Nat
 | []=>0
 | t::ts=>wtQ t+fX ts
end
def okP (p:Tx):Prop:=p.1≤TB∧p.2<256^p.1
mutual
def okQ:Tq→Prop
 | .mk k st an tg tx ks=>(okP an∧okP tg∧okP tx)∧(nlP an.1 an.2∧nlP tg.1 tg.2∧(k=2→nlP tx.1 tx.2))∧ks.length≤NB∧mK ks
def mK:List Tq→Prop
 | []=>True
 | t::ts=>okQ t∧mK ts
end
structure Kq (C:Cx):Prop where
 c1:∀ r,C.ct 1 r=[.i .i64,.i .i64,.i .i64,.i .i64,.t (r - 1),.t (r - 1),.t (r - 1),.q 1 (r - 1),.q 0 (r - 1),.q 0 (r - 1),.b,.s 0]
 c3:∀ r,C.ct 3 r=[.q 0 (r - 1),.q 4 0,.b,.i .i64,.i .i64,.i .i64,.i .i64,.t (r - 1),.t (r - 1),.t (r - 1),.q 1 (r - 1),.q 0 (r - 1),.q 0 (r - 1),.b,.s 0,.q 0 (r - 1)]
 o1:C.co 1=1
 o3:C.co 3=1
 p1:∀ f,C.rp 1 f→(∀ n v,f 4 = .s n v→nlP n v)∧(∀ n v,f 5 = .s n v→nlP n v)∧∀ k,f 0 = .i k 2→∀ n v,f 6 = .s n v→nlP n v
 p3:∀ f,C.rp 3 f→(∀ n v,f 7 = .s n v→nlP n v)∧(∀ n v,f 8 = .s n v→nlP n v)∧∀ k,f 3 = .i k 2→∀ n v,f 9 = .s n v→nlP n v
section
variable {C:Cx}
theorem jW {T j x:Nat} {c:Nd} {l:List Nd} (h:jLj C T j (c::l) x):∃ y x',y+x'≤x∧(∃ t,(C.ct T (C.co T+y))[j]?=some t∧ndT C c t)∧jLj C T (j+1) l x':=by rw [jLj] at h; exact h
theorem jLk {c:Nd} {k:IntKind} (h:ndT C c (.i k)):∃ n,c = .i k n:=by
 cases c with
 | i k' n=>simp only [ndT] at h; cases h; exact ⟨_,rfl⟩
 | b x=>simp only [ndT] at h; cases h
 | s n u=>simp only [ndT] at h; rcases h with ⟨m,e,_⟩ | ⟨m,e,_⟩<;>cases e
 | q w l=>obtain ⟨T,r,e,_⟩:=tY.1 h; cases e
theorem jVr {c:Nd} {m:Nat} (h:ndT C c (.t m)):∃ n u,c = .s n u∧n≤m∧n≤TB∧u<256^n:=by
 cases c with
 | i k' n=>simp only [ndT] at h; cases h
 | b x=>simp only [ndT] at h; cases h
 | s n u=>
  simp only [ndT] at h
  rcases h with ⟨m',e,_⟩ | ⟨m',e,h1,h2⟩
  ·cases e
  ·cases e; exact ⟨_,_,rfl,h1.1,h1.2,h2⟩
 | q w l=>obtain ⟨T,r,e,_⟩:=tY.1 h; cases e
theorem jBy {c:Nd} {T r:Nat} (h:ndT C c (.q T r)):∃ l,c = .q (jP (C.ct T 0)) l∧l.length≤NB∧mG C T l r:=by
 cases c with
 | i k' n=>simp only [ndT] at h; cases h
 | b x=>simp only [ndT] at h; cases h
 | s n u=>simp only [ndT] at h; rcases h with ⟨m,e,_⟩ | ⟨m,e,_⟩<;>cases e
 | q w l=>obtain ⟨T,r,e,h1,h2,h3⟩:=tY.1 h; cases e; exact ⟨_,by rw [h1],h2,h3⟩
theorem qLn {c:Nd} (h:ndT C c .b):∃ x,c = .b x:=by
 cases c with
 | i k' n=>simp only [ndT] at h; cases h
 | b x=>exact ⟨_,rfl⟩
 | s n u=>simp only [ndT] at h; rcases h with ⟨m,e,_⟩ | ⟨m,e,_⟩<;>cases e
 | q w l=>obtain ⟨T,r,e,_⟩:=tY.1 h; cases e
theorem qLo {c:Nd} {m:Nat} (h:ndT C c (.s m)):∃ n u,c = .s n u:=by
 cases c with
 | i k' n=>simp only [ndT] at h; cases h
 | b x=>simp only [ndT] at h; cases h
 | s n u=>exact ⟨_,_,rfl⟩
 | q w l=>obtain ⟨T,r,e,_⟩:=tY.1 h; cases e
theorem qLi {c:List Nd} (h:c.length=12):∃ c0 c1 c2 c3 c4 c5 c6 c7 c8 c9 c10 c11,c=[c0,c1,c2,c3,c4,c5,c6,c7,c8,c9,c10,c11]:=by
 match c,h with
 | [c0,c1,c2,c3,c4,c5,c6,c7,c8,c9,c10,c11],_=>exact ⟨c0,c1,c2,c3,c4,c5,c6,c7,c8,c9,c10,c11,rfl⟩
theorem qLj {c:List Nd} (h:c.length=16):∃ c0 c1 c2 c3 c4 c5 c6 c7 c8 c9 c10 c11 c12 c13 c14 c15,c=[c0,c1,c2,c3,c4,c5,c6,c7,c8,c9,c10,c11,c12,c13,c14,c15]:=by
 match c,h with
 | [c0,c1,c2,c3,c4,c5,c6,c7,c8,c9,c10,c11,c12,c13,c14,c15],_=>exact ⟨c0,c1,c2,c3,c4,c5,c6,c7,c8,c9,c10,c11,c12,c13,c14,c15,rfl⟩
set_option maxRecDepth 4000 in
theorem qLm (hC:Kq C):∀ (r:Nat) (l:List (List Nd)),mG C 1 l r→∃ ts,xM ts l∧ts.length=l.length∧fX ts≤r∧mK ts:=by
 intro r
 induction r using Nat.strongRecOn with
 | ind r ih=>
 intro l h
 match l,h with
 | [],_=>exact ⟨[],by simp only [xM],rfl,by simp [fX],by simp only [mK]⟩
 | c::l,h=>
 simp only [mG] at h
 obtain ⟨x,r',hx,⟨hl,h⟩,hrp,h4⟩:=h
 rw [hC.o1] at hx
 rw [hC.c1] at hl
 obtain ⟨ts,g1,g2,g3,g4⟩:=ih r' (by omega) l h4
 obtain ⟨c0,c1,c2,c3,c4,c5,c6,c7,c8,c9,c10,c11,rfl⟩:=qLi hl
 obtain ⟨y0,x0,s0,⟨t0,e0,n0⟩,h⟩:=jW h
 obtain ⟨y1,x1,s1,⟨t1,e1,n1⟩,h⟩:=jW h
 obtain ⟨y2,x2,s2,⟨t2,e2,n2⟩,h⟩:=jW h
 obtain ⟨y3,x3,s3,⟨t3,e3,n3⟩,h⟩:=jW h
 obtain ⟨y4,x4,s4,⟨t4,e4,n4⟩,h⟩:=jW h
 obtain ⟨y5,x5,s5,⟨t5,e5,n5⟩,h⟩:=jW h
 obtain ⟨y6,x6,s6,⟨t6,e6,n6⟩,h⟩:=jW h
 obtain ⟨y7,x7,s7,⟨t7,e7,n7⟩,h⟩:=jW h
 obtain ⟨y8,x8,s8,⟨t8,e8,n8⟩,h⟩:=jW h
 obtain ⟨y9,x9,s9,⟨t9,e9,n9⟩,h⟩:=jW h
 obtain ⟨y10,x10,s10,⟨t10,e10,n10⟩,h⟩:=jW h
 obtain ⟨y11,x11,s11,⟨t11,e11,n11⟩,h⟩:=jW h
 rw [hC.o1,hC.c1] at e0 e1 e2 e3 e4 e5 e6 e7 e8 e9 e10 e11
 simp at e0 e1 e2 e3 e4 e5 e6 e7 e8 e9 e10 e11
 subst e0; subst e1; subst e2; subst e3; subst e4; subst e5; subst e6; subst e7; subst e8; subst e9; subst e10; subst e11
 obtain ⟨z2,rfl⟩:=jLk n2
 obtain ⟨z3,rfl⟩:=jLk n3
 obtain ⟨l8,rfl,_⟩:=jBy n8
 obtain ⟨l9,rfl,_⟩:=jBy n9
 obtain ⟨z10,rfl⟩:=qLn n10
 obtain ⟨z11,u11,rfl⟩:=qLo n11
 obtain ⟨z0,rfl⟩:=jLk n0
 obtain ⟨z1,rfl⟩:=jLk n1
 obtain ⟨z4,u4,rfl,m4,b4,v4⟩:=jVr n4
 obtain ⟨z5,u5,rfl,m5,b5,v5⟩:=jVr n5
 obtain ⟨z6,u6,rfl,m6,b6,v6⟩:=jVr n6
 obtain ⟨l7,rfl,b7,r7⟩:=jBy n7
 obtain ⟨ks,a1,a2,a3,a4⟩:=ih y7 (by omega) l7 r7
 obtain ⟨p4,p5,p6⟩:=hC.p1 _ hrp
 rw [hC.c1]
 refine ⟨.mk z0 z1 (z4,u4) (z5,u5) (z6,u6) ks::ts,by simp only [xM,isQ]; exact ⟨_,_,rfl,⟨_,_,_,_,_,_,_,_,_,_,rfl,a1⟩,g1⟩,by simp [g2],by simp only [fX,wtQ]; omega,?_⟩
 simp only [mK,okQ]
 exact ⟨⟨⟨⟨b4,v4⟩,⟨b5,v5⟩,⟨b6,v6⟩⟩,⟨p4 _ _ rfl,p5 _ _ rfl,fun e=>by subst e; exact p6 _ rfl _ _ rfl⟩,by omega,a4⟩,g4⟩
set_option maxRecDepth 4000 in
theorem jZd (hC:Kq C):∀ {l:List (List Nd)} {r:Nat},mG C 3 l r→∃ ds,jYt ds l∧ds.length=l.length∧(∀ t,t∈ds→wtQ t≤r∧okQ t)
 | [],r,h=>⟨[],rfl,rfl,fun t ht=>by cases ht⟩
 | c::l,r,h=>by
  simp only [mG] at h
  obtain ⟨x,r',hx,⟨hl,h⟩,hrp,h4⟩:=h
  rw [hC.o3] at hx
  rw [hC.c3] at hl
  obtain ⟨ds,g1,g2,g3⟩:=jZd hC h4
  obtain ⟨c0,c1,c2,c3,c4,c5,c6,c7,c8,c9,c10,c11,c12,c13,c14,c15,rfl⟩:=qLj hl
  obtain ⟨y0,x0,s0,_,h⟩:=jW h
  obtain ⟨y1,x1,s1,_,h⟩:=jW h
  obtain ⟨y2,x2,s2,_,h⟩:=jW h
  obtain ⟨y3,x3,s3,⟨t3,e3,n3⟩,h⟩:=jW h
  obtain ⟨y4,x4,s4,⟨t4,e4,n4⟩,h⟩:=jW h
  obtain ⟨y5,x5,s5,⟨t5,e5,n5⟩,h⟩:=jW h
  obtain ⟨y6,x6,s6,⟨t6,e6,n6⟩,h⟩:=jW h
  obtain ⟨y7,x7,s7,⟨t7,e7,n7⟩,h⟩:=jW h
  obtain ⟨y8,x8,s8,⟨t8,e8,n8⟩,h⟩:=jW h
  obtain ⟨y9,x9,s9,⟨t9,e9,n9⟩,h⟩:=jW h
  obtain ⟨y10,x10,s10,⟨t10,e10,n10⟩,h⟩:=jW h
  obtain ⟨y11,x11,s11,⟨t11,e11,n11⟩,h⟩:=jW h
  obtain ⟨y12,x12,s12,⟨t12,e12,n12⟩,h⟩:=jW h
  obtain ⟨y13,x13,s13,⟨t13,e13,n13⟩,h⟩:=jW h
  obtain ⟨y14,x14,s14,⟨t14,e14,n14⟩,h⟩:=jW h
  rw [hC.o3,hC.c3] at e3 e4 e5 e6 e7 e8 e9 e10 e11 e12 e13 e14
  simp at e3 e4 e5 e6 e7 e8 e9 e10 e11 e12 e13 e14
  subst e3; subst e4; subst e5; subst e6; subst e7; subst e8; subst e9; subst e10; subst e11; subst e12; subst e13; subst e14
  obtain ⟨z5,rfl⟩:=jLk n5
  obtain ⟨z6,rfl⟩:=jLk n6
  obtain ⟨l11,rfl,_⟩:=jBy n11
  obtain ⟨l12,rfl,_⟩:=jBy n12
  obtain ⟨z13,rfl⟩:=qLn n13
  obtain ⟨z14,u14,rfl⟩:=qLo n14
  obtain ⟨z3,rfl⟩:=jLk n3
  obtain ⟨z4,rfl⟩:=jLk n4
  obtain ⟨z7,u7,rfl,m7,b7,v7⟩:=jVr n7
  obtain ⟨z8,u8,rfl,m8,b8,v8⟩:=jVr n8
  obtain ⟨z9,u9,rfl,m9,b9,v9⟩:=jVr n9
  obtain ⟨l10,rfl,b10,r10⟩:=jBy n10
  obtain ⟨ks,a1,a2,a3,a4⟩:=qLm hC _ _ r10
  obtain ⟨p4,p5,p6⟩:=hC.p3 _ hrp
  rw [hC.c1]
  refine ⟨.mk z3 z4 (z7,u7) (z8,u8) (z9,u9) ks::ds,⟨_,_,rfl,⟨c0,c1,c2,[_,_,_,_,_,_,_,_,_,_,_,_],c15,rfl,?_⟩,g1⟩,by simp [g2],fun t ht=>?_⟩
  ·simp only [isQ]
   exact ⟨_,_,_,_,_,_,_,_,_,_,rfl,a1⟩
  ·rcases List.mem_cons.1 ht with rfl | ht
   ·refine ⟨by simp only [wtQ]; omega,?_⟩
    simp only [okQ]
    exact ⟨⟨⟨b7,v7⟩,⟨b8,v8⟩,⟨b9,v9⟩⟩,⟨p4 _ _ rfl,p5 _ _ rfl,fun e=>by subst e; exact p6 _ rfl _ _ rfl⟩,by omega,a4⟩
   ·obtain ⟨q1,q2⟩:=g3 t ht
    exact ⟨by omega,q2⟩
end
def xL (a b:Tx):Tx:=(a.1+b.1,a.2+b.2*256^a.1)
def isE (a:Tx):Bool:=decide (a.1=0∧a.2=0)
def yO (a b:Tx):Tx:=if isE a||isE b then xL a b else xL (xL a (1,32)) b
def zS:List Tx→Tx
 | []=>(0,0)
 | [a]=>a
 | a::b::r=>xL (xL a (2,8236)) (zS (b::r))
structure Sc where
 qt:Tx→Bool→Tx
 pl:Tx→Bool→Bool
 sg:Tx→Bool
 tg:Tx→Tx
 lg:Tx→Tx
def xX (an tg:Tx):Tx:=yO (if isE an then an else xL (1,38) an) tg
def fS (k st:Int) (tx:Tx):Bool:=decide (k=1)&&(decide (st=1)&&isE tx)
def jDe (S:Sc) (si ba fl:Bool) (st:Int) (tg tx:Tx):Int:=
 if decide (st=1)&&(isE tx||S.pl tx fl) then 1
 else if ba&&(!decide (st=1)&&(isE tg&&(S.pl tx fl&&decide (S.tg tx=S.lg (3,7500915))))) then 1
 else if si&&S.sg tx then 2 else 3
def pZ (S:Sc) (si ba fl:Bool) (st:Int) (tg tx:Tx):Tx:=if jDe S si ba fl st tg tx=1 then tx else S.qt tx (decide (jDe S si ba fl st tg tx=2))
def hU (S:Sc) (si:Bool):Tx:=xL (xL (xL (2,15393) (S.lg (4,1819047278))) (2,8254)) (S.qt (0,0) si)
def eO (k st:Int) (tx s:Tx):Tx:=xL (if decide (k=2)||(fS k st tx && !isE s) then xL s (1,32) else s) (1,58)
def uR:List (Tx×Tx×Tx)→List Tx
 | a::b::r=>yO a.2.1 b.2.2::uR r
 | _=>[]
def xU (S:Sc) (si ba fl:Bool) (k st:Int) (tg tx:Tx) (l:List (Tx×Tx×Tx)):Tx:=
 if k=2 then xL (1,42) tx else if k=1 then pZ S si ba fl st tg tx
 else if k=3 then xL (xL (1,91) (zS (l.map (·.1)))) (1,93)
 else if k=4 then xL (xL (1,123) (zS (uR l))) (1,125) else (0,0)
mutual
def yG (S:Sc) (si ba:Bool):Tq→Bool→Tx
 | .mk k st an tg tx ks,fl=>yO (xX an tg) (xU S si ba fl k st tg tx (qG S si ba ks))
def qG (S:Sc) (si ba:Bool):List Tq→List (Tx×Tx×Tx)
  | []=>[]
  | .mk k st an tg tx ks::ts=>
    (if fS k st tx&&isE (xX an tg) then hU S si else yG S si ba (.mk k st an tg tx ks) true,
     eO k st tx (yG S si ba (.mk k st an tg tx ks) true),yG S si ba (.mk k st an tg tx ks) true)::qG S si ba ts
end
mutual
def xB:Tq→Tq
 | .mk k st an tg tx ks=>.mk k (if k=3∨k=4 then 7 else st) an tg tx (jV ks)
def jV:List Tq→List Tq
 | []=>[]
 | t::ts=>xB t::jV ts
end
theorem lA (k st:Int) (tx:Tx):fS k (if k=3∨k=4 then 7 else st) tx=fS k st tx:=by
 unfold fS
 by_cases h:k=1
 ·subst h; simp
 ·simp [h]
theorem jNy (S:Sc) (si ba fl:Bool) (k st:Int) (tg tx:Tx) (l:List (Tx×Tx×Tx)):xU S si ba fl k (if k=3∨k=4 then 7 else st) tg tx l=xU S si ba fl k st tg tx l:=by
 unfold xU
 by_cases h:k=1
 ·subst h; simp
 ·simp [h]
mutual
theorem jCx (S:Sc) (si ba:Bool):∀ (t:Tq) (fl:Bool),yG S si ba (xB t) fl=yG S si ba t fl
 | .mk k st an tg tx ks,fl=>by
  simp only [xB,yG,jNy,jBn S si ba ks]
theorem jBn (S:Sc) (si ba:Bool):∀ ts:List Tq,qG S si ba (jV ts)=qG S si ba ts
 | []=>rfl
 | .mk k st an tg tx ks::ts=>by
  have h:=jCx S si ba (.mk k st an tg tx ks) true
  simp only [xB] at h
  simp only [jV,xB,qG,jBn S si ba ts,h,lA,eO]
end
end
end Go.Proofs.YtngfdcnglojcaaaGreatDoor.Ev.Fb
end
section
set_option linter.all false
namespace Go.Proofs.YtngfdcnglojcaaaGreatDoor.Ev.Fb
noncomputable section
open Go Ev
def MX:Nat:=140737488355328
def yI (x:Tx):Prop:=nlP x.1 x.2∧x.2<256^x.1
structure sU (S:Sc):Prop where
 ql:∀ x b,okP x→(S.qt x b).1≤10*x.1+4
 qf:∀ x b,okP x→yI (S.qt x b)
 pf:∀ x fl,okP x→S.pl x fl=true→nlP x.1 x.2
 ll:(S.lg (4,1819047278)).1≤30
 lf:yI (S.lg (4,1819047278))
 tc:∀ x,okP x→(S.tg x).2<256^(S.tg x).1
 lc:∀ x,okP x→(S.lg x).2<256^(S.lg x).1
theorem qEc:okP (0,0):=⟨Nat.zero_le _,by decide⟩
def gI:List Tx→Nat
 | []=>0
 | a::r=>a.1+2+gI r
theorem uP:∀ l:List Tx,(zS l).1≤gI l
 | []=>Nat.le_refl _
 | [a]=>by simp only [zS,gI]; omega
 | a::b::r=>by
  have:=uP (b::r)
  simp only [zS,gI,xL] at this ⊢
  omega
theorem bV (a b:Tx):(yO a b).1≤a.1+b.1+1:=by
 unfold yO
 split<;>simp only [xL]<;>omega
theorem jFr (an tg:Tx):(xX an tg).1≤an.1+tg.1+2:=by
 unfold xX
 split
 ·have:=bV an tg; omega
 ·have:=bV (xL (1,38) an) tg
  have e:(xL (1,38) an).1=1+an.1:=rfl
  omega
theorem jRt (k st:Int) (tx s:Tx):(eO k st tx s).1≤s.1+2:=by
 unfold eO
 split<;>simp only [xL]<;>omega
theorem jLx {S:Sc} (hS:sU S) {si ba fl:Bool} {st:Int} {tg tx:Tx} (h:okP tx):(pZ S si ba fl st tg tx).1≤10*tx.1+4:=by
 unfold pZ
 split
 ·omega
 ·exact hS.ql _ _ h
theorem jZk {S:Sc} (hS:sU S) (si:Bool):(hU S si).1≤38:=by
 have h1:=hS.ll
 have h2:=hS.ql (0,0) si qEc
 simp only [hU,xL]
 omega
def jVj:List (Tx×Tx×Tx)→Nat
 | []=>0
 | a::r=>a.1.1+2+jVj r
def jYx:List (Tx×Tx×Tx)→Nat
 | []=>0
 | a::r=>max a.2.1.1 a.2.2.1+3+jYx r
theorem mD:∀ l:List (Tx×Tx×Tx),gI (l.map (·.1))=jVj l
 | []=>rfl
 | a::r=>by simp only [List.map_cons,gI,jVj,mD r]
theorem nQ:∀ l:List (Tx×Tx×Tx),gI (uR l)≤jYx l
 | []=>Nat.le_refl _
 | [a]=>by simp only [uR,gI]; omega
 | a::b::r=>by
  have:=nQ r
  have:=bV a.2.1 b.2.2
  simp only [uR,gI,jYx]
  omega
mutual
theorem kZ {S:Sc} (hS:sU S) (si ba:Bool):∀ (t:Tq) (fl:Bool),okQ t→(yG S si ba t fl).1+10≤50*wtQ t
 | .mk k st an tg tx ks,fl,h=>by
  simp only [okQ] at h
  obtain ⟨⟨h1,h2,h3⟩,_,_,h4⟩:=h
  obtain ⟨k1,k2⟩:=tU hS si ba ks h4
  have j1:=uP ((qG S si ba ks).map (·.1))
  rw [mD] at j1
  have j2:=uP (uR (qG S si ba ks))
  have j3:=nQ (qG S si ba ks)
  have p1:=jFr an tg
  have p2:=jLx hS (si:=si) (ba:=ba) (fl:=fl) (st:=st) (tg:=tg) h3
  have b:(xU S si ba fl k st tg tx (qG S si ba ks)).1≤10*tx.1+4+50*fX ks:=by
   unfold xU
   split
   ·simp only [xL]; omega
   ·split
    ·omega
    ·split
     ·simp only [xL]; omega
     ·split
      ·simp only [xL]; omega
      ·exact Nat.zero_le _
  have j:=bV (xX an tg) (xU S si ba fl k st tg tx (qG S si ba ks))
  simp only [yG,wtQ]
  omega
theorem tU {S:Sc} (hS:sU S) (si ba:Bool):∀ ts:List Tq,mK ts→jVj (qG S si ba ts)≤50*fX ts∧jYx (qG S si ba ts)≤50*fX ts
 | [],_=>⟨Nat.zero_le _,Nat.zero_le _⟩
 | .mk k st an tg tx ks::ts,h=>by
  simp only [mK] at h
  have h1:=kZ hS si ba (.mk k st an tg tx ks) true h.1
  obtain ⟨h2,h3⟩:=tU hS si ba ts h.2
  have h4:=jZk hS si
  have h5:=jRt k st tx (yG S si ba (.mk k st an tg tx ks) true)
  have hw:1≤wtQ (.mk k st an tg tx ks):=by simp only [wtQ]; omega
  simp only [qG,jVj,jYx,fX]
  refine ⟨?_,by omega⟩
  split<;>omega
end
theorem qQ {a b:Tx} (ha:yI a) (hb:yI b):yI (xL a b):=by
 obtain ⟨n,v⟩:=a
 obtain ⟨m,u⟩:=b
 obtain ⟨h1,h2⟩:=ha
 obtain ⟨h3,h4⟩:=hb
 dsimp only at h1 h2 h3 h4
 have hp:∀ k:Nat,0<256^k:=fun k=>Nat.pow_pos (by decide)
 refine ⟨fun k hk=>?_,?_⟩
 ·show (v+u*256^n) / 256^k % 256≠10
  change k<n+m at hk
  by_cases q:k<n
  ·have e:256^n=256^k*(256*256^(n - k - 1)):=by
    rw [←Nat.mul_assoc,←Nat.pow_succ,←Nat.pow_add]; congr 1; omega
   have e2:u*256^n=256^k*(256*(256^(n - k - 1)*u)):=by
    rw [e,Nat.mul_comm u,Nat.mul_assoc,Nat.mul_assoc]
   rw [e2,Nat.add_mul_div_left _ _ (hp k),Nat.add_mul_mod_self_left]
   exact h1 k q
  ·have e:256^k=256^n*256^(k - n):=by rw [←Nat.pow_add]; congr 1; omega
   rw [e,←Nat.div_div_eq_div_mul,Nat.add_mul_div_right _ _ (hp n),Nat.div_eq_of_lt h2,Nat.zero_add]
   exact h3 (k - n) (by omega)
 ·show v+u*256^n<256^(n+m)
  have:(u+1)*256^n≤256^m*256^n:=Nat.mul_le_mul_right _ h4
  rw [←Nat.pow_add,Nat.add_mul,Nat.one_mul,Nat.add_comm m n] at this
  omega
theorem kB {c:Nat} (h:c<256) (h1:c≠10):yI (1,c):=by
 refine ⟨fun k hk=>?_,h⟩
 change k<1 at hk
 have:k=0:=by omega
 subst this
 show c / 1 % 256≠10
 rw [Nat.div_one,Nat.mod_eq_of_lt h]; exact h1
theorem qFp:yI (0,0):=⟨fun k hk=>absurd hk (Nat.not_lt_zero _),by decide⟩
theorem qGx:yI (2,8236):=by
 have:((2,8236):Tx)=xL (1,44) (1,32):=rfl
 rw [this]; exact qQ (kB (by decide) (by decide)) (kB (by decide) (by decide))
theorem qGy:yI (2,8254):=by
 have:((2,8254):Tx)=xL (1,62) (1,32):=rfl
 rw [this]; exact qQ (kB (by decide) (by decide)) (kB (by decide) (by decide))
theorem qGz:yI (2,15393):=by
 have:((2,15393):Tx)=xL (1,33) (1,60):=rfl
 rw [this]; exact qQ (kB (by decide) (by decide)) (kB (by decide) (by decide))
theorem fL {a b:Tx} (ha:yI a) (hb:yI b):yI (yO a b):=by
 unfold yO
 split
 ·exact qQ ha hb
 ·exact qQ (qQ ha (kB (by decide) (by decide))) hb
theorem eB:∀ {l:List Tx},(∀ x,x∈l→yI x)→yI (zS l)
 | [],_=>qFp
 | [a],h=>h a (by simp)
 | a::b::r,h=>by
  simp only [zS]
  exact qQ (qQ (h a (by simp)) qGx) (eB (l:=b::r) fun x hx=>h x (by simp at hx ⊢; exact .inr hx))
theorem jUv {S:Sc} (hS:sU S) (si:Bool):yI (hU S si):=
 qQ (qQ (qQ qGz hS.lf) qGy) (hS.qf _ _ qEc)
theorem jKn {k st:Int} {tx s:Tx} (h:yI s):yI (eO k st tx s):=by
 unfold eO
 split
 ·exact qQ (qQ h (kB (by decide) (by decide))) (kB (by decide) (by decide))
 ·exact qQ h (kB (by decide) (by decide))
theorem jUw {S:Sc} (hS:sU S) {si ba fl:Bool} {st:Int} {tg tx:Tx} (h:okP tx):yI (pZ S si ba fl st tg tx):=by
 unfold pZ
 split
 ·rename_i e
  refine ⟨?_,h.2⟩
  unfold jDe at e
  split at e
  ·rename_i q
   rw [Bool.and_eq_true,Bool.or_eq_true] at q
   rcases q.2 with q | q
   ·unfold isE at q
    have q:=of_decide_eq_true q
    intro k hk; rw [q.1] at hk; cases hk
   ·exact hS.pf _ _ h q
  ·split at e
   ·rename_i q
    simp only [Bool.and_eq_true] at q
    exact hS.pf _ _ h q.2.2.2.1
   ·split at e<;>cases e
 ·exact hS.qf _ _ h
theorem jAv {an tg:Tx} (ha:yI an) (hg:yI tg):yI (xX an tg):=by
 unfold xX
 split
 ·exact fL ha hg
 ·exact fL (qQ (kB (by decide) (by decide)) ha) hg
theorem eC:∀ {l:List (Tx×Tx×Tx)},(∀ x,x∈l→yI x.1∧yI x.2.1∧yI x.2.2)→∀ x,x∈uR l→yI x
 | [],_,x,hx=>by simp [uR] at hx
 | [a],_,x,hx=>by simp [uR] at hx
 | a::b::r,h,x,hx=>by
  simp only [uR] at hx
  rcases List.mem_cons.1 hx with rfl | hx
  ·exact fL (h a (by simp)).2.1 (h b (by simp)).2.2
  ·exact eC (l:=r) (fun y hy=>h y (by simp [hy])) x hx
theorem jEw {S:Sc} (hS:sU S) (si ba fl:Bool) {k st:Int} {tg tx:Tx} {l:List (Tx×Tx×Tx)} (h3:okP tx) (n3:k=2→nlP tx.1 tx.2) (hk:∀ x,x∈l→yI x.1∧yI x.2.1∧yI x.2.2):yI (xU S si ba fl k st tg tx l):=by
 unfold xU
 split
 ·rename_i e; exact qQ (kB (by decide) (by decide)) ⟨n3 e,h3.2⟩
 ·split
  ·exact jUw hS h3
  ·split
   ·refine qQ (qQ (kB (by decide) (by decide)) (eB fun x hx=>?_)) (kB (by decide) (by decide))
    obtain ⟨y,hy,rfl⟩:=List.mem_map.1 hx
    exact (hk y hy).1
   ·split
    ·exact qQ (qQ (kB (by decide) (by decide)) (eB (eC hk))) (kB (by decide) (by decide))
    ·exact qFp
mutual
theorem kM {S:Sc} (hS:sU S) (si ba:Bool):∀ (t:Tq) (fl:Bool),okQ t→yI (yG S si ba t fl)
 | .mk k st an tg tx ks,fl,h=>by
  simp only [okQ] at h
  obtain ⟨⟨h1,h2,h3⟩,⟨n1,n2,n3⟩,_,h4⟩:=h
  have hk:=gH hS si ba ks h4
  simp only [yG]
  exact fL (jAv ⟨n1,h1.2⟩ ⟨n2,h2.2⟩) (jEw hS si ba fl h3 n3 hk)
theorem gH {S:Sc} (hS:sU S) (si ba:Bool):∀ ts:List Tq,mK ts→∀ x,x∈qG S si ba ts→yI x.1∧yI x.2.1∧yI x.2.2
 | [],_,x,hx=>by simp [qG] at hx
 | .mk k st an tg tx ks::ts,h,x,hx=>by
  simp only [mK] at h
  have h1:=kM hS si ba (.mk k st an tg tx ks) true h.1
  simp only [qG] at hx
  rcases List.mem_cons.1 hx with rfl | hx
  ·refine ⟨?_,jKn h1,h1⟩
   dsimp only
   split
   ·exact jUv hS si
   ·exact h1
  ·exact gH hS si ba ts h.2 x hx
end
end
end Go.Proofs.YtngfdcnglojcaaaGreatDoor.Ev.Fb
end
section
set_option linter.all false
namespace Go.Proofs.YtngfdcnglojcaaaGreatDoor.Ev.Lf
noncomputable section
open Go Ev Rf
mutual
theorem jTh:∀ (s s':SV),jT s=true→jT s'=true→toA s=toA s'→s=s'
 | .b x,s',_,h,e=>by cases s'<;>simp [jT] at h<;>simp [toA] at e; rw [e]
 | .i k n,s',_,h,e=>by cases s'<;>simp [jT] at h<;>simp [toA] at e; rw [e.1,e.2]
 | .s n v,s',_,h,e=>by cases s'<;>simp [jT] at h<;>simp [toA] at e; rw [e.1,e.2]
 | .tup l,s',f,h,e=>by
  cases s'<;>simp only [jT] at h<;>simp only [toA] at e<;>try (cases h)
  all_goals first | (cases e; done) | skip
  rename_i l'
  have:=jNb l l' (by simpa only [jT] using f) h (by simpa using e)
  rw [this]
 | .p0,_,f,_,_=>by simp [jT] at f
 | .sl0,_,f,_,_=>by simp [jT] at f
 | .tp _ _ _,_,f,_,_=>by simp [jT] at f
 | .te _ _ _ _,_,f,_,_=>by simp [jT] at f
 | .ts _ _ _ _,_,f,_,_=>by simp [jT] at f
 | .q _ _ _,_,f,_,_=>by simp [jT] at f
 | .qp _ _ _,_,f,_,_=>by simp [jT] at f
 | .qs _,_,f,_,_=>by simp [jT] at f
 | .xs _,_,f,_,_=>by simp [jT] at f
 | .f _ _ _,_,f,_,_=>by simp [jT] at f
 | .agg _,_,f,_,_=>by simp [jT] at f
 | .fis _,_,f,_,_=>by simp [jT] at f
 | .fqs,_,f,_,_=>by simp [jT] at f
 | .qx _ _,_,f,_,_=>by simp [jT] at f
 | .xp _,_,f,_,_=>by simp [jT] at f
theorem jNb:∀ (l l':List SV),yV l=true→yV l'=true→jEd l=jEd l'→l=l'
 | [],[],_,_,_=>rfl
 | [],_::_,_,_,e=>by simp [jEd] at e
 | _::_,[],_,_,e=>by simp [jEd] at e
 | x::l,y::l',f,h,e=>by
  simp only [yV,Bool.and_eq_true] at f h
  simp only [jEd,List.cons.injEq] at e
  rw [jTh x y f.1 h.1 e.1,jNb l l' f.2 h.2 e.2]
end
def Gr (fs:Nat→Option F) (orc:Nat→List AV→Mem→Option AV) (L:Nat):Nat→List SV→SV→Prop:=fun f l s=>jT s=true∧∃ d σ',evF fs orc L d f (jEd l) bY=some (toA s,σ')
theorem qGg (fs:Nat→Option F) (orc:Nat→List AV→Mem→Option AV) (L:Nat):bB (Gr fs orc L):=by
 rintro f l s s' ⟨h1,d,σ1,h2⟩ ⟨h3,d',σ2,h4⟩
 have a:=jYa (Nat.le_max_left d d') _ _ _ _ h2
 have b:=jYa (Nat.le_max_right d d') _ _ _ _ h4
 rw [a] at b
 simp only [Option.some.injEq,Prod.mk.injEq] at b
 exact jTh _ _ h1 h3 b.1
theorem qKg {C:Cx} {fs:Nat→Option F} {orc:Nat→List AV→Mem→Option AV} {L:Nat} (h:C.G=Gr fs orc L) (d:Nat):GOK C (evF fs orc L d):=by
 intro f l s σ' h1 h2 h3
 rw [h]
 exact ⟨h2,d,σ',h3⟩
theorem qHv {l:List (Nat×Option Nat)} {w:Nat} (hl:∀ p,p∈l→p.1<w∧∀ g,p.2=some g→g<w) {f f':Nat→AV} (h:∀ j,j<w→Pc (f j) (f' j)) (k:rpK l f):rpK l f':=by
 intro p hp hg n v e
 obtain ⟨h1,h2⟩:=hl p hp
 have hg':(match p.2 with | none=>True | some g=>∃ k,f g = .i k 2):=by
  split
  ·trivial
  ·rename_i g e2
   rw [e2] at hg
   obtain ⟨k2,hg⟩:=hg
   exact (h g (h2 g e2)).1 k2 hg
 rcases (h p.1 h1).2 n v e with q | ⟨n0,v0,e0,q⟩
 ·exact q
 ·exact q (k p hp hg' n0 v0 e0)
theorem qMj {x:SV} {k:IntKind} {z:Int} (h:toR x = .i k z):x = .i k z:=by cases x<;>simp [toR] at h; obtain ⟨rfl,rfl⟩:=h; rfl
theorem qMk {x:SV} {n v:Nat} (h:toR x = .s n v):x = .s n v:=by cases x<;>simp [toR] at h; obtain ⟨rfl,rfl⟩:=h; rfl
theorem qHw {l:List (Nat×Option Nat)} {s:List SV} (k:rsK l s):rpK l fun j=>((s.map toR)[j]?).getD .ni:=by
 have get:∀ {j:Nat} {c:AV},((s.map toR)[j]?).getD .ni=c→c ≠ .ni→∃ x,s[j]?=some x∧toR x=c:=fun {j c} e hc=>by
  rw [List.getElem?_map] at e
  cases hx:s[j]? with
  | none=>rw [hx] at e; exact absurd e.symm hc
  | some x=>rw [hx] at e; exact ⟨x,rfl,e⟩
 intro p hp hg n v e
 obtain ⟨x,h1,h2⟩:=get e (by intro q; cases q)
 refine k p hp ?_ n v (by rw [h1,qMk h2])
 split
 ·trivial
 ·rename_i g e2
  rw [e2] at hg
  obtain ⟨k2,hg⟩:=hg
  obtain ⟨y,h3,h4⟩:=get hg (by intro q; cases q)
  exact ⟨k2,by rw [h3,qMj h4]⟩
theorem qHs {l:List (Nat×Option Nat)} {f:Nat→AV} {off:Nat} {n:Option Nat} {v:SV} (k:rpK l f) (h:rdC f off n v):rdK l off n v:=by
 cases n with
 | none=>
  intro p hp h1 h2 m w e
  refine k p hp (by rw [h2]; trivial) m w ?_
  rw [h1]; exact h.2 m w e
 | some n=>
  intro h0 r e p hp hg m w e1
  have hh:∀ {j:Nat} {x:SV},r[j]?=some x→jKa x (f j):=fun {j x} q=>by
   have:=h r e j x q
   rw [h0,Nat.zero_add] at this
   exact this
  refine k p hp ?_ m w ((hh e1).2 m w rfl)
  split
  ·trivial
  ·rename_i g e2
   rw [e2] at hg
   obtain ⟨k2,hg⟩:=hg
   exact ⟨k2,(hh hg).1 k2 2 rfl⟩
theorem qKp {P:PX} {G:Nat→List SV→SV→Prop} (htt:∀ T j d,(P.ct T)[j]?=some (.t d)→∃ i,j=i+1∧(P.ct T)[i]?≠some .b) (hpos:∀ T,0<(P.ct T).length) (hrk:∀ T p,p∈P.rk T→p.1<(P.ct T).length∧∀ g,p.2=some g→g<(P.ct T).length) (hst:∀ T,jWg (P.ct T)=true→P.rk T=[]):uV (P.C G):=by
 refine ⟨fun T r h=>?_,fun T r r'=>?_,fun T r r' j t t' hr e e'=>?_,fun T r r'=>?_,fun T r=>?_,fun T f f' h k=>?_,fun T r j m e=>?_,fun T f h=>?_,fun T s k=>qHw k,fun T f off n v k h=>qHs k h⟩
 rotate_left 5
 ·have hw:((P.C G).ct T 0).length=(P.ct T).length:=by
   show ((P.ct T).map _).length=_
   rw [List.length_map]
  exact qHv (hrk T) (fun j hj=>h j (by rw [hw]; exact hj)) k
 ·change ((P.ct T).map (TyX.at r))[j]?=some (.t m) at e
  rw [List.getElem?_map] at e
  cases hx:(P.ct T)[j]? with
  | none=>rw [hx] at e; cases e
  | some x=>
   rw [hx] at e
   cases x with
   | t d=>
    obtain ⟨i,e1,e2⟩:=htt T j d hx
    refine ⟨i,e1,fun r' q=>?_⟩
    change ((P.ct T).map (TyX.at r'))[i]?=some .b at q
    rw [List.getElem?_map] at q
    cases hy:(P.ct T)[i]? with
    | none=>rw [hy] at q; cases q
    | some y=>
     rw [hy] at q e2
     cases y with
     | b=>exact e2 rfl
     | q T' d=>cases d<;>cases q
     | _=>cases q
   | q T' d=>cases d<;>cases e
   | _=>cases e
 ·have:P.rk T=[]:=hst T (by
   have h':dP ((P.ct T).map (TyX.at 0))=true:=h
   rw [aJ] at h'; exact h')
  show rpK (P.rk T) f
  rw [this]
  intro p hp; cases hp
 ·show if P.cp T=true then 1≤r else True
  change (bif P.cp T then 1 else 0)≤r at h
  cases hc:P.cp T
  ·simp
  ·rw [hc] at h; simpa using h
 ·show ((P.ct T).map _).length=((P.ct T).map _).length
  rw [List.length_map,List.length_map]
 ·change ((P.ct T).map (TyX.at r))[j]?=some t at e
  change ((P.ct T).map (TyX.at r'))[j]?=some t' at e'
  rw [List.getElem?_map] at e e'
  cases hx:(P.ct T)[j]? with
  | none=>rw [hx] at e; cases e
  | some x=>
   rw [hx] at e e'
   cases e; cases e'
   cases x with
   | q T' d=>cases d with
    | none=>exact ⟨rfl,Nat.le_refl _⟩
    | some d=>exact ⟨rfl,by omega⟩
   | t d=>show r - d≤r' - d; omega
   | _=>rfl
 ·show dP ((P.ct T).map (TyX.at r))=dP ((P.ct T).map (TyX.at r'))
  rw [aJ,aJ]
 ·show 0<((P.ct T).map _).length
  rw [List.length_map]; exact hpos T
end
end Go.Proofs.YtngfdcnglojcaaaGreatDoor.Ev.Lf
end
section
set_option linter.all false
namespace Go.Proofs.YtngfdcnglojcaaaGreatDoor.Ev.Fb
noncomputable section
open Go Ev Rf
set_option maxRecDepth 2000
set_option maxHeartbeats 4000000
abbrev Ct:=Nat→List SV→Hp→Q2→Prop
theorem fO {C:Cx} {L:Nat} {body:Env→Hp→QK→Prop} {E:Env} {H:Hp} {Q:QK} (id:Nat) (h:∃ (ks:List Nat) (cv:List (Cv×Nat)),cvs C E H cv fun E' H'=>∃ (α:Type) (F:α→Env) (G:α→Hp) (I:α→Prop) (m:α→Nat),(∃ p,Sub (F p++wV E' ks) E'∧H'=G p∧I p∧m p<L)∧∀ p,I p→body (F p++wV E' ks) (G p) (lpQ (fun p=>F p++wV E' ks) G I m (m p) (jP (G p)) (qDc id Q))):jDo C L body E H (qDc id Q):=by unfold jDo; exact h
theorem uG {g:Nat} {p:Prop} (h:p):req (Nat.beq g g) p:=by rw [show Nat.beq g g=true from Nat.beq_refl g]; exact h
def LL:Nat:=200000000000000
abbrev cf (si ba:Bool):List SV:=[.i .i64 80,.i .i64 2,.i .i64 1,.b si,.b false,.b false,.b false,.b ba]
theorem jBl:∀ {ts:List Tq} {rows:List (List Nd)},xM ts rows→ts.length=rows.length
 | [],rows,h=>by simp only [xM] at h; subst h; rfl
 | t::ts,rows,h=>by simp only [xM] at h; obtain ⟨r,rs,rfl,_,h⟩:=h; simp [jBl h]
theorem uC:∀ {ts:List Tq} {rows:List (List Nd)} {k:Nat} {row:List Nd},xM ts rows→rows[k]?=some row→∃ t,ts[k]?=some t∧isQ t row
 | [],rows,k,row,h,e=>by simp only [xM] at h; subst h; simp at e
 | t::ts,rows,k,row,h,e=>by
  simp only [xM] at h
  obtain ⟨r,rs,rfl,h1,h⟩:=h
  cases k with
  | zero=>simp at e; subst e; exact ⟨t,rfl,h1⟩
  | succ k=>
   obtain ⟨q,h2,h3⟩:=uC (rows:=rs) (k:=k) h (by simpa using e)
   exact ⟨q,by simpa using h2,h3⟩
theorem jFd:∀ {ts:List Tq} {rows:List (List Nd)} {k:Nat} {row:List Nd},jYt ts rows→rows[k]?=some row→∃ t,ts[k]?=some t∧qLh t row
 | [],rows,k,row,h,e=>by cases h; simp at e
 | t::ts,rows,k,row,h,e=>by
  obtain ⟨r,rs,rfl,h1,h⟩:=h
  cases k with
  | zero=>simp at e; subst e; exact ⟨t,rfl,h1⟩
  | succ k=>
   obtain ⟨q,h2,h3⟩:=jFd (rows:=rs) (k:=k) h (by simpa using e)
   exact ⟨q,by simpa using h2,h3⟩
theorem uF:∀ {ts:List Tq} {t:Tq} {k:Nat},mK ts→ts[k]?=some t→okQ t
 | [],t,k,h,e=>by simp at e
 | a::ts,t,k,h,e=>by
  simp only [mK] at h
  cases k with
  | zero=>simp at e; subst e; exact h.1
  | succ k=>exact uF (k:=k) h.2 (by simpa using e)
theorem vN:∀ {ts:List Tq} {t:Tq} {k:Nat},ts[k]?=some t→wtQ t≤fX ts
 | [],t,k,e=>by simp at e
 | a::ts,t,k,e=>by
  cases k with
  | zero=>simp at e; subst e; simp only [fX]; omega
  | succ k=>have:=vN (k:=k) (ts:=ts) (by simpa using e); simp only [fX]; omega
theorem wX {α:Type} {l:List α} {k:Nat} {p:α} (h:l[k]?=some p):l.take (k+1)=l.take k++[p]:=by
 rw [List.take_add_one,h]; rfl
structure ScR (Γ:qE) (S:Sc):Prop where
 ok:sU S
 h44:∀ (d n v:Nat) (b:Bool) (Q:Q2),1≤d→okP (n,v)→Q (.s (S.qt (n,v) b).1 (S.qt (n,v) b).2) []→Γ d 44 [.s n v,.b b] [] Q
 h68:∀ (d n v:Nat) (b:Bool) (Q:Q2),1≤d→okP (n,v)→Q (.b (S.pl (n,v) b)) []→Γ d 68 [.s n v,.b b] [] Q
 h70:∀ (d n v:Nat) (Q:Q2),1≤d→okP (n,v)→Q (.s (S.tg (n,v)).1 (S.tg (n,v)).2) []→Γ d 70 [.s n v] [] Q
 h71:∀ (d n v:Nat) (Q:Q2),1≤d→okP (n,v)→Q (.s (S.lg (n,v)).1 (S.lg (n,v)).2) []→Γ d 71 [.s n v] [] Q
 h72:∀ (d n v:Nat) (Q:Q2),1≤d→okP (n,v)→Q (.b (S.sg (n,v))) []→Γ d 72 [.s n v] [] Q
 h46:∀ (d:Nat) (l:List Tx) (Q:Q2),1≤d→gI l≤MX→l.length≤NB→(∀ p,p∈l→p.2<256^p.1)→Q (.s (zS l).1 (zS l).2) []→Γ d 46 [.qs l,.s 2 8236] [] Q
def nF:Ct:=fun d l H Q=>∃ (a b:Tx),l=[.s a.1 a.2,.s b.1 b.2]∧H=[]∧a.2<256^a.1∧b.2<256^b.1∧a.1+b.1+1≤MX∧1≤d∧Q (.s (yO a b).1 (yO a b).2) []
def oY:Ct:=fun d l H Q=>∃ (k st:Int) (an tg tx:Tx) (ks:List Tq) (row:List Nd),l=[.agg (row.map ofN)]∧H=[]∧isQ (.mk k st an tg tx ks) row∧1≤d∧Q (.b (fS k st tx)) []
def jAc:Ct:=fun d l H Q=>∃ (k st:Int) (an tg tx:Tx) (ks:List Tq) (row:List Nd),l=[.agg (row.map ofN)]∧H=[]∧isQ (.mk k st an tg tx ks) row∧okQ (.mk k st an tg tx ks)∧2≤d∧Q (.s (xX an tg).1 (xX an tg).2) []
def jHf (S:Sc):Ct:=fun d l H Q=>∃ (si ba fl:Bool) (k st:Int) (an tg tx:Tx) (ks:List Tq) (row:List Nd),l=[.agg (row.map ofN),.agg (cf si ba),.b fl,.b true]∧H=[]∧isQ (.mk k st an tg tx ks) row∧okQ (.mk k st an tg tx ks)∧2≤d∧Q (.i .i64 (jDe S si ba fl st tg tx)) []
def jQm (S:Sc):Ct:=fun d l H Q=>∃ (si ba fl:Bool) (k st:Int) (an tg tx:Tx) (ks:List Tq) (row:List Nd),l=[.agg (row.map ofN),.agg (cf si ba),.b fl]∧H=[]∧isQ (.mk k st an tg tx ks) row∧okQ (.mk k st an tg tx ks)∧4≤d∧Q (.s (pZ S si ba fl st tg tx).1 (pZ S si ba fl st tg tx).2) []
def jAd (S:Sc):Ct:=fun d l H Q=>∃ (si ba fl:Bool) (t:Tq) (row:List Nd),l=[.agg (row.map ofN),.agg (cf si ba),.b fl]∧H=[]∧isQ t row∧okQ t∧50*wtQ t≤MX∧10*wtQ t≤d∧Q (.s (yG S si ba t fl).1 (yG S si ba t fl).2) []
def jXb (S:Sc):Ct:=fun d l H Q=>∃ (si ba fl:Bool) (k st:Int) (an tg tx:Tx) (ks:List Tq) (row:List Nd),l=[.agg (row.map ofN),.agg (cf si ba),.b fl]∧H=[]∧isQ (.mk k st an tg tx ks) row∧okQ (.mk k st an tg tx ks)∧50*wtQ (.mk k st an tg tx ks)≤MX∧10*wtQ (.mk k st an tg tx ks)+1≤d ∧
 Q (.s (eO k st tx (yG S si ba (.mk k st an tg tx ks) fl)).1 (eO k st tx (yG S si ba (.mk k st an tg tx ks) fl)).2) []
def itm (S:Sc) (si ba:Bool) (t:Tq):Tx×Tx×Tx:=((qG S si ba [t])[0]?).getD ((0,0),(0,0),(0,0))
def jQk (S:Sc):Ct:=fun d l H Q=>∃ (si ba:Bool) (t:Tq) (row:List Nd),l=[.agg (cf si ba),.agg (row.map ofN)]∧H=[]∧isQ t row∧okQ t∧50*wtQ t≤MX∧10*wtQ t+1≤d∧Q (.s (itm S si ba t).1.1 (itm S si ba t).1.2) []
def jHe (S:Sc):Ct:=fun d l H Q=>∃ (si ba:Bool) (t u:Tq) (row row':List Nd),l=[.agg (cf si ba),.agg (row.map ofN),.agg (row'.map ofN)]∧H=[]∧isQ t row∧isQ u row'∧okQ t∧okQ u∧50*(wtQ t+wtQ u)≤MX∧10*(wtQ t+wtQ u)+2≤d ∧
 Q (.s (yO (itm S si ba t).2.1 (itm S si ba u).2.2).1 (yO (itm S si ba t).2.1 (itm S si ba u).2.2).2) []
def jQl (S:Sc):Ct:=fun d l H Q=>∃ (si ba:Bool) (k st:Int) (an tg tx:Tx) (ks:List Tq) (row:List Nd),l=[.agg (cf si ba),.agg (row.map ofN)]∧H=[]∧isQ (.mk k st an tg tx ks) row∧(k=3∨k=4)∧mK ks∧ks.length≤NB∧50*fX ks+2≤MX∧10*fX ks+4≤d ∧
 Q (.s (xU S si ba false k st tg tx (qG S si ba ks)).1 (xU S si ba false k st tg tx (qG S si ba ks)).2) []
def jAb:Ct:=fun d l H Q=>∃ (t:Tq) (row:List Nd),l=[.agg (row.map ofN)]∧H=[]∧isQ t row∧okQ t∧wtQ t≤d∧∀ row',isQ (xB t) row'→Q (.agg (row'.map ofN)) []
def jQj:Ct:=fun d l H Q=>∃ (si ba:Bool),l=[.b si,.b ba]∧H=[]∧1≤d∧Q (.agg (cf si ba)) []
theorem pW {a:Tx} (h:a.1=0∧a.2=0):isE a=true:=decide_eq_true h
theorem pV {a:Tx} (h:¬ (a.1=0∧a.2=0)):isE a=false:=decide_eq_false h
theorem jPc {b:Bool} {p:Prop} (e:b=true) (h:p):req b p:=by rw [e]; exact h
theorem jHh {a b:Tx} (ha:a.2<256^a.1) (hb:b.2<256^b.1):(xL a b).2<256^(xL a b).1:=by
 show a.2+b.2*256^a.1<256^(a.1+b.1)
 have:(b.2+1)*256^a.1≤256^b.1*256^a.1:=Nat.mul_le_mul_right _ hb
 rw [←Nat.pow_add,Nat.add_mul,Nat.one_mul,Nat.add_comm b.1 a.1] at this
 omega
theorem jZn:okP (3,7500915):=⟨by decide,by decide⟩
theorem qHm:okP (4,1819047278):=⟨by decide,by decide⟩
end
end Go.Proofs.YtngfdcnglojcaaaGreatDoor.Ev.Fb
end
section
set_option linter.all false
namespace Go.Proofs.YtngfdcnglojcaaaGreatDoor.Ev.Fb
noncomputable section
open Go Ev Rf
set_option maxRecDepth 2000
set_option maxHeartbeats 4000000
section
variable {G:Nat→List SV→SV→Prop} {Γ:qE}
theorem p23 (d:Nat) (l:List SV) (H:Hp) (Q:Q2) (h:nF (d+1) l H Q):wF (PT.C G) Γ LL d 23 g23 l H Q:=by
 obtain ⟨a,b,rfl,rfl,ha,hb,hn,hd,hQ⟩:=h
 have e1:MX=140737488355328:=rfl
 unfold yO at hQ
 repeat apply Or.inl
 intro _ _
 refine And.intro (fun h=>?_) (fun h=>?_)
 ·rw [pW h,Bool.true_or,if_pos rfl] at hQ
  repeat apply Or.inl
  refine ⟨by omega,fun _ _=>?_⟩
  repeat apply Or.inl
  exact hQ
 ·repeat apply Or.inl
  intro _ _
  refine And.intro (fun h'=>?_) (fun h'=>?_)
  ·rw [pW h',Bool.or_true,if_pos rfl] at hQ
   repeat apply Or.inl
   refine ⟨by omega,fun _ _=>?_⟩
   repeat apply Or.inl
   exact hQ
  ·rw [pV h',pV h,Bool.or_false,if_neg (by simp)] at hQ
   repeat apply Or.inl
   refine ⟨by omega,fun _ _=>?_⟩
   repeat apply Or.inl
   refine ⟨by omega,fun _ _=>?_⟩
   repeat apply Or.inl
   exact hQ
end
section
variable {G:Nat→List SV→SV→Prop} {Γ:qE}
theorem p24 (d:Nat) (l:List SV) (H:Hp) (Q:Q2) (h:oY (d+1) l H Q):wF (PT.C G) Γ LL d 24 g24 l H Q:=by
 obtain ⟨k,st,an,tg,tx,ks,row,rfl,rfl,hr,hd,hQ⟩:=h
 simp only [isQ] at hr
 obtain ⟨n2,n3,w8,l8,w9,l9,b10,m11,v11,kr,rfl,_⟩:=hr
 unfold fS at hQ
 repeat apply Or.inl
 refine And.intro (fun h=>?_) (fun h=>?_)
 ·rw [decide_eq_true h] at hQ
  repeat apply Or.inl
  refine And.intro (fun h2=>?_) (fun h2=>?_)
  ·rw [decide_eq_true h2] at hQ
   repeat apply Or.inl
   intro _ _
   refine And.intro (fun h3=>?_) (fun h3=>?_)
   ·rw [pW h3] at hQ
    repeat apply Or.inl
    exact hQ
   ·rw [pV h3] at hQ
    repeat apply Or.inl
    exact hQ
  ·rw [decide_eq_false h2] at hQ
   repeat apply Or.inl
   exact hQ
 ·rw [decide_eq_false h] at hQ
  repeat apply Or.inl
  exact hQ
theorem p11 (h23:∀ d l H Q,nF d l H Q→Γ d 23 l H Q) (d:Nat) (l:List SV) (H:Hp) (Q:Q2) (h:jAc (d+1) l H Q):wF (PT.C G) Γ LL d 11 g11 l H Q:=by
 obtain ⟨k,st,an,tg,tx,ks,row,rfl,rfl,hr,ho,hd,hQ⟩:=h
 simp only [isQ] at hr
 obtain ⟨n2,n3,w8,l8,w9,l9,b10,m11,v11,kr,rfl,_⟩:=hr
 simp only [okQ] at ho
 obtain ⟨⟨⟨h1,h1'⟩,⟨h2,h2'⟩,_⟩,_⟩:=ho
 have e1:MX=140737488355328:=rfl
 have e2:TB=4000000000:=rfl
 unfold xX at hQ
 repeat apply Or.inl
 intro _ _
 refine And.intro (fun h=>?_) (fun h=>?_)
 ·rw [pV h,if_neg (by simp)] at hQ
  repeat apply Or.inl
  refine ⟨by omega,fun hb _=>?_⟩
  repeat apply Or.inl
  refine h23 d _ _ _ ⟨xL (1,38) an,tg,rfl,rfl,(jHh (a:=(1,38)) (by decide) h1'),h2',?_,by omega,?_⟩
  ·show 1+an.1+tg.1+1≤MX; omega
  intro _
  repeat apply Or.inl
  exact hQ
 ·rw [pW h,if_pos rfl] at hQ
  repeat apply Or.inl
  refine h23 d _ _ _ ⟨an,tg,rfl,rfl,h1',h2',by omega,by omega,?_⟩
  intro _
  repeat apply Or.inl
  exact hQ
theorem p7 (d:Nat) (l:List SV) (H:Hp) (Q:Q2) (h:jQj (d+1) l H Q):wF (PT.C G) Γ LL d 7 g7 l H Q:=by
 obtain ⟨si,ba,rfl,rfl,hd,hQ⟩:=h
 repeat apply Or.inl
 exact hQ
end
section
variable {G:Nat→List SV→SV→Prop} {Γ:qE}
theorem p21 {S:Sc} (hS:ScR Γ S) (h43:∀ d l H Q,jHf S d l H Q→Γ d 43 l H Q) (d:Nat) (l:List SV) (H:Hp) (Q:Q2) (h:jQm S (d+1) l H Q):wF (PT.C G) Γ LL d 21 g21 l H Q:=by
 obtain ⟨si,ba,fl,k,st,an,tg,tx,ks,row,rfl,rfl,hr,ho,hd,hQ⟩:=h
 have hr0:=hr
 simp only [isQ] at hr
 obtain ⟨n2,n3,w8,l8,w9,l9,b10,m11,v11,kr,rfl,_⟩:=hr
 have ho0:=ho
 simp only [okQ] at ho
 obtain ⟨⟨_,_,h3⟩,_⟩:=ho
 unfold pZ at hQ
 repeat apply Or.inl
 refine h43 d _ _ _ ⟨si,ba,fl,k,st,an,tg,tx,ks,_,rfl,rfl,hr0,ho0,by omega,?_⟩
 repeat apply Or.inl
 refine And.intro (fun h=>?_) (fun h=>?_)
 ·rw [if_pos h] at hQ
  repeat apply Or.inl
  exact hQ
 ·rw [if_neg h] at hQ
  repeat apply Or.inl
  refine And.intro (fun h=>?_) (fun h=>?_)
  ·rw [decide_eq_true h] at hQ
   repeat apply Or.inl
   refine hS.h44 d _ _ _ _ (by omega) h3 ?_
   intro _
   repeat apply Or.inl
   exact hQ
  ·rw [decide_eq_false h] at hQ
   repeat apply Or.inl
   refine hS.h44 d _ _ _ _ (by omega) h3 ?_
   intro _
   repeat apply Or.inl
   exact hQ
theorem p9 {S:Sc} (hS:ScR Γ S) (h6:∀ d l H Q,jAd S d l H Q→Γ d 6 l H Q) (h24:∀ d l H Q,oY d l H Q→Γ d 24 l H Q) (d:Nat) (l:List SV) (H:Hp) (Q:Q2) (h:jXb S (d+1) l H Q):wF (PT.C G) Γ LL d 9 g9 l H Q:=by
 obtain ⟨si,ba,fl,k,st,an,tg,tx,ks,row,rfl,rfl,hr,ho,hw,hd,hQ⟩:=h
 have hr0:=hr
 simp only [isQ] at hr
 obtain ⟨n2,n3,w8,l8,w9,l9,b10,m11,v11,kr,rfl,_⟩:=hr
 have e1:MX=140737488355328:=rfl
 have hl:=kZ hS.ok si ba (.mk k st an tg tx ks) fl ho
 have hp1:1≤wtQ (.mk k st an tg tx ks):=by simp only [wtQ]; omega
 have hf:=(kM hS.ok si ba (.mk k st an tg tx ks) fl ho).2
 unfold eO at hQ
 repeat apply Or.inl
 refine h6 d _ _ _ ⟨si,ba,fl,_,_,rfl,rfl,hr0,ho,hw,by omega,?_⟩
 generalize yG S si ba (.mk k st an tg tx ks) fl=s at hQ hl hf
 repeat apply Or.inl
 refine And.intro (fun h=>?_) (fun h=>?_)
 ·rw [decide_eq_true h,Bool.true_or,if_pos rfl] at hQ
  repeat apply Or.inl
  refine ⟨by omega,fun _ _=>?_⟩
  repeat apply Or.inl
  refine ⟨by omega,fun _ _=>?_⟩
  repeat apply Or.inl
  exact hQ
 ·rw [decide_eq_false h,Bool.false_or] at hQ
  repeat apply Or.inl
  refine h24 d _ _ _ ⟨k,st,an,tg,tx,ks,_,rfl,rfl,hr0,by omega,?_⟩
  cases he:fS k st tx with
  | true=>
   rw [he,Bool.true_and] at hQ
   repeat apply Or.inl
   intro _ _
   refine And.intro (fun h=>?_) (fun h=>?_)
   ·rw [pV h,Bool.not_false,if_pos rfl] at hQ
    repeat apply Or.inl
    refine ⟨by omega,fun _ _=>?_⟩
    repeat apply Or.inl
    refine ⟨by omega,fun _ _=>?_⟩
    repeat apply Or.inl
    exact hQ
   ·rw [pW h,Bool.not_true,if_neg (by simp)] at hQ
    repeat apply Or.inl
    refine ⟨by omega,fun _ _=>?_⟩
    repeat apply Or.inl
    exact hQ
  | false=>
   rw [he,Bool.false_and,if_neg (by simp)] at hQ
   repeat apply Or.inl
   refine ⟨by omega,fun _ _=>?_⟩
   repeat apply Or.inl
   exact hQ
theorem p6 {S:Sc} (hS:ScR Γ S) (h11:∀ d l H Q,jAc d l H Q→Γ d 11 l H Q) (h21:∀ d l H Q,jQm S d l H Q→Γ d 21 l H Q) (h22:∀ d l H Q,jQl S d l H Q→Γ d 22 l H Q) (h23:∀ d l H Q,nF d l H Q→Γ d 23 l H Q) (d:Nat) (l:List SV) (H:Hp) (Q:Q2) (h:jAd S (d+1) l H Q):wF (PT.C G) Γ LL d 6 g6 l H Q:=by
 obtain ⟨si,ba,fl,t,row,rfl,rfl,hr,ho,hw,hd,hQ⟩:=h
 obtain ⟨k,st,an,tg,tx,ks⟩:=t
 have hr0:=hr
 simp only [isQ] at hr
 obtain ⟨n2,n3,w8,l8,w9,l9,b10,m11,v11,kr,rfl,_⟩:=hr
 have e1:MX=140737488355328:=rfl
 have ho0:=ho
 have hf:=kM hS.ok si ba (.mk k st an tg tx ks) fl ho
 simp only [okQ] at ho
 obtain ⟨⟨h1,h2,h3⟩,⟨g1,g2,g3⟩,h5,h4⟩:=ho
 have p1:=jFr an tg
 obtain ⟨k1,k2⟩:=tU hS.ok si ba ks h4
 have hpc:yI (xX an tg):=jAv ⟨g1,h1.2⟩ ⟨g2,h2.2⟩
 simp only [yG] at hQ
 simp only [wtQ] at hw hd
 have fb:=jEw hS.ok si ba fl (k:=k) (st:=st) (tg:=tg) (tx:=tx) h3 g3 (gH hS.ok si ba ks h4)
 have j1:=uP ((qG S si ba ks).map (·.1))
 rw [mD] at j1
 have j2:=uP (uR (qG S si ba ks))
 have j3:=nQ (qG S si ba ks)
 have p2:=jLx hS.ok (si:=si) (ba:=ba) (fl:=fl) (st:=st) (tg:=tg) h3
 repeat apply Or.inl
 refine And.intro (fun h=>?_) (fun h=>?_)
 ·have eb:xU S si ba fl k st tg tx (qG S si ba ks)=xL (1,42) tx:=by unfold xU; rw [if_pos h]
  rw [eb] at hQ fb
  repeat apply Or.inl
  refine ⟨by omega,fun _ _=>?_⟩
  repeat apply Or.inl
  refine h11 d _ _ _ ⟨k,st,an,tg,tx,ks,_,rfl,rfl,hr0,ho0,by omega,?_⟩
  repeat apply Or.inl
  refine h23 d _ _ _ ⟨xX an tg,xL (1,42) tx,rfl,rfl,hpc.2,fb.2,?_,by omega,?_⟩
  ·show (xX an tg).1+(1+tx.1)+1≤MX; omega
  intro _
  repeat apply Or.inl
  exact hQ
 ·repeat apply Or.inl
  refine And.intro (fun h'=>?_) (fun h'=>?_)
  ·have eb:xU S si ba fl k st tg tx (qG S si ba ks)=pZ S si ba fl st tg tx:=by unfold xU; rw [if_neg h,if_pos h']
   rw [eb] at hQ fb
   repeat apply Or.inl
   refine h21 d _ _ _ ⟨si,ba,fl,k,st,an,tg,tx,ks,_,rfl,rfl,hr0,ho0,by omega,?_⟩
   repeat apply Or.inl
   refine h11 d _ _ _ ⟨k,st,an,tg,tx,ks,_,rfl,rfl,hr0,ho0,by omega,?_⟩
   repeat apply Or.inl
   refine h23 d _ _ _ ⟨xX an tg,pZ S si ba fl st tg tx,rfl,rfl,hpc.2,fb.2,by omega,by omega,?_⟩
   intro _
   repeat apply Or.inl
   exact hQ
  ·have lst:(k=3∨k=4)→xU S si ba fl k st tg tx (qG S si ba ks)=xU S si ba false k st tg tx (qG S si ba ks):=fun q=>by unfold xU; rw [if_neg h,if_neg h,if_neg h',if_neg h']
   have ll:(k=3∨k=4)→(xU S si ba false k st tg tx (qG S si ba ks)).1≤2+50*fX ks:=fun q=>by
    unfold xU
    rw [if_neg h,if_neg h']
    rcases q with q | q
    ·rw [if_pos q]; simp only [xL]; omega
    ·rw [if_neg (by omega),if_pos q]; simp only [xL]; omega
   repeat apply Or.inl
   refine And.intro (fun q=>?_) (fun q=>?_)
   ·have l1:=ll (.inl q)
    rw [lst (.inl q)] at hQ fb
    repeat apply Or.inl
    refine h22 d _ _ _ ⟨si,ba,k,st,an,tg,tx,ks,_,rfl,rfl,hr0,.inl q,h4,h5,by omega,by omega,?_⟩
    repeat apply Or.inl
    refine h11 d _ _ _ ⟨k,st,an,tg,tx,ks,_,rfl,rfl,hr0,ho0,by omega,?_⟩
    repeat apply Or.inl
    refine h23 d _ _ _ ⟨xX an tg,_,rfl,rfl,hpc.2,fb.2,by omega,by omega,?_⟩
    intro _
    repeat apply Or.inl
    exact hQ
   ·repeat apply Or.inl
    refine And.intro (fun q'=>?_) (fun q'=>?_)
    ·have l1:=ll (.inr q')
     rw [lst (.inr q')] at hQ fb
     repeat apply Or.inl
     refine h22 d _ _ _ ⟨si,ba,k,st,an,tg,tx,ks,_,rfl,rfl,hr0,.inr q',h4,h5,by omega,by omega,?_⟩
     repeat apply Or.inl
     refine h11 d _ _ _ ⟨k,st,an,tg,tx,ks,_,rfl,rfl,hr0,ho0,by omega,?_⟩
     repeat apply Or.inl
     refine h23 d _ _ _ ⟨xX an tg,_,rfl,rfl,hpc.2,fb.2,by omega,by omega,?_⟩
     intro _
     repeat apply Or.inl
     exact hQ
    ·have eb:xU S si ba fl k st tg tx (qG S si ba ks)=(0,0):=by unfold xU; rw [if_neg h,if_neg h',if_neg q,if_neg q']
     rw [eb] at hQ
     repeat apply Or.inl
     refine h11 d _ _ _ ⟨k,st,an,tg,tx,ks,_,rfl,rfl,hr0,ho0,by omega,?_⟩
     repeat apply Or.inl
     refine h23 d _ _ _ ⟨xX an tg,(0,0),rfl,rfl,hpc.2,by decide,?_,by omega,?_⟩
     ·show (xX an tg).1+0+1≤MX; omega
     intro _
     repeat apply Or.inl
     exact hQ
end
section
variable {G:Nat→List SV→SV→Prop} {Γ:qE}
theorem jOm (S:Sc) (si ba:Bool) (k st:Int) (an tg tx:Tx) (ks:List Tq):itm S si ba (.mk k st an tg tx ks)=(if fS k st tx&&isE (xX an tg) then hU S si else yG S si ba (.mk k st an tg tx ks) true,
     eO k st tx (yG S si ba (.mk k st an tg tx ks) true),yG S si ba (.mk k st an tg tx ks) true):=by
  unfold itm; simp only [qG]; rfl
theorem p45 {S:Sc} (hS:ScR Γ S) (h24:∀ d l H Q,oY d l H Q→Γ d 24 l H Q) (h11:∀ d l H Q,jAc d l H Q→Γ d 11 l H Q) (h6:∀ d l H Q,jAd S d l H Q→Γ d 6 l H Q) (d:Nat) (l:List SV) (H:Hp) (Q:Q2) (h:jQk S (d+1) l H Q):wF (PT.C G) Γ LL d 45 g45 l H Q:=by
 obtain ⟨si,ba,t,row,rfl,rfl,hr,ho,hw,hd,hQ⟩:=h
 obtain ⟨k,st,an,tg,tx,ks⟩:=t
 rw [jOm] at hQ
 dsimp only at hQ
 have hr0:=hr
 simp only [isQ] at hr
 obtain ⟨n2,n3,w8,l8,w9,l9,b10,m11,v11,kr,rfl,_⟩:=hr
 have e1:MX=140737488355328:=rfl
 have hp:1≤wtQ (.mk k st an tg tx ks):=by simp only [wtQ]; omega
 have k1:=hS.ok.ll
 have k2:=hS.ok.ql (0,0) si qEc
 dsimp only at k2
 have nul:∀ (Q:Q2),Q (.s (hU S si).1 (hU S si).2) []→Q (.s (hU S si).1 (hU S si).2) []:=fun _ q=>q
 repeat apply Or.inl
 refine h24 d _ _ _ ⟨k,st,an,tg,tx,ks,_,rfl,rfl,hr0,by omega,?_⟩
 cases he:fS k st tx with
 | true=>
  rw [he,Bool.true_and] at hQ
  repeat apply Or.inl
  refine h11 d _ _ _ ⟨k,st,an,tg,tx,ks,_,rfl,rfl,hr0,ho,by omega,?_⟩
  repeat apply Or.inl
  intro _ _
  refine And.intro (fun h=>?_) (fun h=>?_)
  ·rw [pW h,if_pos rfl] at hQ
   refine hS.h71 d _ _ _ (by omega) qHm ?_
   intro _
   refine ⟨by omega,fun _ _=>?_⟩
   refine ⟨by omega,fun _ _=>?_⟩
   refine hS.h44 d _ _ _ _ (by omega) qEc ?_
   intro _
   refine ⟨by omega,fun _ _=>?_⟩
   repeat apply Or.inl
   exact hQ
  ·rw [pV h,if_neg (by simp)] at hQ
   repeat apply Or.inl
   refine h6 d _ _ _ ⟨si,ba,true,_,_,rfl,rfl,hr0,ho,hw,by omega,?_⟩
   repeat apply Or.inl
   exact hQ
 | false=>
  rw [he,Bool.false_and,if_neg (by simp)] at hQ
  repeat apply Or.inl
  refine h6 d _ _ _ ⟨si,ba,true,_,_,rfl,rfl,hr0,ho,hw,by omega,?_⟩
  repeat apply Or.inl
  exact hQ
theorem p47 {S:Sc} (hS:ScR Γ S) (h9:∀ d l H Q,jXb S d l H Q→Γ d 9 l H Q) (h23:∀ d l H Q,nF d l H Q→Γ d 23 l H Q) (h6:∀ d l H Q,jAd S d l H Q→Γ d 6 l H Q) (d:Nat) (l:List SV) (H:Hp) (Q:Q2) (h:jHe S (d+1) l H Q):wF (PT.C G) Γ LL d 47 g47 l H Q:=by
 obtain ⟨si,ba,t,u,row,row',rfl,rfl,hr,hu,ho,hou,hw,hd,hQ⟩:=h
 obtain ⟨k,st,an,tg,tx,ks⟩:=t
 obtain ⟨k',st',an',tg',tx',ks'⟩:=u
 rw [jOm,jOm] at hQ
 dsimp only at hQ
 have hr0:=hr
 have hu0:=hu
 simp only [isQ] at hr hu
 obtain ⟨n2,n3,w8,l8,w9,l9,b10,m11,v11,kr,rfl,_⟩:=hr
 obtain ⟨n2',n3',w8',l8',w9',l9',b10',m11',v11',kr',rfl,_⟩:=hu
 have e1:MX=140737488355328:=rfl
 have l1:=kZ hS.ok si ba (.mk k st an tg tx ks) true ho
 have l2:=kZ hS.ok si ba (.mk k' st' an' tg' tx' ks') true hou
 have f1:=kM hS.ok si ba (.mk k st an tg tx ks) true ho
 have f2:=kM hS.ok si ba (.mk k' st' an' tg' tx' ks') true hou
 have f3:=jKn (k:=k) (st:=st) (tx:=tx) f1
 have l3:=jRt k st tx (yG S si ba (.mk k st an tg tx ks) true)
 repeat apply Or.inl
 refine h9 d _ _ _ ⟨si,ba,true,k,st,an,tg,tx,ks,_,rfl,rfl,hr0,ho,by omega,by omega,?_⟩
 repeat apply Or.inl
 refine h6 d _ _ _ ⟨si,ba,true,_,_,rfl,rfl,hu0,hou,by omega,by omega,?_⟩
 refine h23 d _ _ _ ⟨_,_,rfl,rfl,f3.2,f2.2,by omega,by omega,?_⟩
 intro _
 repeat apply Or.inl
 exact hQ
end
end
end Go.Proofs.YtngfdcnglojcaaaGreatDoor.Ev.Fb
end
section
set_option linter.all false
namespace Go.Proofs.YtngfdcnglojcaaaGreatDoor.Ev.Fb
noncomputable section
open Go Ev Rf
set_option maxRecDepth 2000
set_option maxHeartbeats 4000000
section
variable {G:Nat→List SV→SV→Prop} {Γ:qE}
theorem p43 {S:Sc} (hS:ScR Γ S) (d:Nat) (l:List SV) (H:Hp) (Q:Q2) (h:jHf S (d+1) l H Q):wF (PT.C G) Γ LL d 43 g43 l H Q:=by
 obtain ⟨si,ba,fl,k,st,an,tg,tx,ks,row,rfl,rfl,hr,ho,hd,hQ⟩:=h
 simp only [isQ] at hr
 obtain ⟨n2,n3,w8,l8,w9,l9,b10,m11,v11,kr,rfl,_⟩:=hr
 simp only [okQ] at ho
 obtain ⟨⟨_,_,h3⟩,_⟩:=ho
 have e0:((tx.1,tx.2):Tx)=tx:=rfl
 unfold jDe at hQ
 repeat apply Or.inl
 refine hS.h68 d _ _ _ _ (by omega) h3 ?_
 intro _
 by_cases q1:st=1
 ·subst q1
  simp only [decide_true,Bool.true_and,Bool.not_true,Bool.false_and,Bool.and_false] at hQ
  repeat apply Or.inl
  refine And.intro (fun _=>?_) (fun _=>?_)<;>first | (exfalso; omega) | skip
  repeat apply Or.inl
  refine And.intro (fun _=>?_) (fun _=>?_)<;>first | (exfalso; omega) | skip
  repeat apply Or.inl
  refine And.intro (fun _=>?_) (fun _=>?_)<;>first | (exfalso; omega) | skip
  repeat apply Or.inl
  intro _ _
  refine And.intro (fun h=>?_) (fun h=>?_)
  ·rw [pW h,Bool.true_or,if_pos rfl] at hQ
   repeat apply Or.inl
   exact hQ
  ·rw [pV h,Bool.false_or] at hQ
   cases hp:S.pl (tx.1,tx.2) fl with
   | true=>
    rw [e0] at hp
    rw [hp,if_pos rfl] at hQ
    repeat apply Or.inl
    exact hQ
   | false=>
    rw [e0] at hp
    rw [hp,if_neg (by simp),if_neg (by simp)] at hQ
    cases ba with
    | true=>
     repeat apply Or.inl
     refine And.intro (fun _=>?_) (fun _=>?_)<;>first | (exfalso; omega) | skip
     cases si with
     | true=>
      repeat apply Or.inl
      refine hS.h72 d _ _ _ (by omega) h3 ?_
      intro _
      rw [Bool.true_and] at hQ
      cases hs:S.sg (tx.1,tx.2) with
      | true=>rw [e0] at hs; rw [hs,if_pos rfl] at hQ; (repeat apply Or.inl); exact hQ
      | false=>rw [e0] at hs; rw [hs,if_neg (by simp)] at hQ; (repeat apply Or.inl); exact hQ
     | false=>rw [Bool.false_and,if_neg (by simp)] at hQ; (repeat apply Or.inl); exact hQ
    | false=>
     cases si with
     | true=>
      repeat apply Or.inl
      refine hS.h72 d _ _ _ (by omega) h3 ?_
      intro _
      rw [Bool.true_and] at hQ
      cases hs:S.sg (tx.1,tx.2) with
      | true=>rw [e0] at hs; rw [hs,if_pos rfl] at hQ; (repeat apply Or.inl); exact hQ
      | false=>rw [e0] at hs; rw [hs,if_neg (by simp)] at hQ; (repeat apply Or.inl); exact hQ
     | false=>rw [Bool.false_and,if_neg (by simp)] at hQ; (repeat apply Or.inl); exact hQ
 ·simp only [decide_eq_false q1,Bool.false_and,Bool.not_false,Bool.true_and,if_neg (show ¬ (false=true) by simp)] at hQ
  by_cases q4:st=4
  ·repeat apply Or.inl
   refine And.intro (fun _=>?_) (fun _=>?_)<;>first | (exfalso; omega) | skip
   repeat apply Or.inl
   refine And.intro (fun _=>?_) (fun _=>?_)<;>first | (exfalso; omega) | skip
   cases ba with
   | false=>
    rw [Bool.false_and,if_neg (by simp)] at hQ
    cases si with
    | true=>
     repeat apply Or.inl
     refine hS.h72 d _ _ _ (by omega) h3 ?_
     intro _
     rw [Bool.true_and] at hQ
     cases hs:S.sg (tx.1,tx.2) with
     | true=>rw [e0] at hs; rw [hs,if_pos rfl] at hQ; (repeat apply Or.inl); exact hQ
     | false=>rw [e0] at hs; rw [hs,if_neg (by simp)] at hQ; (repeat apply Or.inl); exact hQ
    | false=>rw [Bool.false_and,if_neg (by simp)] at hQ; (repeat apply Or.inl); exact hQ
   | true=>
    rw [Bool.true_and] at hQ
    repeat apply Or.inl
    refine And.intro (fun _=>?_) (fun _=>?_)<;>first | (exfalso; omega) | skip
    repeat apply Or.inl
    intro _ _
    refine And.intro (fun h=>?_) (fun h=>?_)
    ·rw [pW h,Bool.true_and] at hQ
     cases hp:S.pl (tx.1,tx.2) fl with
     | false=>
      rw [e0] at hp
      rw [hp,Bool.false_and,if_neg (by simp)] at hQ
      cases si with
      | true=>
       repeat apply Or.inl
       refine hS.h72 d _ _ _ (by omega) h3 ?_
       intro _
       rw [Bool.true_and] at hQ
       cases hs:S.sg (tx.1,tx.2) with
       | true=>rw [e0] at hs; rw [hs,if_pos rfl] at hQ; (repeat apply Or.inl); exact hQ
       | false=>rw [e0] at hs; rw [hs,if_neg (by simp)] at hQ; (repeat apply Or.inl); exact hQ
      | false=>rw [Bool.false_and,if_neg (by simp)] at hQ; (repeat apply Or.inl); exact hQ
     | true=>
      rw [e0] at hp
      rw [hp,Bool.true_and] at hQ
      repeat apply Or.inl
      refine hS.h70 d _ _ _ (by omega) h3 ?_
      intro _
      refine hS.h71 d _ _ _ (by omega) jZn ?_
      intro _
      intro _ _
      refine And.intro (fun h=>?_) (fun h=>?_)
      ·rw [decide_eq_true (Prod.ext h.1 h.2),if_pos rfl] at hQ
       repeat apply Or.inl
       exact hQ
      ·rw [decide_eq_false (fun e=>h ⟨congrArg Prod.fst e,congrArg Prod.snd e⟩),if_neg (by simp)] at hQ
       cases si with
       | true=>
        repeat apply Or.inl
        refine hS.h72 d _ _ _ (by omega) h3 ?_
        intro _
        rw [Bool.true_and] at hQ
        cases hs:S.sg (tx.1,tx.2) with
        | true=>rw [e0] at hs; rw [hs,if_pos rfl] at hQ; (repeat apply Or.inl); exact hQ
        | false=>rw [e0] at hs; rw [hs,if_neg (by simp)] at hQ; (repeat apply Or.inl); exact hQ
       | false=>rw [Bool.false_and,if_neg (by simp)] at hQ; (repeat apply Or.inl); exact hQ
    ·rw [pV h,Bool.false_and,if_neg (by simp)] at hQ
     cases si with
     | true=>
      repeat apply Or.inl
      refine hS.h72 d _ _ _ (by omega) h3 ?_
      intro _
      rw [Bool.true_and] at hQ
      cases hs:S.sg (tx.1,tx.2) with
      | true=>rw [e0] at hs; rw [hs,if_pos rfl] at hQ; (repeat apply Or.inl); exact hQ
      | false=>rw [e0] at hs; rw [hs,if_neg (by simp)] at hQ; (repeat apply Or.inl); exact hQ
     | false=>rw [Bool.false_and,if_neg (by simp)] at hQ; (repeat apply Or.inl); exact hQ
  ·by_cases q5:st=5
   ·repeat apply Or.inl
    refine And.intro (fun _=>?_) (fun _=>?_)<;>first | (exfalso; omega) | skip
    repeat apply Or.inl
    refine And.intro (fun _=>?_) (fun _=>?_)<;>first | (exfalso; omega) | skip
    repeat apply Or.inl
    refine And.intro (fun _=>?_) (fun _=>?_)<;>first | (exfalso; omega) | skip
    cases ba with
    | false=>
     rw [Bool.false_and,if_neg (by simp)] at hQ
     cases si with
     | true=>
      repeat apply Or.inl
      refine hS.h72 d _ _ _ (by omega) h3 ?_
      intro _
      rw [Bool.true_and] at hQ
      cases hs:S.sg (tx.1,tx.2) with
      | true=>rw [e0] at hs; rw [hs,if_pos rfl] at hQ; (repeat apply Or.inl); exact hQ
      | false=>rw [e0] at hs; rw [hs,if_neg (by simp)] at hQ; (repeat apply Or.inl); exact hQ
     | false=>rw [Bool.false_and,if_neg (by simp)] at hQ; (repeat apply Or.inl); exact hQ
    | true=>
     rw [Bool.true_and] at hQ
     repeat apply Or.inl
     refine And.intro (fun _=>?_) (fun _=>?_)<;>first | (exfalso; omega) | skip
     repeat apply Or.inl
     intro _ _
     refine And.intro (fun h=>?_) (fun h=>?_)
     ·rw [pW h,Bool.true_and] at hQ
      cases hp:S.pl (tx.1,tx.2) fl with
      | false=>
       rw [e0] at hp
       rw [hp,Bool.false_and,if_neg (by simp)] at hQ
       cases si with
       | true=>
        repeat apply Or.inl
        refine hS.h72 d _ _ _ (by omega) h3 ?_
        intro _
        rw [Bool.true_and] at hQ
        cases hs:S.sg (tx.1,tx.2) with
        | true=>rw [e0] at hs; rw [hs,if_pos rfl] at hQ; (repeat apply Or.inl); exact hQ
        | false=>rw [e0] at hs; rw [hs,if_neg (by simp)] at hQ; (repeat apply Or.inl); exact hQ
       | false=>rw [Bool.false_and,if_neg (by simp)] at hQ; (repeat apply Or.inl); exact hQ
      | true=>
       rw [e0] at hp
       rw [hp,Bool.true_and] at hQ
       repeat apply Or.inl
       refine hS.h70 d _ _ _ (by omega) h3 ?_
       intro _
       refine hS.h71 d _ _ _ (by omega) jZn ?_
       intro _
       intro _ _
       refine And.intro (fun h=>?_) (fun h=>?_)
       ·rw [decide_eq_true (Prod.ext h.1 h.2),if_pos rfl] at hQ
        repeat apply Or.inl
        exact hQ
       ·rw [decide_eq_false (fun e=>h ⟨congrArg Prod.fst e,congrArg Prod.snd e⟩),if_neg (by simp)] at hQ
        cases si with
        | true=>
         repeat apply Or.inl
         refine hS.h72 d _ _ _ (by omega) h3 ?_
         intro _
         rw [Bool.true_and] at hQ
         cases hs:S.sg (tx.1,tx.2) with
         | true=>rw [e0] at hs; rw [hs,if_pos rfl] at hQ; (repeat apply Or.inl); exact hQ
         | false=>rw [e0] at hs; rw [hs,if_neg (by simp)] at hQ; (repeat apply Or.inl); exact hQ
        | false=>rw [Bool.false_and,if_neg (by simp)] at hQ; (repeat apply Or.inl); exact hQ
     ·rw [pV h,Bool.false_and,if_neg (by simp)] at hQ
      cases si with
      | true=>
       repeat apply Or.inl
       refine hS.h72 d _ _ _ (by omega) h3 ?_
       intro _
       rw [Bool.true_and] at hQ
       cases hs:S.sg (tx.1,tx.2) with
       | true=>rw [e0] at hs; rw [hs,if_pos rfl] at hQ; (repeat apply Or.inl); exact hQ
       | false=>rw [e0] at hs; rw [hs,if_neg (by simp)] at hQ; (repeat apply Or.inl); exact hQ
      | false=>rw [Bool.false_and,if_neg (by simp)] at hQ; (repeat apply Or.inl); exact hQ
   ·repeat apply Or.inl
    refine And.intro (fun _=>?_) (fun _=>?_)<;>first | (exfalso; omega) | skip
    repeat apply Or.inl
    refine And.intro (fun _=>?_) (fun _=>?_)<;>first | (exfalso; omega) | skip
    repeat apply Or.inl
    refine And.intro (fun _=>?_) (fun _=>?_)<;>first | (exfalso; omega) | skip
    cases ba with
    | false=>
     rw [Bool.false_and,if_neg (by simp)] at hQ
     cases si with
     | true=>
      repeat apply Or.inl
      refine hS.h72 d _ _ _ (by omega) h3 ?_
      intro _
      rw [Bool.true_and] at hQ
      cases hs:S.sg (tx.1,tx.2) with
      | true=>rw [e0] at hs; rw [hs,if_pos rfl] at hQ; (repeat apply Or.inl); exact hQ
      | false=>rw [e0] at hs; rw [hs,if_neg (by simp)] at hQ; (repeat apply Or.inl); exact hQ
     | false=>rw [Bool.false_and,if_neg (by simp)] at hQ; (repeat apply Or.inl); exact hQ
    | true=>
     rw [Bool.true_and] at hQ
     repeat apply Or.inl
     refine And.intro (fun _=>?_) (fun _=>?_)<;>first | (exfalso; omega) | skip
     repeat apply Or.inl
     intro _ _
     refine And.intro (fun h=>?_) (fun h=>?_)
     ·rw [pW h,Bool.true_and] at hQ
      cases hp:S.pl (tx.1,tx.2) fl with
      | false=>
       rw [e0] at hp
       rw [hp,Bool.false_and,if_neg (by simp)] at hQ
       cases si with
       | true=>
        repeat apply Or.inl
        refine hS.h72 d _ _ _ (by omega) h3 ?_
        intro _
        rw [Bool.true_and] at hQ
        cases hs:S.sg (tx.1,tx.2) with
        | true=>rw [e0] at hs; rw [hs,if_pos rfl] at hQ; (repeat apply Or.inl); exact hQ
        | false=>rw [e0] at hs; rw [hs,if_neg (by simp)] at hQ; (repeat apply Or.inl); exact hQ
       | false=>rw [Bool.false_and,if_neg (by simp)] at hQ; (repeat apply Or.inl); exact hQ
      | true=>
       rw [e0] at hp
       rw [hp,Bool.true_and] at hQ
       repeat apply Or.inl
       refine hS.h70 d _ _ _ (by omega) h3 ?_
       intro _
       refine hS.h71 d _ _ _ (by omega) jZn ?_
       intro _
       intro _ _
       refine And.intro (fun h=>?_) (fun h=>?_)
       ·rw [decide_eq_true (Prod.ext h.1 h.2),if_pos rfl] at hQ
        repeat apply Or.inl
        exact hQ
       ·rw [decide_eq_false (fun e=>h ⟨congrArg Prod.fst e,congrArg Prod.snd e⟩),if_neg (by simp)] at hQ
        cases si with
        | true=>
         repeat apply Or.inl
         refine hS.h72 d _ _ _ (by omega) h3 ?_
         intro _
         rw [Bool.true_and] at hQ
         cases hs:S.sg (tx.1,tx.2) with
         | true=>rw [e0] at hs; rw [hs,if_pos rfl] at hQ; (repeat apply Or.inl); exact hQ
         | false=>rw [e0] at hs; rw [hs,if_neg (by simp)] at hQ; (repeat apply Or.inl); exact hQ
        | false=>rw [Bool.false_and,if_neg (by simp)] at hQ; (repeat apply Or.inl); exact hQ
     ·rw [pV h,Bool.false_and,if_neg (by simp)] at hQ
      cases si with
      | true=>
       repeat apply Or.inl
       refine hS.h72 d _ _ _ (by omega) h3 ?_
       intro _
       rw [Bool.true_and] at hQ
       cases hs:S.sg (tx.1,tx.2) with
       | true=>rw [e0] at hs; rw [hs,if_pos rfl] at hQ; (repeat apply Or.inl); exact hQ
       | false=>rw [e0] at hs; rw [hs,if_neg (by simp)] at hQ; (repeat apply Or.inl); exact hQ
      | false=>rw [Bool.false_and,if_neg (by simp)] at hQ; (repeat apply Or.inl); exact hQ
end
end
end Go.Proofs.YtngfdcnglojcaaaGreatDoor.Ev.Fb
end
