/-
Trees of nodes: kind, style, anchor, tag, text, kids; what the contents of a call's result are; how a node is told in one row. No program is named here.
-/
import Derived.Test.YtdlhiljbhepliaaGreatDoorEvN
import Derived.Test.YtdlhiljbhepliaaGreatDoorLg
import Derived.Test.YtdlhiljbhepliaaGreatDoorRv
namespace Go.Proofs.YtdlhiljbhepliaaGreatDoor.Ev.Fb
noncomputable section
set_option linter.all false
open Go Ev
abbrev Tx:=Nat×Nat
inductive Tq where
 | mk (k st:Int) (an tg tx:Tx) (ks:List Tq)
mutual
def isQ:Tq→List Nd→Prop
 | .mk k st an tg tx ks,row=>∃ n2 n3 w8 l8 w9 l9 b m v kr,row=[.i .i64 k,.i .i64 st,.i .i64 n2,.i .i64 n3,.s an.1 an.2,.s tg.1 tg.2,.s tx.1 tx.2,.q 12 kr,.q w8 l8,.q w9 l9,.b b,.s m v]∧eU ks kr
def eU:List Tq→List (List Nd)→Prop
 | [],l=>l=[]
 | t::ts,l=>∃ r rs,l=r::rs∧isQ t r∧eU ts rs
end
def qPl (t:Tq) (row:List Nd):Prop:=∃ a b c rt z,row=a::b::c::(rt++[z])∧isQ t rt
def qCi:List Tq→List (List Nd)→Prop
 | [],l=>l=[]
 | d::ds,l=>∃ r rs,l=r::rs∧qPl d r∧qCi ds rs
mutual
def wtQ:Tq→Nat
 | .mk k st an tg tx ks=>1+(an.1+(tg.1+(tx.1+dW ks)))
def dW:List Tq→Nat
 | []=>0
 | t::ts=>wtQ t+dW ts
end
def okP (p:Tx):Prop:=p.1≤TB∧p.2<256^p.1
mutual
def okQ:Tq→Prop
 | .mk k st an tg tx ks=>(okP an∧okP tg∧okP tx)∧(nlP an.1 an.2∧nlP tg.1 tg.2∧(k=2→nlP tx.1 tx.2))∧ks.length≤NB∧jAy ks
def jAy:List Tq→Prop
 | []=>True
 | t::ts=>okQ t∧jAy ts
end
structure Kq (C:Cx):Prop where
 c1:∀ r,C.ct 1 r=[.i .i64,.i .i64,.i .i64,.i .i64,.t (r - 1),.t (r - 1),.t (r - 1),.q 1 (r - 1),.q 0 (r - 1),.q 0 (r - 1),.b,.s 0]
 c3:∀ r,C.ct 3 r=[.q 0 (r - 1),.q 4 0,.b,.i .i64,.i .i64,.i .i64,.i .i64,.t (r - 1),.t (r - 1),.t (r - 1),.q 1 (r - 1),.q 0 (r - 1),.q 0 (r - 1),.b,.s 0,.q 0 (r - 1)]
 o1:C.co 1=1
 o3:C.co 3=1
 p1:∀ f,C.rp 1 f→(∀ n v,f 4 = .s n v→nlP n v)∧(∀ n v,f 5 = .s n v→nlP n v)∧∀ k,f 0 = .i k 2→∀ n v,f 6 = .s n v→nlP n v
 p3:∀ f,C.rp 3 f→(∀ n v,f 7 = .s n v→nlP n v)∧(∀ n v,f 8 = .s n v→nlP n v)∧∀ k,f 3 = .i k 2→∀ n v,f 9 = .s n v→nlP n v
section
variable {C:Cx}
theorem jY {T j x:Nat} {c:Nd} {l:List Nd} (h:jOf C T j (c::l) x):∃ y x',y+x'≤x∧(∃ t,(C.ct T (C.co T+y))[j]?=some t∧ndT C c t)∧jOf C T (j+1) l x':=by rw [jOf] at h; exact h
theorem jOg {c:Nd} {k:IntKind} (h:ndT C c (.i k)):∃ n,c = .i k n:=by
 cases c with
 | i k' n=>simp only [ndT] at h; cases h; exact ⟨_,rfl⟩
 | b x=>simp only [ndT] at h; cases h
 | s n u=>simp only [ndT] at h; rcases h with ⟨m,e,_⟩ | ⟨m,e,_⟩<;>cases e
 | q w l=>obtain ⟨T,r,e,_⟩:=iA.1 h; cases e
theorem jYr {c:Nd} {m:Nat} (h:ndT C c (.t m)):∃ n u,c = .s n u∧n≤m∧n≤TB∧u<256^n:=by
 cases c with
 | i k' n=>simp only [ndT] at h; cases h
 | b x=>simp only [ndT] at h; cases h
 | s n u=>
  simp only [ndT] at h;rcases h with ⟨m',e,_⟩ | ⟨m',e,h1,h2⟩
  ·cases e
  ·cases e; exact ⟨_,_,rfl,h1.1,h1.2,h2⟩
 | q w l=>obtain ⟨T,r,e,_⟩:=iA.1 h; cases e
theorem jEd {c:Nd} {T r:Nat} (h:ndT C c (.q T r)):∃ l,c = .q (jP (C.ct T 0)) l∧l.length≤NB∧nZ C T l r:=by
 cases c with
 | i k' n=>simp only [ndT] at h; cases h
 | b x=>simp only [ndT] at h; cases h
 | s n u=>simp only [ndT] at h; rcases h with ⟨m,e,_⟩ | ⟨m,e,_⟩<;>cases e
 | q w l=>obtain ⟨T,r,e,h1,h2,h3⟩:=iA.1 h; cases e; exact ⟨_,by rw [h1],h2,h3⟩
theorem qPp {c:Nd} (h:ndT C c .b):∃ x,c = .b x:=by
 cases c with
 | i k' n=>simp only [ndT] at h; cases h
 | b x=>exact ⟨_,rfl⟩
 | s n u=>simp only [ndT] at h; rcases h with ⟨m,e,_⟩ | ⟨m,e,_⟩<;>cases e
 | q w l=>obtain ⟨T,r,e,_⟩:=iA.1 h; cases e
theorem qPq {c:Nd} {m:Nat} (h:ndT C c (.s m)):∃ n u,c = .s n u:=by
 cases c with
 | i k' n=>simp only [ndT] at h; cases h
 | b x=>simp only [ndT] at h; cases h
 | s n u=>exact ⟨_,_,rfl⟩
 | q w l=>obtain ⟨T,r,e,_⟩:=iA.1 h; cases e
theorem qPm {c:List Nd} (h:c.length=12):∃ c0 c1 c2 c3 c4 c5 c6 c7 c8 c9 c10 c11,c=[c0,c1,c2,c3,c4,c5,c6,c7,c8,c9,c10,c11]:=by
 match c,h with
 | [c0,c1,c2,c3,c4,c5,c6,c7,c8,c9,c10,c11],_=>exact ⟨c0,c1,c2,c3,c4,c5,c6,c7,c8,c9,c10,c11,rfl⟩
theorem qPn {c:List Nd} (h:c.length=16):∃ c0 c1 c2 c3 c4 c5 c6 c7 c8 c9 c10 c11 c12 c13 c14 c15,c=[c0,c1,c2,c3,c4,c5,c6,c7,c8,c9,c10,c11,c12,c13,c14,c15]:=by
 match c,h with
 | [c0,c1,c2,c3,c4,c5,c6,c7,c8,c9,c10,c11,c12,c13,c14,c15],_=>exact ⟨c0,c1,c2,c3,c4,c5,c6,c7,c8,c9,c10,c11,c12,c13,c14,c15,rfl⟩
set_option maxRecDepth 4000 in
theorem qPo (hC:Kq C):∀ (r:Nat) (l:List (List Nd)),nZ C 1 l r→∃ ts,eU ts l∧ts.length=l.length∧dW ts≤r∧jAy ts:=by
 intro r
 induction r using Nat.strongRecOn with
 | ind r ih=>
 intro l h
 match l,h with
 | [],_=>exact ⟨[],by simp only [eU],rfl,by simp [dW],by simp only [jAy]⟩
 | c::l,h=>
 simp only [nZ] at h;obtain ⟨x,r',hx,⟨hl,h⟩,hrp,h4⟩:=h;rw [hC.o1] at hx;rw [hC.c1] at hl;obtain ⟨ts,g1,g2,g3,g4⟩:=ih r' (by omega) l h4
 obtain ⟨c0,c1,c2,c3,c4,c5,c6,c7,c8,c9,c10,c11,rfl⟩:=qPm hl;obtain ⟨y0,x0,s0,⟨t0,e0,n0⟩,h⟩:=jY h;obtain ⟨y1,x1,s1,⟨t1,e1,n1⟩,h⟩:=jY h;obtain ⟨y2,x2,s2,⟨t2,e2,n2⟩,h⟩:=jY h;obtain ⟨y3,x3,s3,⟨t3,e3,n3⟩,h⟩:=jY h;obtain ⟨y4,x4,s4,⟨t4,e4,n4⟩,h⟩:=jY h;obtain ⟨y5,x5,s5,⟨t5,e5,n5⟩,h⟩:=jY h;obtain ⟨y6,x6,s6,⟨t6,e6,n6⟩,h⟩:=jY h;obtain ⟨y7,x7,s7,⟨t7,e7,n7⟩,h⟩:=jY h;obtain ⟨y8,x8,s8,⟨t8,e8,n8⟩,h⟩:=jY h;obtain ⟨y9,x9,s9,⟨t9,e9,n9⟩,h⟩:=jY h;obtain ⟨y10,x10,s10,⟨t10,e10,n10⟩,h⟩:=jY h;obtain ⟨y11,x11,s11,⟨t11,e11,n11⟩,h⟩:=jY h;rw [hC.o1,hC.c1] at e0 e1 e2 e3 e4 e5 e6 e7 e8 e9 e10 e11;simp at e0 e1 e2 e3 e4 e5 e6 e7 e8 e9 e10 e11;subst e0; subst e1; subst e2; subst e3; subst e4; subst e5; subst e6; subst e7; subst e8; subst e9; subst e10; subst e11;obtain ⟨z2,rfl⟩:=jOg n2;obtain ⟨z3,rfl⟩:=jOg n3;obtain ⟨l8,rfl,_⟩:=jEd n8;obtain ⟨l9,rfl,_⟩:=jEd n9;obtain ⟨z10,rfl⟩:=qPp n10;obtain ⟨z11,u11,rfl⟩:=qPq n11;obtain ⟨z0,rfl⟩:=jOg n0;obtain ⟨z1,rfl⟩:=jOg n1;obtain ⟨z4,u4,rfl,m4,b4,v4⟩:=jYr n4;obtain ⟨z5,u5,rfl,m5,b5,v5⟩:=jYr n5;obtain ⟨z6,u6,rfl,m6,b6,v6⟩:=jYr n6;obtain ⟨l7,rfl,b7,r7⟩:=jEd n7;obtain ⟨ks,a1,a2,a3,a4⟩:=ih y7 (by omega) l7 r7
 obtain ⟨p4,p5,p6⟩:=hC.p1 _ hrp;rw [hC.c1];refine ⟨.mk z0 z1 (z4,u4) (z5,u5) (z6,u6) ks::ts,by simp only [eU,isQ]; exact ⟨_,_,rfl,⟨_,_,_,_,_,_,_,_,_,_,rfl,a1⟩,g1⟩,by simp [g2],by simp only [dW,wtQ]; omega,?_⟩
 simp only [jAy,okQ];exact ⟨⟨⟨⟨b4,v4⟩,⟨b5,v5⟩,⟨b6,v6⟩⟩,⟨p4 _ _ rfl,p5 _ _ rfl,fun e=>by subst e; exact p6 _ rfl _ _ rfl⟩,by omega,a4⟩,g4⟩
set_option maxRecDepth 4000 in
theorem qCv (hC:Kq C):∀ {l:List (List Nd)} {r:Nat},nZ C 3 l r→∃ ds,qCi ds l∧ds.length=l.length∧(∀ t,t∈ds→wtQ t≤r∧okQ t)
 | [],r,h=>⟨[],rfl,rfl,fun t ht=>by cases ht⟩
 | c::l,r,h=>by
  simp only [nZ] at h;obtain ⟨x,r',hx,⟨hl,h⟩,hrp,h4⟩:=h;rw [hC.o3] at hx;rw [hC.c3] at hl;obtain ⟨ds,g1,g2,g3⟩:=qCv hC h4;obtain ⟨c0,c1,c2,c3,c4,c5,c6,c7,c8,c9,c10,c11,c12,c13,c14,c15,rfl⟩:=qPn hl;obtain ⟨y0,x0,s0,_,h⟩:=jY h;obtain ⟨y1,x1,s1,_,h⟩:=jY h;obtain ⟨y2,x2,s2,_,h⟩:=jY h;obtain ⟨y3,x3,s3,⟨t3,e3,n3⟩,h⟩:=jY h;obtain ⟨y4,x4,s4,⟨t4,e4,n4⟩,h⟩:=jY h;obtain ⟨y5,x5,s5,⟨t5,e5,n5⟩,h⟩:=jY h;obtain ⟨y6,x6,s6,⟨t6,e6,n6⟩,h⟩:=jY h;obtain ⟨y7,x7,s7,⟨t7,e7,n7⟩,h⟩:=jY h;obtain ⟨y8,x8,s8,⟨t8,e8,n8⟩,h⟩:=jY h;obtain ⟨y9,x9,s9,⟨t9,e9,n9⟩,h⟩:=jY h;obtain ⟨y10,x10,s10,⟨t10,e10,n10⟩,h⟩:=jY h;obtain ⟨y11,x11,s11,⟨t11,e11,n11⟩,h⟩:=jY h;obtain ⟨y12,x12,s12,⟨t12,e12,n12⟩,h⟩:=jY h;obtain ⟨y13,x13,s13,⟨t13,e13,n13⟩,h⟩:=jY h;obtain ⟨y14,x14,s14,⟨t14,e14,n14⟩,h⟩:=jY h;rw [hC.o3,hC.c3] at e3 e4 e5 e6 e7 e8 e9 e10 e11 e12 e13 e14;simp at e3 e4 e5 e6 e7 e8 e9 e10 e11 e12 e13 e14;subst e3; subst e4; subst e5; subst e6; subst e7; subst e8; subst e9; subst e10; subst e11; subst e12; subst e13; subst e14;obtain ⟨z5,rfl⟩:=jOg n5;obtain ⟨z6,rfl⟩:=jOg n6;obtain ⟨l11,rfl,_⟩:=jEd n11;obtain ⟨l12,rfl,_⟩:=jEd n12;obtain ⟨z13,rfl⟩:=qPp n13;obtain ⟨z14,u14,rfl⟩:=qPq n14;obtain ⟨z3,rfl⟩:=jOg n3;obtain ⟨z4,rfl⟩:=jOg n4;obtain ⟨z7,u7,rfl,m7,b7,v7⟩:=jYr n7;obtain ⟨z8,u8,rfl,m8,b8,v8⟩:=jYr n8;obtain ⟨z9,u9,rfl,m9,b9,v9⟩:=jYr n9;obtain ⟨l10,rfl,b10,r10⟩:=jEd n10;obtain ⟨ks,a1,a2,a3,a4⟩:=qPo hC _ _ r10;obtain ⟨p4,p5,p6⟩:=hC.p3 _ hrp;rw [hC.c1];refine ⟨.mk z3 z4 (z7,u7) (z8,u8) (z9,u9) ks::ds,⟨_,_,rfl,⟨c0,c1,c2,[_,_,_,_,_,_,_,_,_,_,_,_],c15,rfl,?_⟩,g1⟩,by simp [g2],fun t ht=>?_⟩
  ·simp only [isQ];exact ⟨_,_,_,_,_,_,_,_,_,_,rfl,a1⟩
  ·rcases List.mem_cons.1 ht with rfl | ht
   ·refine ⟨by simp only [wtQ]; omega,?_⟩
    simp only [okQ];exact ⟨⟨⟨b7,v7⟩,⟨b8,v8⟩,⟨b9,v9⟩⟩,⟨p4 _ _ rfl,p5 _ _ rfl,fun e=>by subst e; exact p6 _ rfl _ _ rfl⟩,by omega,a4⟩
   ·obtain ⟨q1,q2⟩:=g3 t ht;exact ⟨by omega,q2⟩
end
def jX (a b:Tx):Tx:=(a.1+b.1,a.2+b.2*256^a.1)
def isE (a:Tx):Bool:=decide (a.1=0∧a.2=0)
def zT (a b:Tx):Tx:=if isE a||isE b then jX a b else jX (jX a (1,32)) b
def jM:List Tx→Tx
 | []=>(0,0)
 | [a]=>a
 | a::b::r=>jX (jX a (2,8236)) (jM (b::r))
structure Sc where
 qt:Tx→Bool→Tx
 pl:Tx→Bool→Bool
 sg:Tx→Bool
 tg:Tx→Tx
 lg:Tx→Tx
def qO (an tg:Tx):Tx:=zT (if isE an then an else jX (1,38) an) tg
def kK (k st:Int) (tx:Tx):Bool:=decide (k=1)&&(decide (st=1)&&isE tx)
def mY (S:Sc) (si ba fl:Bool) (st:Int) (tg tx:Tx):Int:=
 if decide (st=1)&&(isE tx||S.pl tx fl) then 1
 else if ba&&(!decide (st=1)&&(isE tg&&(S.pl tx fl&&decide (S.tg tx=S.lg (3,7500915))))) then 1
 else if si&&S.sg tx then 2 else 3
def fM (S:Sc) (si ba fl:Bool) (st:Int) (tg tx:Tx):Tx:=if mY S si ba fl st tg tx=1 then tx else S.qt tx (decide (mY S si ba fl st tg tx=2))
def dJ (S:Sc) (si:Bool):Tx:=jX (jX (jX (2,15393) (S.lg (4,1819047278))) (2,8254)) (S.qt (0,0) si)
def sT (k st:Int) (tx s:Tx):Tx:=jX (if decide (k=2)||(kK k st tx && !isE s) then jX s (1,32) else s) (1,58)
def uO:List (Tx×Tx×Tx)→List Tx
 | a::b::r=>zT a.2.1 b.2.2::uO r
 | _=>[]
def zZ (S:Sc) (si ba fl:Bool) (k st:Int) (tg tx:Tx) (l:List (Tx×Tx×Tx)):Tx:=
 if k=2 then jX (1,42) tx else if k=1 then fM S si ba fl st tg tx
 else if k=3 then jX (jX (1,91) (jM (l.map (·.1)))) (1,93)
 else if k=4 then jX (jX (1,123) (jM (uO l))) (1,125) else (0,0)
mutual
def zG (S:Sc) (si ba:Bool):Tq→Bool→Tx
 | .mk k st an tg tx ks,fl=>zT (qO an tg) (zZ S si ba fl k st tg tx (qA S si ba ks))
def qA (S:Sc) (si ba:Bool):List Tq→List (Tx×Tx×Tx)
  | []=>[]
  | .mk k st an tg tx ks::ts=>
    (if kK k st tx&&isE (qO an tg) then dJ S si else zG S si ba (.mk k st an tg tx ks) true,
     sT k st tx (zG S si ba (.mk k st an tg tx ks) true),zG S si ba (.mk k st an tg tx ks) true)::qA S si ba ts
end
end
noncomputable section
set_option linter.all false
open Go Ev
def MX:Nat:=140737488355328
def uP (x:Tx):Prop:=nlP x.1 x.2∧x.2<256^x.1
structure tK (S:Sc):Prop where
 ql:∀ x b,okP x→(S.qt x b).1≤10*x.1+4
 qf:∀ x b,okP x→uP (S.qt x b)
 qs:∀ x b,S.qt x b=S.qt x (b&&S.sg x)
 pf:∀ x fl,okP x→S.pl x fl=true→nlP x.1 x.2
 ll:(S.lg (4,1819047278)).1≤30
 lf:uP (S.lg (4,1819047278))
 tc:∀ x,okP x→(S.tg x).2<256^(S.tg x).1
 lc:∀ x,okP x→(S.lg x).2<256^(S.lg x).1
theorem jOn:okP (0,0):=⟨Nat.zero_le _,by decide⟩
def kP:List Tx→Nat
 | []=>0
 | a::r=>a.1+2+kP r
theorem yL:∀ l:List Tx,(jM l).1≤kP l
 | []=>Nat.le_refl _
 | [a]=>by simp only [jM,kP]; omega
 | a::b::r=>by
  have:=yL (b::r);simp only [jM,kP,jX] at this ⊢;omega
theorem kO (a b:Tx):(zT a b).1≤a.1+b.1+1:=by
 unfold zT;split<;>simp only [jX]<;>omega
theorem oP (an tg:Tx):(qO an tg).1≤an.1+tg.1+2:=by
 unfold qO;split
 ·have:=kO an tg; omega
 ·have:=kO (jX (1,38) an) tg;have e:(jX (1,38) an).1=1+an.1:=rfl;omega
theorem jBo (k st:Int) (tx s:Tx):(sT k st tx s).1≤s.1+2:=by
 unfold sT;split<;>simp only [jX]<;>omega
theorem jEp {S:Sc} (hS:tK S) {si ba fl:Bool} {st:Int} {tg tx:Tx} (h:okP tx):(fM S si ba fl st tg tx).1≤10*tx.1+4:=by
 unfold fM;split
 ·omega
 ·exact hS.ql _ _ h
theorem qDc {S:Sc} (hS:tK S) (si:Bool):(dJ S si).1≤38:=by
 have h1:=hS.ll;have h2:=hS.ql (0,0) si jOn;simp only [dJ,jX];omega
def jRp:List (Tx×Tx×Tx)→Nat
 | []=>0
 | a::r=>a.1.1+2+jRp r
def qCm:List (Tx×Tx×Tx)→Nat
 | []=>0
 | a::r=>max a.2.1.1 a.2.2.1+3+qCm r
theorem gG:∀ l:List (Tx×Tx×Tx),kP (l.map (·.1))=jRp l
 | []=>rfl
 | a::r=>by simp only [List.map_cons,kP,jRp,gG r]
theorem dB:∀ l:List (Tx×Tx×Tx),kP (uO l)≤qCm l
 | []=>Nat.le_refl _
 | [a]=>by simp only [uO,kP]; omega
 | a::b::r=>by
  have:=dB r;have:=kO a.2.1 b.2.2;simp only [uO,kP,qCm];omega
mutual
theorem yW {S:Sc} (hS:tK S) (si ba:Bool):∀ (t:Tq) (fl:Bool),okQ t→(zG S si ba t fl).1+10≤50*wtQ t
 | .mk k st an tg tx ks,fl,h=>by
  simp only [okQ] at h;obtain ⟨⟨h1,h2,h3⟩,_,_,h4⟩:=h;obtain ⟨k1,k2⟩:=nU hS si ba ks h4;have j1:=yL ((qA S si ba ks).map (·.1));rw [gG] at j1;have j2:=yL (uO (qA S si ba ks));have j3:=dB (qA S si ba ks);have p1:=oP an tg;have p2:=jEp hS (si:=si) (ba:=ba) (fl:=fl) (st:=st) (tg:=tg) h3;have b:(zZ S si ba fl k st tg tx (qA S si ba ks)).1≤10*tx.1+4+50*dW ks:=by
   unfold zZ;split
   ·simp only [jX]; omega
   ·split
    ·omega
    ·split
     ·simp only [jX]; omega
     ·split
      ·simp only [jX]; omega
      ·exact Nat.zero_le _
  have j:=kO (qO an tg) (zZ S si ba fl k st tg tx (qA S si ba ks));simp only [zG,wtQ];omega
theorem nU {S:Sc} (hS:tK S) (si ba:Bool):∀ ts:List Tq,jAy ts→jRp (qA S si ba ts)≤50*dW ts∧qCm (qA S si ba ts)≤50*dW ts
 | [],_=>⟨Nat.zero_le _,Nat.zero_le _⟩
 | .mk k st an tg tx ks::ts,h=>by
  simp only [jAy] at h;have h1:=yW hS si ba (.mk k st an tg tx ks) true h.1;obtain ⟨h2,h3⟩:=nU hS si ba ts h.2;have h4:=qDc hS si;have h5:=jBo k st tx (zG S si ba (.mk k st an tg tx ks) true);have hw:1≤wtQ (.mk k st an tg tx ks):=by simp only [wtQ]; omega
  simp only [qA,jRp,qCm,dW];refine ⟨?_,by omega⟩
  split<;>omega
end
theorem zA {a b:Tx} (ha:uP a) (hb:uP b):uP (jX a b):=by
 obtain ⟨n,v⟩:=a;obtain ⟨m,u⟩:=b;obtain ⟨h1,h2⟩:=ha;obtain ⟨h3,h4⟩:=hb;dsimp only at h1 h2 h3 h4;have hp:∀ k:Nat,0<256^k:=fun k=>Nat.pow_pos (by decide)
 refine ⟨fun k hk=>?_,?_⟩
 ·show (v+u*256^n) / 256^k % 256≠10;change k<n+m at hk;by_cases q:k<n
  ·have e:256^n=256^k*(256*256^(n - k - 1)):=by
    rw [←Nat.mul_assoc,←Nat.pow_succ,←Nat.pow_add]; congr 1; omega
   have e2:u*256^n=256^k*(256*(256^(n - k - 1)*u)):=by
    rw [e,Nat.mul_comm u,Nat.mul_assoc,Nat.mul_assoc]
   rw [e2,Nat.add_mul_div_left _ _ (hp k),Nat.add_mul_mod_self_left];exact h1 k q
  ·have e:256^k=256^n*256^(k - n):=by rw [←Nat.pow_add]; congr 1; omega
   rw [e,←Nat.div_div_eq_div_mul,Nat.add_mul_div_right _ _ (hp n),Nat.div_eq_of_lt h2,Nat.zero_add];exact h3 (k - n) (by omega)
 ·show v+u*256^n<256^(n+m);have:(u+1)*256^n≤256^m*256^n:=Nat.mul_le_mul_right _ h4;rw [←Nat.pow_add,Nat.add_mul,Nat.one_mul,Nat.add_comm m n] at this;omega
theorem fK {c:Nat} (h:c<256) (h1:c≠10):uP (1,c):=by
 refine ⟨fun k hk=>?_,h⟩;change k<1 at hk;have:k=0:=by omega
 subst this;show c / 1 % 256≠10;rw [Nat.div_one,Nat.mod_eq_of_lt h]; exact h1
theorem qKd:uP (0,0):=⟨fun k hk=>absurd hk (Nat.not_lt_zero _),by decide⟩
theorem qLj:uP (2,8236):=by
 have:((2,8236):Tx)=jX (1,44) (1,32):=rfl;rw [this]; exact zA (fK (by decide) (by decide)) (fK (by decide) (by decide))
theorem qLk:uP (2,8254):=by
 have:((2,8254):Tx)=jX (1,62) (1,32):=rfl;rw [this]; exact zA (fK (by decide) (by decide)) (fK (by decide) (by decide))
theorem qLl:uP (2,15393):=by
 have:((2,15393):Tx)=jX (1,33) (1,60):=rfl;rw [this]; exact zA (fK (by decide) (by decide)) (fK (by decide) (by decide))
theorem gY {a b:Tx} (ha:uP a) (hb:uP b):uP (zT a b):=by
 unfold zT;split
 ·exact zA ha hb
 ·exact zA (zA ha (fK (by decide) (by decide))) hb
theorem lQ:∀ {l:List Tx},(∀ x,x∈l→uP x)→uP (jM l)
 | [],_=>qKd
 | [a],h=>h a (by simp)
 | a::b::r,h=>by
  simp only [jM];exact zA (zA (h a (by simp)) qLj) (lQ (l:=b::r) fun x hx=>h x (by simp at hx ⊢; exact .inr hx))
theorem jXy {S:Sc} (hS:tK S) (si:Bool):uP (dJ S si):=
 zA (zA (zA qLl hS.lf) qLk) (hS.qf _ _ jOn)
theorem eI {k st:Int} {tx s:Tx} (h:uP s):uP (sT k st tx s):=by
 unfold sT;split
 ·exact zA (zA h (fK (by decide) (by decide))) (fK (by decide) (by decide))
 ·exact zA h (fK (by decide) (by decide))
theorem jXz {S:Sc} (hS:tK S) {si ba fl:Bool} {st:Int} {tg tx:Tx} (h:okP tx):uP (fM S si ba fl st tg tx):=by
 unfold fM;split
 ·rename_i e;refine ⟨?_,h.2⟩;unfold mY at e;split at e
  ·rename_i q;rw [Bool.and_eq_true,Bool.or_eq_true] at q;rcases q.2 with q | q
   ·unfold isE at q;have q:=of_decide_eq_true q;intro k hk; rw [q.1] at hk; cases hk
   ·exact hS.pf _ _ h q
  ·split at e
   ·rename_i q;simp only [Bool.and_eq_true] at q;exact hS.pf _ _ h q.2.2.2.1
   ·split at e<;>cases e
 ·exact hS.qf _ _ h
theorem tW {an tg:Tx} (ha:uP an) (hg:uP tg):uP (qO an tg):=by
 unfold qO;split
 ·exact gY ha hg
 ·exact gY (zA (fK (by decide) (by decide)) ha) hg
theorem lR:∀ {l:List (Tx×Tx×Tx)},(∀ x,x∈l→uP x.1∧uP x.2.1∧uP x.2.2)→∀ x,x∈uO l→uP x
 | [],_,x,hx=>by simp [uO] at hx
 | [a],_,x,hx=>by simp [uO] at hx
 | a::b::r,h,x,hx=>by
  simp only [uO] at hx;rcases List.mem_cons.1 hx with rfl | hx
  ·exact gY (h a (by simp)).2.1 (h b (by simp)).2.2
  ·exact lR (l:=r) (fun y hy=>h y (by simp [hy])) x hx
theorem lP {S:Sc} (hS:tK S) (si ba fl:Bool) {k st:Int} {tg tx:Tx} {l:List (Tx×Tx×Tx)} (h3:okP tx) (n3:k=2→nlP tx.1 tx.2) (hk:∀ x,x∈l→uP x.1∧uP x.2.1∧uP x.2.2):uP (zZ S si ba fl k st tg tx l):=by
 unfold zZ;split
 ·rename_i e; exact zA (fK (by decide) (by decide)) ⟨n3 e,h3.2⟩
 ·split
  ·exact jXz hS h3
  ·split
   ·refine zA (zA (fK (by decide) (by decide)) (lQ fun x hx=>?_)) (fK (by decide) (by decide))
    obtain ⟨y,hy,rfl⟩:=List.mem_map.1 hx;exact (hk y hy).1
   ·split
    ·exact zA (zA (fK (by decide) (by decide)) (lQ (lR hk))) (fK (by decide) (by decide))
    ·exact qKd
mutual
theorem yT {S:Sc} (hS:tK S) (si ba:Bool):∀ (t:Tq) (fl:Bool),okQ t→uP (zG S si ba t fl)
 | .mk k st an tg tx ks,fl,h=>by
  simp only [okQ] at h;obtain ⟨⟨h1,h2,h3⟩,⟨n1,n2,n3⟩,_,h4⟩:=h;have hk:=kM hS si ba ks h4;simp only [zG];exact gY (tW ⟨n1,h1.2⟩ ⟨n2,h2.2⟩) (lP hS si ba fl h3 n3 hk)
theorem kM {S:Sc} (hS:tK S) (si ba:Bool):∀ ts:List Tq,jAy ts→∀ x,x∈qA S si ba ts→uP x.1∧uP x.2.1∧uP x.2.2
 | [],_,x,hx=>by simp [qA] at hx
 | .mk k st an tg tx ks::ts,h,x,hx=>by
  simp only [jAy] at h;have h1:=yT hS si ba (.mk k st an tg tx ks) true h.1;simp only [qA] at hx;rcases List.mem_cons.1 hx with rfl | hx
  ·refine ⟨?_,eI h1,h1⟩;dsimp only;split
   ·exact jXy hS si
   ·exact h1
  ·exact kM hS si ba ts h.2 x hx
end
end
end Go.Proofs.YtdlhiljbhepliaaGreatDoor.Ev.Fb
namespace Go.Proofs.YtdlhiljbhepliaaGreatDoor.Ev.Lf
noncomputable section
set_option linter.all false
open Go Ev Rf
mutual
theorem jWk:∀ (s s':SV),jU s=true→jU s'=true→toA s=toA s'→s=s'
 | .b x,s',_,h,e=>by cases s'<;>simp [jU] at h<;>simp [toA] at e; rw [e]
 | .i k n,s',_,h,e=>by cases s'<;>simp [jU] at h<;>simp [toA] at e; rw [e.1,e.2]
 | .s n v,s',_,h,e=>by cases s'<;>simp [jU] at h<;>simp [toA] at e; rw [e.1,e.2]
 | .tup l,s',f,h,e=>by
  cases s'<;>simp only [jU] at h<;>simp only [toA] at e<;>try (cases h)
  all_goals first | (cases e; done) | skip
  rename_i l';have:=jPz l l' (by simpa only [jU] using f) h (by simpa using e)
  rw [this]
 | .p0,_,f,_,_=>by simp [jU] at f
 | .sl0,_,f,_,_=>by simp [jU] at f
 | .tp _ _ _,_,f,_,_=>by simp [jU] at f
 | .te _ _ _ _,_,f,_,_=>by simp [jU] at f
 | .ts _ _ _ _,_,f,_,_=>by simp [jU] at f
 | .q _ _ _,_,f,_,_=>by simp [jU] at f
 | .qp _ _ _,_,f,_,_=>by simp [jU] at f
 | .qs _,_,f,_,_=>by simp [jU] at f
 | .xs _,_,f,_,_=>by simp [jU] at f
 | .f _ _ _,_,f,_,_=>by simp [jU] at f
 | .agg _,_,f,_,_=>by simp [jU] at f
 | .fis _,_,f,_,_=>by simp [jU] at f
 | .fqs,_,f,_,_=>by simp [jU] at f
 | .qx _ _,_,f,_,_=>by simp [jU] at f
 | .xp _,_,f,_,_=>by simp [jU] at f
theorem jPz:∀ (l l':List SV),vM l=true→vM l'=true→jGt l=jGt l'→l=l'
 | [],[],_,_,_=>rfl
 | [],_::_,_,_,e=>by simp [jGt] at e
 | _::_,[],_,_,e=>by simp [jGt] at e
 | x::l,y::l',f,h,e=>by
  simp only [vM,Bool.and_eq_true] at f h;simp only [jGt,List.cons.injEq] at e;rw [jWk x y f.1 h.1 e.1,jPz l l' f.2 h.2 e.2]
end
def Gr (fs:Nat→Option F) (orc:Nat→List AV→Mem→Option AV) (L:Nat):Nat→List SV→SV→Prop:=fun f l s=>jU s=true∧∃ d σ',evF fs orc L d f (jGt l) mP=some (toA s,σ')
theorem qKq (fs:Nat→Option F) (orc:Nat→List AV→Mem→Option AV) (L:Nat):dY (Gr fs orc L):=by
 rintro f l s s' ⟨h1,d,σ1,h2⟩ ⟨h3,d',σ2,h4⟩;have a:=qBo (Nat.le_max_left d d') _ _ _ _ h2;have b:=qBo (Nat.le_max_right d d') _ _ _ _ h4;rw [a] at b;simp only [Option.some.injEq,Prod.mk.injEq] at b;exact jWk _ _ h1 h3 b.1
theorem qOu {C:Cx} {fs:Nat→Option F} {orc:Nat→List AV→Mem→Option AV} {L:Nat} (h:C.G=Gr fs orc L) (d:Nat):GOK C (evF fs orc L d):=by
 intro f l s σ' h1 h2 h3;rw [h];exact ⟨h2,d,σ',h3⟩
theorem qMf {l:List (Nat×Option Nat)} {w:Nat} (hl:∀ p,p∈l→p.1<w∧∀ g,p.2=some g→g<w) {f f':Nat→AV} (h:∀ j,j<w→Pc (f j) (f' j)) (k:rpK l f):rpK l f':=by
 intro p hp hg n v e;obtain ⟨h1,h2⟩:=hl p hp;have hg':(match p.2 with | none=>True | some g=>∃ k,f g = .i k 2):=by
  split
  ·trivial
  ·rename_i g e2;rw [e2] at hg;obtain ⟨k2,hg⟩:=hg;exact (h g (h2 g e2)).1 k2 hg
 rcases (h p.1 h1).2 n v e with q | ⟨n0,v0,e0,q⟩
 ·exact q
 ·exact q (k p hp hg' n0 v0 e0)
theorem qQp {x:SV} {k:IntKind} {z:Int} (h:toR x = .i k z):x = .i k z:=by cases x<;>simp [toR] at h; obtain ⟨rfl,rfl⟩:=h; rfl
theorem qQq {x:SV} {n v:Nat} (h:toR x = .s n v):x = .s n v:=by cases x<;>simp [toR] at h; obtain ⟨rfl,rfl⟩:=h; rfl
theorem qMg {l:List (Nat×Option Nat)} {s:List SV} (k:rsK l s):rpK l fun j=>((s.map toR)[j]?).getD .ni:=by
 have get:∀ {j:Nat} {c:AV},((s.map toR)[j]?).getD .ni=c→c ≠ .ni→∃ x,s[j]?=some x∧toR x=c:=fun {j c} e hc=>by
  rw [List.getElem?_map] at e;cases hx:s[j]? with
  | none=>rw [hx] at e; exact absurd e.symm hc
  | some x=>rw [hx] at e; exact ⟨x,rfl,e⟩
 intro p hp hg n v e;obtain ⟨x,h1,h2⟩:=get e (by intro q; cases q)
 refine k p hp ?_ n v (by rw [h1,qQq h2])
 split
 ·trivial
 ·rename_i g e2;rw [e2] at hg;obtain ⟨k2,hg⟩:=hg;obtain ⟨y,h3,h4⟩:=get hg (by intro q; cases q)
  exact ⟨k2,by rw [h3,qQp h4]⟩
theorem qMc {l:List (Nat×Option Nat)} {f:Nat→AV} {off:Nat} {n:Option Nat} {v:SV} (k:rpK l f) (h:rdC f off n v):rdK l off n v:=by
 cases n with
 | none=>
  intro p hp h1 h2 m w e;refine k p hp (by rw [h2]; trivial) m w ?_
  rw [h1]; exact h.2 m w e
 | some n=>
  intro h0 r e p hp hg m w e1;have hh:∀ {j:Nat} {x:SV},r[j]?=some x→jMs x (f j):=fun {j x} q=>by
   have:=h r e j x q;rw [h0,Nat.zero_add] at this;exact this
  refine k p hp ?_ m w ((hh e1).2 m w rfl);split
  ·trivial
  ·rename_i g e2;rw [e2] at hg;obtain ⟨k2,hg⟩:=hg;exact ⟨k2,(hh hg).1 k2 2 rfl⟩
theorem qPa {P:PX} {G:Nat→List SV→SV→Prop} (htt:∀ T j d,(P.ct T)[j]?=some (.t d)→∃ i,j=i+1∧(P.ct T)[i]?≠some .b) (hpos:∀ T,0<(P.ct T).length) (hrk:∀ T p,p∈P.rk T→p.1<(P.ct T).length∧∀ g,p.2=some g→g<(P.ct T).length) (hst:∀ T,jZn (P.ct T)=true→P.rk T=[]):wP (P.C G):=by
 refine ⟨fun T r h=>?_,fun T r r'=>?_,fun T r r' j t t' hr e e'=>?_,fun T r r'=>?_,fun T r=>?_,fun T f f' h k=>?_,fun T r j m e=>?_,fun T f h=>?_,fun T s k=>qMg k,fun T f off n v k h=>qMc k h⟩
 rotate_left 5
 ·have hw:((P.C G).ct T 0).length=(P.ct T).length:=by
   show ((P.ct T).map _).length=_;rw [List.length_map]
  exact qMf (hrk T) (fun j hj=>h j (by rw [hw]; exact hj)) k
 ·change ((P.ct T).map (TyX.at r))[j]?=some (.t m) at e;rw [List.getElem?_map] at e;cases hx:(P.ct T)[j]? with
  | none=>rw [hx] at e; cases e
  | some x=>
   rw [hx] at e;cases x with
   | t d=>
    obtain ⟨i,e1,e2⟩:=htt T j d hx;refine ⟨i,e1,fun r' q=>?_⟩;change ((P.ct T).map (TyX.at r'))[i]?=some .b at q;rw [List.getElem?_map] at q;cases hy:(P.ct T)[i]? with
    | none=>rw [hy] at q; cases q
    | some y=>
     rw [hy] at q e2;cases y with
     | b=>exact e2 rfl
     | q T' d=>cases d<;>cases q
     | _=>cases q
   | q T' d=>cases d<;>cases e
   | _=>cases e
 ·have:P.rk T=[]:=hst T (by
   have h':nL ((P.ct T).map (TyX.at 0))=true:=h;rw [iT] at h'; exact h')
  show rpK (P.rk T) f;rw [this];intro p hp; cases hp
 ·show if P.cp T=true then 1≤r else True
  change (bif P.cp T then 1 else 0)≤r at h;cases hc:P.cp T
  ·simp
  ·rw [hc] at h; simpa using h
 ·show ((P.ct T).map _).length=((P.ct T).map _).length;rw [List.length_map,List.length_map]
 ·change ((P.ct T).map (TyX.at r))[j]?=some t at e;change ((P.ct T).map (TyX.at r'))[j]?=some t' at e';rw [List.getElem?_map] at e e';cases hx:(P.ct T)[j]? with
  | none=>rw [hx] at e; cases e
  | some x=>
   rw [hx] at e e';cases e; cases e';cases x with
   | q T' d=>cases d with
    | none=>exact ⟨rfl,Nat.le_refl _⟩
    | some d=>exact ⟨rfl,by omega⟩
   | t d=>show r - d≤r' - d; omega
   | _=>rfl
 ·show nL ((P.ct T).map (TyX.at r))=nL ((P.ct T).map (TyX.at r'));rw [iT,iT]
 ·show 0<((P.ct T).map _).length;rw [List.length_map]; exact hpos T
end
end Go.Proofs.YtdlhiljbhepliaaGreatDoor.Ev.Lf
namespace Go.Proofs.YtdlhiljbhepliaaGreatDoor.Ev.Fb
noncomputable section
set_option linter.all false
open Go Ev Rf
set_option maxRecDepth 2000
set_option maxHeartbeats 4000000
abbrev Ct:=Nat→List SV→Hp→Q2→Prop
theorem mO {C:Cx} {L:Nat} {body:Env→Hp→QK→Prop} {E:Env} {H:Hp} {Q:QK} (id:Nat) (h:∃ (ks:List Nat) (cv:List (Cv×Nat)),cvs C E H cv fun E' H'=>∃ (α:Type) (F:α→Env) (G:α→Hp) (I:α→Prop) (m:α→Nat),(∃ p,Sub (F p++fB E' ks) E'∧H'=G p∧I p∧m p<L)∧∀ p,I p→body (F p++fB E' ks) (G p) (lpQ (fun p=>F p++fB E' ks) G I m (m p) (jP (G p)) (qGs id Q))):jFz C L body E H (qGs id Q):=by unfold jFz; exact h
theorem iL {g:Nat} {p:Prop} (h:p):req (Nat.beq g g) p:=by rw [show Nat.beq g g=true from Nat.beq_refl g]; exact h
def LL:Nat:=200000000000000
abbrev cf (si ba:Bool):List SV:=[.i .i64 80,.i .i64 2,.i .i64 1,.b si,.b false,.b false,.b false,.b ba]
theorem eV:∀ {ts:List Tq} {rows:List (List Nd)},eU ts rows→ts.length=rows.length
 | [],rows,h=>by simp only [eU] at h; subst h; rfl
 | t::ts,rows,h=>by simp only [eU] at h; obtain ⟨r,rs,rfl,_,h⟩:=h; simp [eV h]
theorem uU:∀ {ts:List Tq} {rows:List (List Nd)} {k:Nat} {row:List Nd},eU ts rows→rows[k]?=some row→∃ t,ts[k]?=some t∧isQ t row
 | [],rows,k,row,h,e=>by simp only [eU] at h; subst h; simp at e
 | t::ts,rows,k,row,h,e=>by
  simp only [eU] at h;obtain ⟨r,rs,rfl,h1,h⟩:=h;cases k with
  | zero=>simp at e; subst e; exact ⟨t,rfl,h1⟩
  | succ k=>
   obtain ⟨q,h2,h3⟩:=uU (rows:=rs) (k:=k) h (by simpa using e)
   exact ⟨q,by simpa using h2,h3⟩
theorem jHs:∀ {ts:List Tq} {rows:List (List Nd)} {k:Nat} {row:List Nd},qCi ts rows→rows[k]?=some row→∃ t,ts[k]?=some t∧qPl t row
 | [],rows,k,row,h,e=>by cases h; simp at e
 | t::ts,rows,k,row,h,e=>by
  obtain ⟨r,rs,rfl,h1,h⟩:=h;cases k with
  | zero=>simp at e; subst e; exact ⟨t,rfl,h1⟩
  | succ k=>
   obtain ⟨q,h2,h3⟩:=jHs (rows:=rs) (k:=k) h (by simpa using e)
   exact ⟨q,by simpa using h2,h3⟩
theorem uZ:∀ {ts:List Tq} {t:Tq} {k:Nat},jAy ts→ts[k]?=some t→okQ t
 | [],t,k,h,e=>by simp at e
 | a::ts,t,k,h,e=>by
  simp only [jAy] at h;cases k with
  | zero=>simp at e; subst e; exact h.1
  | succ k=>exact uZ (k:=k) h.2 (by simpa using e)
theorem fD:∀ {ts:List Tq} {t:Tq} {k:Nat},ts[k]?=some t→wtQ t≤dW ts
 | [],t,k,e=>by simp at e
 | a::ts,t,k,e=>by
  cases k with
  | zero=>simp at e; subst e; simp only [dW]; omega
  | succ k=>have:=fD (k:=k) (ts:=ts) (by simpa using e); simp only [dW]; omega
theorem pT {α:Type} {l:List α} {k:Nat} {p:α} (h:l[k]?=some p):l.take (k+1)=l.take k++[p]:=by
 rw [List.take_add_one,h]; rfl
structure ScR (Γ:qJ) (S:Sc):Prop where
 ok:tK S
 h44:∀ (d n v:Nat) (b:Bool) (Q:Q2),1≤d→okP (n,v)→Q (.s (S.qt (n,v) b).1 (S.qt (n,v) b).2) []→Γ d 59 [.s n v,.b b] [] Q
 h68:∀ (d n v:Nat) (b:Bool) (Q:Q2),1≤d→okP (n,v)→Q (.b (S.pl (n,v) b)) []→Γ d 83 [.s n v,.b b] [] Q
 h70:∀ (d n v:Nat) (Q:Q2),1≤d→okP (n,v)→Q (.s (S.tg (n,v)).1 (S.tg (n,v)).2) []→Γ d 85 [.s n v] [] Q
 h71:∀ (d n v:Nat) (Q:Q2),1≤d→okP (n,v)→Q (.s (S.lg (n,v)).1 (S.lg (n,v)).2) []→Γ d 86 [.s n v] [] Q
 h72:∀ (d n v:Nat) (Q:Q2),1≤d→okP (n,v)→Q (.b (S.sg (n,v))) []→Γ d 87 [.s n v] [] Q
 r49:∀ (d n v:Nat) (b:Bool) (Q:Q2),1≤d→okP (n,v)→Q (.s (S.qt (n,v) b).1 (S.qt (n,v) b).2) []→Γ d 49 [.s n v,.b b] [] Q
 r104:∀ (d n v:Nat) (b:Bool) (Q:Q2),1≤d→okP (n,v)→Q (.b (S.pl (n,v) b)) []→Γ d 104 [.s n v,.b b] [] Q
 r106:∀ (d n v:Nat) (Q:Q2),1≤d→okP (n,v)→Q (.s (S.tg (n,v)).1 (S.tg (n,v)).2) []→Γ d 106 [.s n v] [] Q
 r48:∀ (d n v:Nat) (Q:Q2),1≤d→okP (n,v)→Q (.s (S.lg (n,v)).1 (S.lg (n,v)).2) []→Γ d 48 [.s n v] [] Q
 r77:∀ (d n v:Nat) (Q:Q2),1≤d→okP (n,v)→Q (.b (S.sg (n,v))) []→Γ d 77 [.s n v] [] Q
 h46:∀ (d:Nat) (l:List Tx) (Q:Q2),1≤d→kP l≤MX→l.length≤NB→(∀ p,p∈l→p.2<256^p.1)→Q (.s (jM l).1 (jM l).2) []→Γ d 61 [.qs l,.s 2 8236] [] Q
def fN:Ct:=fun d l H Q=>∃ (a b:Tx),l=[.s a.1 a.2,.s b.1 b.2]∧H=[]∧a.2<256^a.1∧b.2<256^b.1∧a.1+b.1+1≤MX∧1≤d∧Q (.s (zT a b).1 (zT a b).2) []
def mG:Ct:=fun d l H Q=>∃ (k st:Int) (an tg tx:Tx) (ks:List Tq) (row:List Nd),l=[.agg (row.map ofN)]∧H=[]∧isQ (.mk k st an tg tx ks) row∧1≤d∧Q (.b (kK k st tx)) []
def gA:Ct:=fun d l H Q=>∃ (k st:Int) (an tg tx:Tx) (ks:List Tq) (row:List Nd),l=[.agg (row.map ofN)]∧H=[]∧isQ (.mk k st an tg tx ks) row∧okQ (.mk k st an tg tx ks)∧2≤d∧Q (.s (qO an tg).1 (qO an tg).2) []
def tR (S:Sc):Ct:=fun d l H Q=>∃ (si ba fl:Bool) (k st:Int) (an tg tx:Tx) (ks:List Tq) (row:List Nd),l=[.agg (row.map ofN),.agg (cf si ba),.b fl,.b true]∧H=[]∧isQ (.mk k st an tg tx ks) row∧okQ (.mk k st an tg tx ks)∧2≤d∧Q (.i .i64 (mY S si ba fl st tg tx)) []
def jCl (S:Sc):Ct:=fun d l H Q=>∃ (si ba fl:Bool) (k st:Int) (an tg tx:Tx) (ks:List Tq) (row:List Nd),l=[.agg (row.map ofN),.agg (cf si ba),.b fl]∧H=[]∧isQ (.mk k st an tg tx ks) row∧okQ (.mk k st an tg tx ks)∧4≤d∧Q (.s (fM S si ba fl st tg tx).1 (fM S si ba fl st tg tx).2) []
def nH (S:Sc):Ct:=fun d l H Q=>∃ (si ba fl:Bool) (t:Tq) (row:List Nd),l=[.agg (row.map ofN),.agg (cf si ba),.b fl]∧H=[]∧isQ t row∧okQ t∧50*wtQ t≤MX∧10*wtQ t≤d∧Q (.s (zG S si ba t fl).1 (zG S si ba t fl).2) []
def jJr (S:Sc):Ct:=fun d l H Q=>∃ (si ba fl:Bool) (k st:Int) (an tg tx:Tx) (ks:List Tq) (row:List Nd),l=[.agg (row.map ofN),.agg (cf si ba),.b fl]∧H=[]∧isQ (.mk k st an tg tx ks) row∧okQ (.mk k st an tg tx ks)∧50*wtQ (.mk k st an tg tx ks)≤MX∧10*wtQ (.mk k st an tg tx ks)+1≤d ∧
 Q (.s (sT k st tx (zG S si ba (.mk k st an tg tx ks) fl)).1 (sT k st tx (zG S si ba (.mk k st an tg tx ks) fl)).2) []
def itm (S:Sc) (si ba:Bool) (t:Tq):Tx×Tx×Tx:=((qA S si ba [t])[0]?).getD ((0,0),(0,0),(0,0))
def jTz (S:Sc):Ct:=fun d l H Q=>∃ (si ba:Bool) (t:Tq) (row:List Nd),l=[.agg (cf si ba),.agg (row.map ofN)]∧H=[]∧isQ t row∧okQ t∧50*wtQ t≤MX∧10*wtQ t+1≤d∧Q (.s (itm S si ba t).1.1 (itm S si ba t).1.2) []
def jJq (S:Sc):Ct:=fun d l H Q=>∃ (si ba:Bool) (t u:Tq) (row row':List Nd),l=[.agg (cf si ba),.agg (row.map ofN),.agg (row'.map ofN)]∧H=[]∧isQ t row∧isQ u row'∧okQ t∧okQ u∧50*(wtQ t+wtQ u)≤MX∧10*(wtQ t+wtQ u)+2≤d ∧
 Q (.s (zT (itm S si ba t).2.1 (itm S si ba u).2.2).1 (zT (itm S si ba t).2.1 (itm S si ba u).2.2).2) []
def jUa (S:Sc):Ct:=fun d l H Q=>∃ (si ba:Bool) (k st:Int) (an tg tx:Tx) (ks:List Tq) (row:List Nd),l=[.agg (cf si ba),.agg (row.map ofN)]∧H=[]∧isQ (.mk k st an tg tx ks) row∧(k=3∨k=4)∧jAy ks∧ks.length≤NB∧50*dW ks+2≤MX∧10*dW ks+4≤d ∧
 Q (.s (zZ S si ba false k st tg tx (qA S si ba ks)).1 (zZ S si ba false k st tg tx (qA S si ba ks)).2) []
def jMq:Ct:=fun d l H Q=>∃ (si ba fl:Bool) (t:Tq) (row:List Nd),l=[.agg (row.map ofN),.agg (cf si ba),.b fl]∧H=[]∧isQ t row∧okQ t∧50*wtQ t≤MX∧20*wtQ t≤d∧Q (.b true) []
def jTy:Ct:=fun d l H Q=>∃ (si ba:Bool),l=[.b si,.b ba]∧H=[]∧1≤d∧Q (.agg (cf si ba)) []
theorem vI {a:Tx} (h:a.1=0∧a.2=0):isE a=true:=decide_eq_true h
theorem uN {a:Tx} (h:¬ (a.1=0∧a.2=0)):isE a=false:=decide_eq_false h
theorem jJs {a b:Tx} (ha:a.2<256^a.1) (hb:b.2<256^b.1):(jX a b).2<256^(jX a b).1:=by
 show a.2+b.2*256^a.1<256^(a.1+b.1);have:(b.2+1)*256^a.1≤256^b.1*256^a.1:=Nat.mul_le_mul_right _ hb;rw [←Nat.pow_add,Nat.add_mul,Nat.one_mul,Nat.add_comm b.1 a.1] at this;omega
theorem jId:okP (3,7500915):=⟨by decide,by decide⟩
theorem jSb:okP (4,1819047278):=⟨by decide,by decide⟩
end
noncomputable section
set_option linter.all false
open Go Ev Rf
set_option maxRecDepth 2000
set_option maxHeartbeats 4000000
section
variable {G:Nat→List SV→SV→Prop} {Γ:qJ}
theorem p23 (d:Nat) (l:List SV) (H:Hp) (Q:Q2) (h:fN (d+1) l H Q):wF (PT.C G) Γ LL d 33 g33 l H Q:=by
 obtain ⟨a,b,rfl,rfl,ha,hb,hn,hd,hQ⟩:=h;have e1:MX=140737488355328:=rfl;unfold zT at hQ
 repeat apply Or.inl
 intro _ _;refine And.intro (fun h=>?_) (fun h=>?_)
 ·rw [vI h,Bool.true_or,if_pos rfl] at hQ
  repeat apply Or.inl
  refine ⟨by omega,fun _ _=>?_⟩
  repeat apply Or.inl
  exact hQ
 ·repeat apply Or.inl
  intro _ _;refine And.intro (fun h'=>?_) (fun h'=>?_)
  ·rw [vI h',Bool.or_true,if_pos rfl] at hQ
   repeat apply Or.inl
   refine ⟨by omega,fun _ _=>?_⟩
   repeat apply Or.inl
   exact hQ
  ·rw [uN h',uN h,Bool.or_false,if_neg (by simp)] at hQ
   repeat apply Or.inl
   refine ⟨by omega,fun _ _=>?_⟩
   repeat apply Or.inl
   refine ⟨by omega,fun _ _=>?_⟩
   repeat apply Or.inl
   exact hQ
end
section
variable {G:Nat→List SV→SV→Prop} {Γ:qJ}
theorem p24 (d:Nat) (l:List SV) (H:Hp) (Q:Q2) (h:mG (d+1) l H Q):wF (PT.C G) Γ LL d 34 g34 l H Q:=by
 obtain ⟨k,st,an,tg,tx,ks,row,rfl,rfl,hr,hd,hQ⟩:=h;simp only [isQ] at hr;obtain ⟨n2,n3,w8,l8,w9,l9,b10,m11,v11,kr,rfl,_⟩:=hr;unfold kK at hQ
 repeat apply Or.inl
 refine And.intro (fun h=>?_) (fun h=>?_)
 ·rw [decide_eq_true h] at hQ
  repeat apply Or.inl
  refine And.intro (fun h2=>?_) (fun h2=>?_)
  ·rw [decide_eq_true h2] at hQ
   repeat apply Or.inl
   intro _ _;refine And.intro (fun h3=>?_) (fun h3=>?_)
   ·rw [vI h3] at hQ
    repeat apply Or.inl
    exact hQ
   ·rw [uN h3] at hQ
    repeat apply Or.inl
    exact hQ
  ·rw [decide_eq_false h2] at hQ
   repeat apply Or.inl
   exact hQ
 ·rw [decide_eq_false h] at hQ
  repeat apply Or.inl
  exact hQ
theorem p11 (h23:∀ d l H Q,fN d l H Q→Γ d 33 l H Q) (d:Nat) (l:List SV) (H:Hp) (Q:Q2) (h:gA (d+1) l H Q):wF (PT.C G) Γ LL d 11 g11 l H Q:=by
 obtain ⟨k,st,an,tg,tx,ks,row,rfl,rfl,hr,ho,hd,hQ⟩:=h;simp only [isQ] at hr;obtain ⟨n2,n3,w8,l8,w9,l9,b10,m11,v11,kr,rfl,_⟩:=hr;simp only [okQ] at ho;obtain ⟨⟨⟨h1,h1'⟩,⟨h2,h2'⟩,_⟩,_⟩:=ho;have e1:MX=140737488355328:=rfl;have e2:TB=4000000000:=rfl;unfold qO at hQ
 repeat apply Or.inl
 intro _ _;refine And.intro (fun h=>?_) (fun h=>?_)
 ·rw [uN h,if_neg (by simp)] at hQ
  repeat apply Or.inl
  refine ⟨by omega,fun hb _=>?_⟩
  repeat apply Or.inl
  refine h23 d _ _ _ ⟨jX (1,38) an,tg,rfl,rfl,(jJs (a:=(1,38)) (by decide) h1'),h2',?_,by omega,?_⟩
  ·show 1+an.1+tg.1+1≤MX; omega
  intro _
  repeat apply Or.inl
  exact hQ
 ·rw [vI h,if_pos rfl] at hQ
  repeat apply Or.inl
  refine h23 d _ _ _ ⟨an,tg,rfl,rfl,h1',h2',by omega,by omega,?_⟩
  intro _
  repeat apply Or.inl
  exact hQ
theorem p7 (d:Nat) (l:List SV) (H:Hp) (Q:Q2) (h:jTy (d+1) l H Q):wF (PT.C G) Γ LL d 7 g7 l H Q:=by
 obtain ⟨si,ba,rfl,rfl,hd,hQ⟩:=h
 repeat apply Or.inl
 exact hQ
end
section
variable {G:Nat→List SV→SV→Prop} {Γ:qJ}
theorem p21 {S:Sc} (hS:ScR Γ S) (h43:∀ d l H Q,tR S d l H Q→Γ d 58 l H Q) (d:Nat) (l:List SV) (H:Hp) (Q:Q2) (h:jCl S (d+1) l H Q):wF (PT.C G) Γ LL d 31 g31 l H Q:=by
 obtain ⟨si,ba,fl,k,st,an,tg,tx,ks,row,rfl,rfl,hr,ho,hd,hQ⟩:=h;have hr0:=hr;simp only [isQ] at hr;obtain ⟨n2,n3,w8,l8,w9,l9,b10,m11,v11,kr,rfl,_⟩:=hr;have ho0:=ho;simp only [okQ] at ho;obtain ⟨⟨_,_,h3⟩,_⟩:=ho;unfold fM at hQ
 repeat apply Or.inl
 refine h43 d _ _ _ ⟨si,ba,fl,k,st,an,tg,tx,ks,_,rfl,rfl,hr0,ho0,by omega,?_⟩
 repeat apply Or.inl
 refine And.intro (fun h=>?_) (fun h=>?_)
 ·rw [if_pos h] at hQ
  repeat apply Or.inl
  exact hQ
 ·rw [if_neg h] at hQ
  repeat apply Or.inl
  refine And.intro (fun h=>?_) (fun h=>?_)
  ·rw [decide_eq_true h] at hQ
   repeat apply Or.inl
   refine hS.h44 d _ _ _ _ (by omega) h3 ?_
   intro _
   repeat apply Or.inl
   exact hQ
  ·rw [decide_eq_false h] at hQ
   repeat apply Or.inl
   refine hS.h44 d _ _ _ _ (by omega) h3 ?_
   intro _
   repeat apply Or.inl
   exact hQ
theorem p9 {S:Sc} (hS:ScR Γ S) (h6:∀ d l H Q,nH S d l H Q→Γ d 9 l H Q) (h24:∀ d l H Q,mG d l H Q→Γ d 34 l H Q) (d:Nat) (l:List SV) (H:Hp) (Q:Q2) (h:jJr S (d+1) l H Q):wF (PT.C G) Γ LL d 10 g10 l H Q:=by
 obtain ⟨si,ba,fl,k,st,an,tg,tx,ks,row,rfl,rfl,hr,ho,hw,hd,hQ⟩:=h;have hr0:=hr;simp only [isQ] at hr;obtain ⟨n2,n3,w8,l8,w9,l9,b10,m11,v11,kr,rfl,_⟩:=hr;have e1:MX=140737488355328:=rfl;have hl:=yW hS.ok si ba (.mk k st an tg tx ks) fl ho;have hp1:1≤wtQ (.mk k st an tg tx ks):=by simp only [wtQ]; omega
 have hf:=(yT hS.ok si ba (.mk k st an tg tx ks) fl ho).2;unfold sT at hQ
 repeat apply Or.inl
 refine h6 d _ _ _ ⟨si,ba,fl,_,_,rfl,rfl,hr0,ho,hw,by omega,?_⟩
 generalize zG S si ba (.mk k st an tg tx ks) fl=s at hQ hl hf
 repeat apply Or.inl
 refine And.intro (fun h=>?_) (fun h=>?_)
 ·rw [decide_eq_true h,Bool.true_or,if_pos rfl] at hQ
  repeat apply Or.inl
  refine ⟨by omega,fun _ _=>?_⟩
  repeat apply Or.inl
  refine ⟨by omega,fun _ _=>?_⟩
  repeat apply Or.inl
  exact hQ
 ·rw [decide_eq_false h,Bool.false_or] at hQ
  repeat apply Or.inl
  refine h24 d _ _ _ ⟨k,st,an,tg,tx,ks,_,rfl,rfl,hr0,by omega,?_⟩
  cases he:kK k st tx with
  | true=>
   rw [he,Bool.true_and] at hQ
   repeat apply Or.inl
   intro _ _;refine And.intro (fun h=>?_) (fun h=>?_)
   ·rw [uN h,Bool.not_false,if_pos rfl] at hQ
    repeat apply Or.inl
    refine ⟨by omega,fun _ _=>?_⟩
    repeat apply Or.inl
    refine ⟨by omega,fun _ _=>?_⟩
    repeat apply Or.inl
    exact hQ
   ·rw [vI h,Bool.not_true,if_neg (by simp)] at hQ
    repeat apply Or.inl
    refine ⟨by omega,fun _ _=>?_⟩
    repeat apply Or.inl
    exact hQ
  | false=>
   rw [he,Bool.false_and,if_neg (by simp)] at hQ
   repeat apply Or.inl
   refine ⟨by omega,fun _ _=>?_⟩
   repeat apply Or.inl
   exact hQ
theorem p6 {S:Sc} (hS:ScR Γ S) (h11:∀ d l H Q,gA d l H Q→Γ d 11 l H Q) (h21:∀ d l H Q,jCl S d l H Q→Γ d 31 l H Q) (h22:∀ d l H Q,jUa S d l H Q→Γ d 32 l H Q) (h23:∀ d l H Q,fN d l H Q→Γ d 33 l H Q) (d:Nat) (l:List SV) (H:Hp) (Q:Q2) (h:nH S (d+1) l H Q):wF (PT.C G) Γ LL d 9 g9 l H Q:=by
 obtain ⟨si,ba,fl,t,row,rfl,rfl,hr,ho,hw,hd,hQ⟩:=h;obtain ⟨k,st,an,tg,tx,ks⟩:=t;have hr0:=hr;simp only [isQ] at hr;obtain ⟨n2,n3,w8,l8,w9,l9,b10,m11,v11,kr,rfl,_⟩:=hr;have e1:MX=140737488355328:=rfl;have ho0:=ho;have hf:=yT hS.ok si ba (.mk k st an tg tx ks) fl ho;simp only [okQ] at ho;obtain ⟨⟨h1,h2,h3⟩,⟨g1,g2,g3⟩,h5,h4⟩:=ho;have p1:=oP an tg;obtain ⟨k1,k2⟩:=nU hS.ok si ba ks h4;have hpc:uP (qO an tg):=tW ⟨g1,h1.2⟩ ⟨g2,h2.2⟩;simp only [zG] at hQ;simp only [wtQ] at hw hd;have fb:=lP hS.ok si ba fl (k:=k) (st:=st) (tg:=tg) (tx:=tx) h3 g3 (kM hS.ok si ba ks h4);have j1:=yL ((qA S si ba ks).map (·.1));rw [gG] at j1;have j2:=yL (uO (qA S si ba ks));have j3:=dB (qA S si ba ks);have p2:=jEp hS.ok (si:=si) (ba:=ba) (fl:=fl) (st:=st) (tg:=tg) h3
 repeat apply Or.inl
 refine And.intro (fun h=>?_) (fun h=>?_)
 ·have eb:zZ S si ba fl k st tg tx (qA S si ba ks)=jX (1,42) tx:=by unfold zZ; rw [if_pos h]
  rw [eb] at hQ fb
  repeat apply Or.inl
  refine ⟨by omega,fun _ _=>?_⟩
  repeat apply Or.inl
  refine h11 d _ _ _ ⟨k,st,an,tg,tx,ks,_,rfl,rfl,hr0,ho0,by omega,?_⟩
  repeat apply Or.inl
  refine h23 d _ _ _ ⟨qO an tg,jX (1,42) tx,rfl,rfl,hpc.2,fb.2,?_,by omega,?_⟩
  ·show (qO an tg).1+(1+tx.1)+1≤MX; omega
  intro _
  repeat apply Or.inl
  exact hQ
 ·repeat apply Or.inl
  refine And.intro (fun h'=>?_) (fun h'=>?_)
  ·have eb:zZ S si ba fl k st tg tx (qA S si ba ks)=fM S si ba fl st tg tx:=by unfold zZ; rw [if_neg h,if_pos h']
   rw [eb] at hQ fb
   repeat apply Or.inl
   refine h21 d _ _ _ ⟨si,ba,fl,k,st,an,tg,tx,ks,_,rfl,rfl,hr0,ho0,by omega,?_⟩
   repeat apply Or.inl
   refine h11 d _ _ _ ⟨k,st,an,tg,tx,ks,_,rfl,rfl,hr0,ho0,by omega,?_⟩
   repeat apply Or.inl
   refine h23 d _ _ _ ⟨qO an tg,fM S si ba fl st tg tx,rfl,rfl,hpc.2,fb.2,by omega,by omega,?_⟩
   intro _
   repeat apply Or.inl
   exact hQ
  ·have lst:(k=3∨k=4)→zZ S si ba fl k st tg tx (qA S si ba ks)=zZ S si ba false k st tg tx (qA S si ba ks):=fun q=>by unfold zZ; rw [if_neg h,if_neg h,if_neg h',if_neg h']
   have ll:(k=3∨k=4)→(zZ S si ba false k st tg tx (qA S si ba ks)).1≤2+50*dW ks:=fun q=>by
    unfold zZ;rw [if_neg h,if_neg h'];rcases q with q | q
    ·rw [if_pos q]; simp only [jX]; omega
    ·rw [if_neg (by omega),if_pos q]; simp only [jX]; omega
   repeat apply Or.inl
   refine And.intro (fun q=>?_) (fun q=>?_)
   ·have l1:=ll (.inl q);rw [lst (.inl q)] at hQ fb
    repeat apply Or.inl
    refine h22 d _ _ _ ⟨si,ba,k,st,an,tg,tx,ks,_,rfl,rfl,hr0,.inl q,h4,h5,by omega,by omega,?_⟩
    repeat apply Or.inl
    refine h11 d _ _ _ ⟨k,st,an,tg,tx,ks,_,rfl,rfl,hr0,ho0,by omega,?_⟩
    repeat apply Or.inl
    refine h23 d _ _ _ ⟨qO an tg,_,rfl,rfl,hpc.2,fb.2,by omega,by omega,?_⟩
    intro _
    repeat apply Or.inl
    exact hQ
   ·repeat apply Or.inl
    refine And.intro (fun q'=>?_) (fun q'=>?_)
    ·have l1:=ll (.inr q');rw [lst (.inr q')] at hQ fb
     repeat apply Or.inl
     refine h22 d _ _ _ ⟨si,ba,k,st,an,tg,tx,ks,_,rfl,rfl,hr0,.inr q',h4,h5,by omega,by omega,?_⟩
     repeat apply Or.inl
     refine h11 d _ _ _ ⟨k,st,an,tg,tx,ks,_,rfl,rfl,hr0,ho0,by omega,?_⟩
     repeat apply Or.inl
     refine h23 d _ _ _ ⟨qO an tg,_,rfl,rfl,hpc.2,fb.2,by omega,by omega,?_⟩
     intro _
     repeat apply Or.inl
     exact hQ
    ·have eb:zZ S si ba fl k st tg tx (qA S si ba ks)=(0,0):=by unfold zZ; rw [if_neg h,if_neg h',if_neg q,if_neg q']
     rw [eb] at hQ
     repeat apply Or.inl
     refine h11 d _ _ _ ⟨k,st,an,tg,tx,ks,_,rfl,rfl,hr0,ho0,by omega,?_⟩
     repeat apply Or.inl
     refine h23 d _ _ _ ⟨qO an tg,(0,0),rfl,rfl,hpc.2,by decide,?_,by omega,?_⟩
     ·show (qO an tg).1+0+1≤MX; omega
     intro _
     repeat apply Or.inl
     exact hQ
end
section
variable {G:Nat→List SV→SV→Prop} {Γ:qJ}
theorem mM (S:Sc) (si ba:Bool) (k st:Int) (an tg tx:Tx) (ks:List Tq):itm S si ba (.mk k st an tg tx ks)=(if kK k st tx&&isE (qO an tg) then dJ S si else zG S si ba (.mk k st an tg tx ks) true,
     sT k st tx (zG S si ba (.mk k st an tg tx ks) true),zG S si ba (.mk k st an tg tx ks) true):=by
  unfold itm; simp only [qA]; rfl
theorem p45 {S:Sc} (hS:ScR Γ S) (h24:∀ d l H Q,mG d l H Q→Γ d 34 l H Q) (h11:∀ d l H Q,gA d l H Q→Γ d 11 l H Q) (h6:∀ d l H Q,nH S d l H Q→Γ d 9 l H Q) (d:Nat) (l:List SV) (H:Hp) (Q:Q2) (h:jTz S (d+1) l H Q):wF (PT.C G) Γ LL d 60 g60 l H Q:=by
 obtain ⟨si,ba,t,row,rfl,rfl,hr,ho,hw,hd,hQ⟩:=h;obtain ⟨k,st,an,tg,tx,ks⟩:=t;rw [mM] at hQ;dsimp only at hQ;have hr0:=hr;simp only [isQ] at hr;obtain ⟨n2,n3,w8,l8,w9,l9,b10,m11,v11,kr,rfl,_⟩:=hr;have e1:MX=140737488355328:=rfl;have hp:1≤wtQ (.mk k st an tg tx ks):=by simp only [wtQ]; omega
 have k1:=hS.ok.ll;have k2:=hS.ok.ql (0,0) si jOn;dsimp only at k2;have nul:∀ (Q:Q2),Q (.s (dJ S si).1 (dJ S si).2) []→Q (.s (dJ S si).1 (dJ S si).2) []:=fun _ q=>q
 repeat apply Or.inl
 refine h24 d _ _ _ ⟨k,st,an,tg,tx,ks,_,rfl,rfl,hr0,by omega,?_⟩
 cases he:kK k st tx with
 | true=>
  rw [he,Bool.true_and] at hQ
  repeat apply Or.inl
  refine h11 d _ _ _ ⟨k,st,an,tg,tx,ks,_,rfl,rfl,hr0,ho,by omega,?_⟩
  repeat apply Or.inl
  intro _ _;refine And.intro (fun h=>?_) (fun h=>?_)
  ·rw [vI h,if_pos rfl] at hQ;refine hS.h71 d _ _ _ (by omega) jSb ?_
   intro _;refine ⟨by omega,fun _ _=>?_⟩
   refine ⟨by omega,fun _ _=>?_⟩
   refine hS.h44 d _ _ _ _ (by omega) jOn ?_
   intro _;refine ⟨by omega,fun _ _=>?_⟩
   repeat apply Or.inl
   exact hQ
  ·rw [uN h,if_neg (by simp)] at hQ
   repeat apply Or.inl
   refine h6 d _ _ _ ⟨si,ba,true,_,_,rfl,rfl,hr0,ho,hw,by omega,?_⟩
   repeat apply Or.inl
   exact hQ
 | false=>
  rw [he,Bool.false_and,if_neg (by simp)] at hQ
  repeat apply Or.inl
  refine h6 d _ _ _ ⟨si,ba,true,_,_,rfl,rfl,hr0,ho,hw,by omega,?_⟩
  repeat apply Or.inl
  exact hQ
theorem p47 {S:Sc} (hS:ScR Γ S) (h9:∀ d l H Q,jJr S d l H Q→Γ d 10 l H Q) (h23:∀ d l H Q,fN d l H Q→Γ d 33 l H Q) (h6:∀ d l H Q,nH S d l H Q→Γ d 9 l H Q) (d:Nat) (l:List SV) (H:Hp) (Q:Q2) (h:jJq S (d+1) l H Q):wF (PT.C G) Γ LL d 62 g62 l H Q:=by
 obtain ⟨si,ba,t,u,row,row',rfl,rfl,hr,hu,ho,hou,hw,hd,hQ⟩:=h;obtain ⟨k,st,an,tg,tx,ks⟩:=t;obtain ⟨k',st',an',tg',tx',ks'⟩:=u;rw [mM,mM] at hQ;dsimp only at hQ;have hr0:=hr;have hu0:=hu;simp only [isQ] at hr hu;obtain ⟨n2,n3,w8,l8,w9,l9,b10,m11,v11,kr,rfl,_⟩:=hr;obtain ⟨n2',n3',w8',l8',w9',l9',b10',m11',v11',kr',rfl,_⟩:=hu;have e1:MX=140737488355328:=rfl;have l1:=yW hS.ok si ba (.mk k st an tg tx ks) true ho;have l2:=yW hS.ok si ba (.mk k' st' an' tg' tx' ks') true hou;have f1:=yT hS.ok si ba (.mk k st an tg tx ks) true ho;have f2:=yT hS.ok si ba (.mk k' st' an' tg' tx' ks') true hou;have f3:=eI (k:=k) (st:=st) (tx:=tx) f1;have l3:=jBo k st tx (zG S si ba (.mk k st an tg tx ks) true)
 repeat apply Or.inl
 refine h9 d _ _ _ ⟨si,ba,true,k,st,an,tg,tx,ks,_,rfl,rfl,hr0,ho,by omega,by omega,?_⟩
 repeat apply Or.inl
 refine h6 d _ _ _ ⟨si,ba,true,_,_,rfl,rfl,hu0,hou,by omega,by omega,?_⟩
 refine h23 d _ _ _ ⟨_,_,rfl,rfl,f3.2,f2.2,by omega,by omega,?_⟩
 intro _
 repeat apply Or.inl
 exact hQ
end
end
noncomputable section
set_option linter.all false
open Go Ev Rf
set_option maxRecDepth 2000
set_option maxHeartbeats 4000000
section
variable {G:Nat→List SV→SV→Prop} {Γ:qJ}
theorem p43 {S:Sc} (hS:ScR Γ S) (d:Nat) (l:List SV) (H:Hp) (Q:Q2) (h:tR S (d+1) l H Q):wF (PT.C G) Γ LL d 58 g58 l H Q:=by
 obtain ⟨si,ba,fl,k,st,an,tg,tx,ks,row,rfl,rfl,hr,ho,hd,hQ⟩:=h;simp only [isQ] at hr;obtain ⟨n2,n3,w8,l8,w9,l9,b10,m11,v11,kr,rfl,_⟩:=hr;simp only [okQ] at ho;obtain ⟨⟨_,_,h3⟩,_⟩:=ho;have e0:((tx.1,tx.2):Tx)=tx:=rfl;unfold mY at hQ
 repeat apply Or.inl
 refine hS.h68 d _ _ _ _ (by omega) h3 ?_
 intro _;by_cases q1:st=1
 ·subst q1;simp only [decide_true,Bool.true_and,Bool.not_true,Bool.false_and,Bool.and_false] at hQ
  repeat apply Or.inl
  refine And.intro (fun _=>?_) (fun _=>?_)<;>first | (exfalso; omega) | skip
  repeat apply Or.inl
  refine And.intro (fun _=>?_) (fun _=>?_)<;>first | (exfalso; omega) | skip
  repeat apply Or.inl
  refine And.intro (fun _=>?_) (fun _=>?_)<;>first | (exfalso; omega) | skip
  repeat apply Or.inl
  intro _ _;refine And.intro (fun h=>?_) (fun h=>?_)
  ·rw [vI h,Bool.true_or,if_pos rfl] at hQ
   repeat apply Or.inl
   exact hQ
  ·rw [uN h,Bool.false_or] at hQ;cases hp:S.pl (tx.1,tx.2) fl with
   | true=>
    rw [e0] at hp;rw [hp,if_pos rfl] at hQ
    repeat apply Or.inl
    exact hQ
   | false=>
    rw [e0] at hp;rw [hp,if_neg (by simp),if_neg (by simp)] at hQ
    cases ba with
    | true=>
     repeat apply Or.inl
     refine And.intro (fun _=>?_) (fun _=>?_)<;>first | (exfalso; omega) | skip
     cases si with
     | true=>
      repeat apply Or.inl
      refine hS.h72 d _ _ _ (by omega) h3 ?_
      intro _;rw [Bool.true_and] at hQ;cases hs:S.sg (tx.1,tx.2) with
      | true=>rw [e0] at hs; rw [hs,if_pos rfl] at hQ; (repeat apply Or.inl); exact hQ
      | false=>rw [e0] at hs; rw [hs,if_neg (by simp)] at hQ; (repeat apply Or.inl); exact hQ
     | false=>rw [Bool.false_and,if_neg (by simp)] at hQ; (repeat apply Or.inl); exact hQ
    | false=>
     cases si with
     | true=>
      repeat apply Or.inl
      refine hS.h72 d _ _ _ (by omega) h3 ?_
      intro _;rw [Bool.true_and] at hQ;cases hs:S.sg (tx.1,tx.2) with
      | true=>rw [e0] at hs; rw [hs,if_pos rfl] at hQ; (repeat apply Or.inl); exact hQ
      | false=>rw [e0] at hs; rw [hs,if_neg (by simp)] at hQ; (repeat apply Or.inl); exact hQ
     | false=>rw [Bool.false_and,if_neg (by simp)] at hQ; (repeat apply Or.inl); exact hQ
 ·simp only [decide_eq_false q1,Bool.false_and,Bool.not_false,Bool.true_and,if_neg (show ¬ (false=true) by simp)] at hQ
  by_cases q4:st=4
  ·repeat apply Or.inl
   refine And.intro (fun _=>?_) (fun _=>?_)<;>first | (exfalso; omega) | skip
   repeat apply Or.inl
   refine And.intro (fun _=>?_) (fun _=>?_)<;>first | (exfalso; omega) | skip
   cases ba with
   | false=>
    rw [Bool.false_and,if_neg (by simp)] at hQ
    cases si with
    | true=>
     repeat apply Or.inl
     refine hS.h72 d _ _ _ (by omega) h3 ?_
     intro _;rw [Bool.true_and] at hQ;cases hs:S.sg (tx.1,tx.2) with
     | true=>rw [e0] at hs; rw [hs,if_pos rfl] at hQ; (repeat apply Or.inl); exact hQ
     | false=>rw [e0] at hs; rw [hs,if_neg (by simp)] at hQ; (repeat apply Or.inl); exact hQ
    | false=>rw [Bool.false_and,if_neg (by simp)] at hQ; (repeat apply Or.inl); exact hQ
   | true=>
    rw [Bool.true_and] at hQ
    repeat apply Or.inl
    refine And.intro (fun _=>?_) (fun _=>?_)<;>first | (exfalso; omega) | skip
    repeat apply Or.inl
    intro _ _;refine And.intro (fun h=>?_) (fun h=>?_)
    ·rw [vI h,Bool.true_and] at hQ;cases hp:S.pl (tx.1,tx.2) fl with
     | false=>
      rw [e0] at hp;rw [hp,Bool.false_and,if_neg (by simp)] at hQ
      cases si with
      | true=>
       repeat apply Or.inl
       refine hS.h72 d _ _ _ (by omega) h3 ?_
       intro _;rw [Bool.true_and] at hQ;cases hs:S.sg (tx.1,tx.2) with
       | true=>rw [e0] at hs; rw [hs,if_pos rfl] at hQ; (repeat apply Or.inl); exact hQ
       | false=>rw [e0] at hs; rw [hs,if_neg (by simp)] at hQ; (repeat apply Or.inl); exact hQ
      | false=>rw [Bool.false_and,if_neg (by simp)] at hQ; (repeat apply Or.inl); exact hQ
     | true=>
      rw [e0] at hp;rw [hp,Bool.true_and] at hQ
      repeat apply Or.inl
      refine hS.h70 d _ _ _ (by omega) h3 ?_
      intro _;refine hS.h71 d _ _ _ (by omega) jId ?_
      intro _;intro _ _;refine And.intro (fun h=>?_) (fun h=>?_)
      ·rw [decide_eq_true (Prod.ext h.1 h.2),if_pos rfl] at hQ
       repeat apply Or.inl
       exact hQ
      ·rw [decide_eq_false (fun e=>h ⟨congrArg Prod.fst e,congrArg Prod.snd e⟩),if_neg (by simp)] at hQ
       cases si with
       | true=>
        repeat apply Or.inl
        refine hS.h72 d _ _ _ (by omega) h3 ?_
        intro _;rw [Bool.true_and] at hQ;cases hs:S.sg (tx.1,tx.2) with
        | true=>rw [e0] at hs; rw [hs,if_pos rfl] at hQ; (repeat apply Or.inl); exact hQ
        | false=>rw [e0] at hs; rw [hs,if_neg (by simp)] at hQ; (repeat apply Or.inl); exact hQ
       | false=>rw [Bool.false_and,if_neg (by simp)] at hQ; (repeat apply Or.inl); exact hQ
    ·rw [uN h,Bool.false_and,if_neg (by simp)] at hQ
     cases si with
     | true=>
      repeat apply Or.inl
      refine hS.h72 d _ _ _ (by omega) h3 ?_
      intro _;rw [Bool.true_and] at hQ;cases hs:S.sg (tx.1,tx.2) with
      | true=>rw [e0] at hs; rw [hs,if_pos rfl] at hQ; (repeat apply Or.inl); exact hQ
      | false=>rw [e0] at hs; rw [hs,if_neg (by simp)] at hQ; (repeat apply Or.inl); exact hQ
     | false=>rw [Bool.false_and,if_neg (by simp)] at hQ; (repeat apply Or.inl); exact hQ
  ·by_cases q5:st=5
   ·repeat apply Or.inl
    refine And.intro (fun _=>?_) (fun _=>?_)<;>first | (exfalso; omega) | skip
    repeat apply Or.inl
    refine And.intro (fun _=>?_) (fun _=>?_)<;>first | (exfalso; omega) | skip
    repeat apply Or.inl
    refine And.intro (fun _=>?_) (fun _=>?_)<;>first | (exfalso; omega) | skip
    cases ba with
    | false=>
     rw [Bool.false_and,if_neg (by simp)] at hQ
     cases si with
     | true=>
      repeat apply Or.inl
      refine hS.h72 d _ _ _ (by omega) h3 ?_
      intro _;rw [Bool.true_and] at hQ;cases hs:S.sg (tx.1,tx.2) with
      | true=>rw [e0] at hs; rw [hs,if_pos rfl] at hQ; (repeat apply Or.inl); exact hQ
      | false=>rw [e0] at hs; rw [hs,if_neg (by simp)] at hQ; (repeat apply Or.inl); exact hQ
     | false=>rw [Bool.false_and,if_neg (by simp)] at hQ; (repeat apply Or.inl); exact hQ
    | true=>
     rw [Bool.true_and] at hQ
     repeat apply Or.inl
     refine And.intro (fun _=>?_) (fun _=>?_)<;>first | (exfalso; omega) | skip
     repeat apply Or.inl
     intro _ _;refine And.intro (fun h=>?_) (fun h=>?_)
     ·rw [vI h,Bool.true_and] at hQ;cases hp:S.pl (tx.1,tx.2) fl with
      | false=>
       rw [e0] at hp;rw [hp,Bool.false_and,if_neg (by simp)] at hQ
       cases si with
       | true=>
        repeat apply Or.inl
        refine hS.h72 d _ _ _ (by omega) h3 ?_
        intro _;rw [Bool.true_and] at hQ;cases hs:S.sg (tx.1,tx.2) with
        | true=>rw [e0] at hs; rw [hs,if_pos rfl] at hQ; (repeat apply Or.inl); exact hQ
        | false=>rw [e0] at hs; rw [hs,if_neg (by simp)] at hQ; (repeat apply Or.inl); exact hQ
       | false=>rw [Bool.false_and,if_neg (by simp)] at hQ; (repeat apply Or.inl); exact hQ
      | true=>
       rw [e0] at hp;rw [hp,Bool.true_and] at hQ
       repeat apply Or.inl
       refine hS.h70 d _ _ _ (by omega) h3 ?_
       intro _;refine hS.h71 d _ _ _ (by omega) jId ?_
       intro _;intro _ _;refine And.intro (fun h=>?_) (fun h=>?_)
       ·rw [decide_eq_true (Prod.ext h.1 h.2),if_pos rfl] at hQ
        repeat apply Or.inl
        exact hQ
       ·rw [decide_eq_false (fun e=>h ⟨congrArg Prod.fst e,congrArg Prod.snd e⟩),if_neg (by simp)] at hQ
        cases si with
        | true=>
         repeat apply Or.inl
         refine hS.h72 d _ _ _ (by omega) h3 ?_
         intro _;rw [Bool.true_and] at hQ;cases hs:S.sg (tx.1,tx.2) with
         | true=>rw [e0] at hs; rw [hs,if_pos rfl] at hQ; (repeat apply Or.inl); exact hQ
         | false=>rw [e0] at hs; rw [hs,if_neg (by simp)] at hQ; (repeat apply Or.inl); exact hQ
        | false=>rw [Bool.false_and,if_neg (by simp)] at hQ; (repeat apply Or.inl); exact hQ
     ·rw [uN h,Bool.false_and,if_neg (by simp)] at hQ
      cases si with
      | true=>
       repeat apply Or.inl
       refine hS.h72 d _ _ _ (by omega) h3 ?_
       intro _;rw [Bool.true_and] at hQ;cases hs:S.sg (tx.1,tx.2) with
       | true=>rw [e0] at hs; rw [hs,if_pos rfl] at hQ; (repeat apply Or.inl); exact hQ
       | false=>rw [e0] at hs; rw [hs,if_neg (by simp)] at hQ; (repeat apply Or.inl); exact hQ
      | false=>rw [Bool.false_and,if_neg (by simp)] at hQ; (repeat apply Or.inl); exact hQ
   ·repeat apply Or.inl
    refine And.intro (fun _=>?_) (fun _=>?_)<;>first | (exfalso; omega) | skip
    repeat apply Or.inl
    refine And.intro (fun _=>?_) (fun _=>?_)<;>first | (exfalso; omega) | skip
    repeat apply Or.inl
    refine And.intro (fun _=>?_) (fun _=>?_)<;>first | (exfalso; omega) | skip
    cases ba with
    | false=>
     rw [Bool.false_and,if_neg (by simp)] at hQ
     cases si with
     | true=>
      repeat apply Or.inl
      refine hS.h72 d _ _ _ (by omega) h3 ?_
      intro _;rw [Bool.true_and] at hQ;cases hs:S.sg (tx.1,tx.2) with
      | true=>rw [e0] at hs; rw [hs,if_pos rfl] at hQ; (repeat apply Or.inl); exact hQ
      | false=>rw [e0] at hs; rw [hs,if_neg (by simp)] at hQ; (repeat apply Or.inl); exact hQ
     | false=>rw [Bool.false_and,if_neg (by simp)] at hQ; (repeat apply Or.inl); exact hQ
    | true=>
     rw [Bool.true_and] at hQ
     repeat apply Or.inl
     refine And.intro (fun _=>?_) (fun _=>?_)<;>first | (exfalso; omega) | skip
     repeat apply Or.inl
     intro _ _;refine And.intro (fun h=>?_) (fun h=>?_)
     ·rw [vI h,Bool.true_and] at hQ;cases hp:S.pl (tx.1,tx.2) fl with
      | false=>
       rw [e0] at hp;rw [hp,Bool.false_and,if_neg (by simp)] at hQ
       cases si with
       | true=>
        repeat apply Or.inl
        refine hS.h72 d _ _ _ (by omega) h3 ?_
        intro _;rw [Bool.true_and] at hQ;cases hs:S.sg (tx.1,tx.2) with
        | true=>rw [e0] at hs; rw [hs,if_pos rfl] at hQ; (repeat apply Or.inl); exact hQ
        | false=>rw [e0] at hs; rw [hs,if_neg (by simp)] at hQ; (repeat apply Or.inl); exact hQ
       | false=>rw [Bool.false_and,if_neg (by simp)] at hQ; (repeat apply Or.inl); exact hQ
      | true=>
       rw [e0] at hp;rw [hp,Bool.true_and] at hQ
       repeat apply Or.inl
       refine hS.h70 d _ _ _ (by omega) h3 ?_
       intro _;refine hS.h71 d _ _ _ (by omega) jId ?_
       intro _;intro _ _;refine And.intro (fun h=>?_) (fun h=>?_)
       ·rw [decide_eq_true (Prod.ext h.1 h.2),if_pos rfl] at hQ
        repeat apply Or.inl
        exact hQ
       ·rw [decide_eq_false (fun e=>h ⟨congrArg Prod.fst e,congrArg Prod.snd e⟩),if_neg (by simp)] at hQ
        cases si with
        | true=>
         repeat apply Or.inl
         refine hS.h72 d _ _ _ (by omega) h3 ?_
         intro _;rw [Bool.true_and] at hQ;cases hs:S.sg (tx.1,tx.2) with
         | true=>rw [e0] at hs; rw [hs,if_pos rfl] at hQ; (repeat apply Or.inl); exact hQ
         | false=>rw [e0] at hs; rw [hs,if_neg (by simp)] at hQ; (repeat apply Or.inl); exact hQ
        | false=>rw [Bool.false_and,if_neg (by simp)] at hQ; (repeat apply Or.inl); exact hQ
     ·rw [uN h,Bool.false_and,if_neg (by simp)] at hQ
      cases si with
      | true=>
       repeat apply Or.inl
       refine hS.h72 d _ _ _ (by omega) h3 ?_
       intro _;rw [Bool.true_and] at hQ;cases hs:S.sg (tx.1,tx.2) with
       | true=>rw [e0] at hs; rw [hs,if_pos rfl] at hQ; (repeat apply Or.inl); exact hQ
       | false=>rw [e0] at hs; rw [hs,if_neg (by simp)] at hQ; (repeat apply Or.inl); exact hQ
      | false=>rw [Bool.false_and,if_neg (by simp)] at hQ; (repeat apply Or.inl); exact hQ
end
end
end Go.Proofs.YtdlhiljbhepliaaGreatDoor.Ev.Fb
