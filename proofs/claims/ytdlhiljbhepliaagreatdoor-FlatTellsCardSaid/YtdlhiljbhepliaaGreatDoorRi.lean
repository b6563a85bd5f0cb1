/-
A checker of the conditions of runs: new blocks, appends, values at borders. What they promise is so. No program is named here.
-/
import Derived.Test.YtdlhiljbhepliaaGreatDoorRc
namespace Go.Proofs.YtdlhiljbhepliaaGreatDoor.Ev.Rf
noncomputable section
set_option linter.all false
open Go
section
variable {P:PX} {G:Nat→List SV→SV→Prop} {ρ ρ' ρ2:Rho} {st st' st2:Sx}
theorem eG:∀ {ps:List (Nat×Nat×X)} {z:List SX} {k:List SX→An} {Q:List SV→Prop},ok (jHl st ps z k)→Inv G ρ st→(∀ l,ok (k l)→Q (jR ρ l))→tD (denE ρ st.E) ps (jR ρ z) Q
 | [],z,k,Q,h,hi,hk=>hk z h
 | (off,n,x)::r,z,k,Q,h,hi,hk=>by
  simp only [jHl] at h;simp only [tD];refine zL (k:=fun v=>jJ (xL n (vL v)&&gV (vL v)) 80 st [] (match yF off (vL v) z with | some z=>jHl st r z k | none=>no1 81 st)) h hi fun v hv h=>?_
  obtain ⟨h1,h⟩:=jA h;simp only [lG,mX,pG,h1,req];split at h
  ·rename_i z' e;rw [jEv e];exact eG h hi hk
  ·exact (jB h).elim
theorem sP {e:Nat} {c:HCX} {Q':Nat→Sx→Tch→An} {Q:Nat→Hp→Tch→Prop} (h:ok (jTg st e c Q')) (hi:Inv G ρ st) (hk:∀ i st' t,Ny G ρ st ρ st'→ok (Q' i st' t)→Q i (denH ρ st'.H) t):bO (denH ρ st.H) e (c.den ρ) Q:=by
 unfold jTg at h;obtain ⟨h1,h⟩:=jA h;rw [xP] at h;have hs:scH st.n (st.H++[⟨e,g0,c⟩])=true:=jBv (hb:=⟨e,g0,c⟩) (jHp _) h1 hi.h;have:=hk _ _ _ ((Nx.refl hi).setH hs) h;unfold bO;rw [wT];change Q _ (denH ρ (st.H++[⟨e,g0,c⟩])) _ at this;rw [aW] at this;exact this
theorem coC (T:Nat):((((P.C G).co T:Nat)):Int)=coX P T:=by
 show ((bif P.cp T then 1 else 0:Nat):Int)=_;unfold coX;cases P.cp T<;>rfl
theorem jHm {T:Nat}:∀ {ts pre:List TyX} {l:List SX} {Q':LT→An} {Q:Nat→Prop},P.ct T=pre++ts→ok (jKb P st T ts l Q')→Inv G ρ st→(∀ R,0≤R.ev ρ→ok (Q' R)→Q (R.ev ρ).toNat)→jNi (P.C G) T pre.length (jR ρ l) Q
 | [],pre,[],Q',Q,e,h,hi,hk=>by have:=hk _ (by rw [qR]; exact Int.le_refl _) h; rw [qR] at this; exact this
 | [],pre,_::_,Q',Q,e,h,hi,hk=>(jB h).elim
 | _::_,pre,[],Q',Q,e,h,hi,hk=>(jB h).elim
 | t::ts,pre,v::l,Q',Q,e,h,hi,hk=>by
  simp only [jKb] at h;obtain ⟨h0,h⟩:=jD h hi;obtain ⟨h1,h⟩:=jUo h hi;have e2:(((rkC t v).addc (coX P T)).ev ρ).toNat=(P.C G).co T+((rkC t v).ev ρ).toNat:=by
   rw [jF];have:=coC (P:=P) (G:=G) T;omega
  refine ⟨((rkC t v).ev ρ).toNat,?_,?_⟩
  ·rw [ctC,jZ,e,List.map_append,List.getElem?_append_right (by rw [List.length_map]; exact Nat.le_refl _),List.length_map,Nat.sub_self]
   rw [e2] at h1;exact h1
  ·have e3:P.ct T=(pre++[t])++ts:=by rw [e]; simp
   have:=jHm (pre:=pre++[t]) (Q:=fun R=>Q (((rkC t v).ev ρ).toNat+R)) e3 h hi fun R hR h=>by
    have:=hk _ (by rw [yA]; omega) h
    rw [yA,Int.toNat_add h0 hR] at this;exact this
   rw [List.length_append] at this;exact this
theorem nQ {T:Nat}:∀ {n:Nat} {l:List SX} {Q':LT→An} {Q:Nat→Prop},ok (nP P st T n l Q')→Inv G ρ st→(∀ R,0≤R.ev ρ→ok (Q' R)→Q (R.ev ρ).toNat)→gZ (P.C G) T n (jR ρ l) Q
 | 0,[],Q',Q,h,hi,hk=>by have:=hk _ (by rw [qR]; exact Int.le_refl _) h; rw [qR] at this; exact this
 | 0,_::_,Q',Q,h,hi,hk=>(jB h).elim
 | n+1,l,Q',Q,h,hi,hk=>by
  simp only [nP] at h;simp only [gZ];rw [lZ];split at h
  ·rename_i r e;rw [aG e,tS];have hco:=coC (P:=P) (G:=G) T;obtain ⟨hrk,h⟩:=jGf hi h;refine ⟨hrk,jHm (pre:=[]) rfl h hi fun x hx h=>nQ h hi fun R hR h=>?_⟩;have:=hk _ (by rw [jF,yA]; omega) h
   rw [jF,yA] at this;have e4:(x.ev ρ+R.ev ρ+coX P T).toNat=(P.C G).co T+(x.ev ρ).toNat+(R.ev ρ).toNat:=by omega
   rw [e4] at this;exact this
  ·exact (jB h).elim
theorem jPs {T:Nat} {x:SX} {Q':LT→LT→An} {Q:Nat→Nat→Prop} (h:ok (jWf P T x st Q')) (hi:Inv G ρ st) (hk:∀ R m,0≤R.ev ρ→ok (Q' R m)→Q (R.ev ρ).toNat (m.ev ρ).toNat):jSx (P.C G) (denH ρ st.H) T (x.den ρ) Q:=by
 unfold jWf at h;split at h
 ·have:=hk _ _ (by rw [qR]; exact Int.le_refl _) h
  rw [qR] at this;exact this
 ·obtain ⟨h1,h⟩:=jA h;obtain ⟨h2,h⟩:=jD h hi;simp only [SX.den,jSx,h1,req];exact hk _ _ h2 h
 ·rename_i j g m sz;obtain ⟨h1,h⟩:=jA h;simp only [SX.den,jSx];rw [lZ,h1];simp only [req];split at h
  ·rename_i hb e;refine uT e ?_;split at h
   ·rename_i l hc;simp only [HX.den,hc,HCX.den];split at h
    ·rename_i e3;have em:m.ev ρ=m.c:=by simp only [LT.ev,e3,evL]; omega
     rw [em];refine nQ h hi fun R hR h=>?_;have:=hk _ _ hR h;rw [em] at this;exact this
    ·exact (jB h).elim
   ·exact (jB h).elim
  ·exact (jB h).elim
 ·exact (jB h).elim
theorem jFq {m:LT}:∀ {l:List SX} {k:An} {Q:List (Nat×Nat)→Prop},ok (pQ st m l k)→Inv G ρ st→(∀ L:List (Nat×Nat),L.length=l.length→(∀ p,p∈L→(p.1:Int)≤m.ev ρ)→ok k→Q L)→vN (jR ρ l) Q
 | [],k,Q,h,hi,hk=>hk [] rfl (fun p hp=>by cases hp) h
 | .s n c::r,k,Q,h,hi,hk=>by
  simp only [pQ] at h;obtain ⟨h0,h⟩:=jD h hi;obtain ⟨h1,h⟩:=jD h hi;rw [jT] at h1;simp only [jR,SX.den,vN];exact jFq h hi fun L h2 h3 h4=>hk _ (by simp [h2]) (fun p hp=>by
   rcases List.mem_cons.1 hp with rfl | hp
   ·show (((n.ev ρ).toNat:Nat):Int)≤m.ev ρ;omega
   ·exact h3 p hp) h4
 | .b _::_,k,Q,h,hi,hk=>(jB h).elim
 | .bv _::_,k,Q,h,hi,hk=>(jB h).elim
 | .i _ _::_,k,Q,h,hi,hk=>(jB h).elim
 | .p0::_,k,Q,h,hi,hk=>(jB h).elim
 | .sl0::_,k,Q,h,hi,hk=>(jB h).elim
 | .tp _ _ _::_,k,Q,h,hi,hk=>(jB h).elim
 | .te _ _ _ _::_,k,Q,h,hi,hk=>(jB h).elim
 | .ts _ _ _ _::_,k,Q,h,hi,hk=>(jB h).elim
 | .q _ _ _::_,k,Q,h,hi,hk=>(jB h).elim
 | .qp _ _ _::_,k,Q,h,hi,hk=>(jB h).elim
 | .qs _::_,k,Q,h,hi,hk=>(jB h).elim
 | .xs _ _::_,k,Q,h,hi,hk=>(jB h).elim
 | .f _ _ _::_,k,Q,h,hi,hk=>(jB h).elim
 | .agg _::_,k,Q,h,hi,hk=>(jB h).elim
 | .tup _::_,k,Q,h,hi,hk=>(jB h).elim
def LOK (ρ:Rho) (L:List (Nat×Nat)) (n m:LT):Prop:=(L.length:Int)=n.ev ρ∧∀ p,p∈L→(p.1:Int)≤m.ev ρ
theorem jFo {m:LT} {x:SX} {Q':LT→An} {Q:List (Nat×Nat)→Prop} (h:ok (jPt P m x st Q')) (hi:Inv G ρ st) (hk:∀ n L,LOK ρ L n m→ok (Q' n)→Q L):jSy (denH ρ st.H) (x.den ρ) Q:=by
 unfold jPt at h;split at h
 ·exact hk _ [] ⟨by simp,fun p hp=>by cases hp⟩ h
 ·rename_i j;split at h
  ·rename_i n m' e;obtain ⟨l1,l2,l3,l4,l5⟩:=eX hi e;obtain ⟨h1,h⟩:=jD h hi;rw [jT] at h1;exact hk n _ ⟨l1,fun p hp=>by have:=l2 p hp; omega⟩ h
  ·exact (jB h).elim
 ·rename_i j g n sz;obtain ⟨h1,h⟩:=jA h;simp only [SX.den,jSy,h1,req];split at h
  ·rename_i hb e;refine uT e ?_;split at h
   ·rename_i l hc;simp only [HX.den,hc,HCX.den];split at h
    ·rename_i e3;have en:n.ev ρ=n.c:=by simp only [LT.ev,e3,evL]; omega
     obtain ⟨h2,h⟩:=jA h;rw [Bool.and_eq_true] at h2;have hn:=mK h2.2;have hl:=vB _ _ h2.1;rw [mX,en,h2.1];simp only [req];exact jFq h hi fun L q1 q2 q3=>hk n L ⟨by rw [q1,hl,en]; omega,q2⟩ q3
    ·exact (jB h).elim
   ·exact (jB h).elim
  ·exact (jB h).elim
 ·exact (jB h).elim
theorem dM {n:LT} {by_:Nat} {k:An} (h:ok (oK st n by_ k)) (hi:Inv G ρ st):0≤n.ev ρ∧((n.ev ρ).toNat*by_≤100000000000000∧(n.ev ρ).toNat≤100000000000000)∧ok k:=by
 obtain ⟨h1,h⟩:=jD h hi;obtain ⟨h2,h⟩:=jD h hi;obtain ⟨h3,h⟩:=jD h hi;rw [jF,qY,vZ] at h2;rw [jF,qY] at h3;have hb:qAg=100000000000000:=rfl;refine ⟨h1,⟨?_,by omega⟩,h⟩
 have e:(((n.ev ρ).toNat*by_:Nat):Int)=(Int.ofNat by_)*n.ev ρ:=by
  rw [Int.natCast_mul,Int.toNat_of_nonneg h1,Int.mul_comm]; rfl
 omega
theorem oB (hi:Inv G ρ st) {L:List (Nat×Nat)} {n m:LT} (hL:LOK ρ L n m) (sn:n.sc st.n=true) (sm:m.sc st.n=true) {k:LT→Sx→An} (h:ok (fresh st k)) :
  ∃ ρ',Nx G ρ st ρ' ((st.up (st.n+1)).addB (.ln st.n n m))∧(ρ' st.n).l=L∧ok (k (.var st.n) (st.up (st.n+1))):=by
 obtain ⟨n1,e,h⟩:=zU h hi ⟨0,L,0⟩;have n2:=n1.inv.addB (t:=.ln st.n n m) (by
  simp only [TE.sc,Bool.and_eq_true];exact ⟨Nat.ble_eq_true_of_le (Nat.le_refl _),jE n1.n sn,jE n1.n sm⟩) (by
  simp only [TE.holds,e,n1.lt sn,n1.lt sm];exact hL)
 exact ⟨_,n1.trans n2,by rw [e],h⟩
theorem qEc {x:SX} {Q':List SX→An} {Q:List SV→Prop} (h:ok (qEb st x Q')) (hk:∀ l,ok (Q' l)→Q (jR ρ l)):jLc (denH ρ st.H) (x.den ρ) Q:=by
 unfold qEb at h;split at h
 ·rename_i j g m z;obtain ⟨b1,h⟩:=jA h;split at h
  ·rename_i hb e4;split at h
   ·rename_i l hc;obtain ⟨b2,h⟩:=jA h;have em:(m.ev ρ).toNat=1:=by rw [LT.beq_ok b1]; simp [LT.con,LT.ev,evL]
    simp only [SX.den,jLc,em];refine uT e4 ?_;simp only [HX.den,hc,HCX.den];rw [mX,b2];exact hk l h
   ·exact (jB h).elim
  ·exact (jB h).elim
 ·exact (jB h).elim
theorem qFb {e sz by_:Nat} {s x:SX} {Q':KO} {Q:QO} (h:ok (xAp P e sz by_ s x st Q')) (hi:Inv G ρ st) (hs:s.sc st.n=true) (hk:HO G ρ st Q' Q):wAp (P.C G) (denH ρ st.H) e sz by_ (s.den ρ) (x.den ρ) Q:=by
 unfold xAp at h;split at h
 ·simp only [SX.den,wAp];show (match P.ak e with | some (.ty T r)=>_ | some .str=>_ | none=>False)
  split at h
  ·rename_i T r hak;obtain ⟨h1,h⟩:=jA h;simp only [hak];rw [lZ,h1];simp only [req];refine jPs h hi fun R m hR h=>?_;obtain ⟨m0,ml,h⟩:=dM h hi;refine ⟨ml,?_⟩;have:=sP (Q:=fun i H t=>Q (.ts i 0 (m.ev ρ).toNat sz) H t) h hi fun i st' t n h=>by
    have:=hk _ _ _ _ n h;simp only [SX.den,bK] at this; exact this
   simp only [HCX.den] at this;exact this
  ·rename_i hak;obtain ⟨h1,h⟩:=jA h;simp only [hak,h1,req];refine jFo h hi fun n L hL h=>?_;obtain ⟨m0,ml,h⟩:=dM h hi;obtain ⟨sn,h⟩:=jA h;have eL:(n.ev ρ).toNat=L.length:=by have:=hL.1; omega
   rw [eL] at ml;refine ⟨ml,?_⟩;obtain ⟨ρ',n1,e1,h⟩:=oB hi hL sn (xT _) h;have:=sP (Q:=fun i H t=>Q (.ts i 0 L.length sz) H t) h n1.inv fun i st' t n2 h=>by
    have:=hk _ _ _ _ (n1.ny2 n2) h;simp only [SX.den,bK,n1.lt sn,eL] at this; exact this
   change bO (denH ρ' ((st.up (st.n+1)).addB (TE.ln st.n n LM)).H) e (.xs (ρ' st.n).l) _ at this;rw [n1.denH hi,e1] at this;exact this
  ·exact (jB h).elim
 ·rename_i i g n sz';replace h:=jA h;obtain ⟨h1,h⟩:=h;simp only [SX.den,wAp,h1,req];simp only [SX.sc,Bool.and_eq_true] at hs;split at h
  ·rename_i hb e2;refine uT e2 ?_;obtain ⟨h2,h⟩:=jA h;have hg:=kA hi.h (fO e2).1;have egg:=(fO e2).2;show req (Nat.beq hb.e e) _;rw [h2];simp only [req];split at h
   ·rename_i T R m0 hc;obtain ⟨h3,h⟩:=jA h;simp only [HX.den,hc,HCX.den];rw [lZ,h3];simp only;refine jPs h hi fun R2 m hR2 h=>?_;obtain ⟨hR,h⟩:=jD h hi;obtain ⟨hn,h⟩:=jD h hi;obtain ⟨hm,h⟩:=jD h hi;obtain ⟨q0,ql,h⟩:=dM h hi;obtain ⟨hsc,h⟩:=jA h;rw [Bool.and_eq_true] at hsc;rw [yA] at ql;have es:(n.ev ρ+m.ev ρ).toNat=(n.ev ρ).toNat+(m.ev ρ).toNat:=by omega
    rw [es] at ql;have er:(R.ev ρ+R2.ev ρ).toNat=(R.ev ρ).toNat+(R2.ev ρ).toNat:=by omega
    refine ⟨ql,?_⟩;rcases zE h with ⟨_,h⟩ | ⟨_,h⟩
    ·refine .inr ?_;refine qEc h fun l h=>?_;obtain ⟨b3,h⟩:=jA h;rw [Bool.and_eq_true] at b3;have em:(m.ev ρ).toNat=1:=by rw [LT.beq_ok b3.1]; simp [LT.con,LT.ev,evL]
     simp only [em];have hs2:scH st.n (jG st.H i ⟨e,g.up,.rl T (R.add R2) (n.add m) l⟩)=true:=vH (hb:=⟨e,g.up,.rl T (R.add R2) (n.add m) l⟩) (Gn.up_sc hs.1) (by simp only [HCX.sc,Bool.and_eq_true]; exact ⟨hsc.1,hsc.2,b3.2⟩) hi.h
     have:=hk _ _ _ _ ((Nx.refl hi).setH hs2) h;change Q _ (denH ρ (jG st.H i ⟨e,g.up,.rl T (R.add R2) (n.add m) l⟩)) _ at this;rw [←uH] at this;simp only [SX.den,HX.den,HCX.den,Gn.up_den,yA,es,er,em] at this;exact this
    refine .inl ?_;have hs2:scH st.n (jG st.H i ⟨e,g.up,.r T (R.add R2) (n.add m)⟩)=true:=vH (hb:=⟨e,g.up,.r T (R.add R2) (n.add m)⟩) (Gn.up_sc hs.1) (by simp only [HCX.sc,Bool.and_eq_true]; exact hsc) hi.h
    have:=hk _ _ _ _ ((Nx.refl hi).setH hs2) h;change Q _ (denH ρ (jG st.H i ⟨e,g.up,.r T (R.add R2) (n.add m)⟩)) _ at this;rw [←uH] at this;simp only [SX.den,HX.den,HCX.den,Gn.up_den,yA,es,er] at this;exact this
   ·rename_i j hc;obtain ⟨h3,h⟩:=jA h;simp only [HX.den,hc,HCX.den,h3];split at h
    ·rename_i n' m' e3;obtain ⟨l1,l2,l3,l4,l5⟩:=eX hi e3;obtain ⟨h4,h⟩:=jA h;obtain ⟨h5,h⟩:=qT h hi;have hne:∀ p,p∈(ρ j).l→(p.1:Int)≤m'.ev ρ:=l2
     -- a bound that may be below 0 binds nothing
     refine jFo h hi fun n2 L hL h=>?_;obtain ⟨hn,h⟩:=jD h hi;obtain ⟨hm,h⟩:=jD h hi;obtain ⟨q0,ql,h⟩:=dM h hi;obtain ⟨hsc,h⟩:=jA h;rw [yA] at ql;have eL:(n2.ev ρ).toNat=L.length:=by have:=hL.1; omega
     have es:(n.ev ρ+n2.ev ρ).toNat=(n.ev ρ).toNat+L.length:=by omega
     rw [es] at ql;refine ⟨ql,?_⟩;have hL2:LOK ρ ((ρ j).l++L) (n.add n2) m':=⟨by rw [List.length_append,yA]; have:=hL.1; omega,fun p hp=>by rcases List.mem_append.1 hp with hp | hp; exact l2 p hp; exact hL.2 p hp⟩
     obtain ⟨ρ',n1,e1,h⟩:=oB hi hL2 hsc l4 h;have hs2:scH ((st.up (st.n+1)).addB (.ln st.n (n.add n2) m')).n (jG st.H i ⟨e,g.up,.xs st.n⟩)=true:=vH (hb:=⟨e,g.up,.xs st.n⟩) (Gn.mono n1.n (Gn.up_sc hs.1)) (Nat.ble_eq_true_of_le (Nat.le_refl _)) (vW n1.n hi.h);have:=hk _ _ _ _ (n1.setH hs2) h;change Q _ (denH ρ' (jG st.H i ⟨e,g.up,.xs st.n⟩)) _ at this;rw [←uH,xM n1.ag hi.h] at this;simp only [SX.den,HX.den,HCX.den,Gn.up_den,yA,e1,Gn.agree n1.ag hs.1,n1.lt hs.2] at this;have en2:n2.ev ρ'=n2.ev ρ:=by
      have a1:(n.add n2).ev ρ'=(n.add n2).ev ρ:=n1.lt hsc;rw [yA,yA,n1.lt hs.2] at a1;omega
     rw [en2,es] at this;exact this
    ·exact (jB h).elim
   ·rename_i l hc;obtain ⟨h3,h⟩:=jA h;simp only [HX.den,hc,HCX.den,h3];refine jFq h hi fun L0 q1 q2 h=>?_;obtain ⟨h5,h⟩:=qT h hi;rw [qR] at h5;refine jFo h hi fun n2 L hL h=>?_;obtain ⟨hn,h⟩:=jD h hi;obtain ⟨hm,h⟩:=jD h hi;rw [jF] at hm;obtain ⟨q0,ql,h⟩:=dM h hi;obtain ⟨hsc,h⟩:=jA h;rw [yA] at ql;have eL:(n2.ev ρ).toNat=L.length:=by have:=hL.1; omega
    have es:(n.ev ρ+n2.ev ρ).toNat=(n.ev ρ).toNat+L.length:=by omega
    rw [es] at ql;refine ⟨fun q=>by rw [q] at hL; have:=hL.1; simp at this; omega,ql,?_⟩
    have hL2:LOK ρ (L0++L) (n.add n2) LM:=⟨by
     rw [List.length_append,yA,h5,q1];have:=hL.1;have e9:(Int.ofNat (jP l):Int)=(l.length:Int):=by rw [qG]; rfl
     omega,fun p hp=>by
     rcases List.mem_append.1 hp with hp | hp
     ·exact q2 p hp
     ·exact hL.2 p hp⟩
    obtain ⟨ρ',n1,e1,h⟩:=oB hi hL2 hsc (xT _) h;have hs2:scH ((st.up (st.n+1)).addB (.ln st.n (n.add n2) LM)).n (jG st.H i ⟨e,g.up,.xs st.n⟩)=true:=vH (hb:=⟨e,g.up,.xs st.n⟩) (Gn.mono n1.n (Gn.up_sc hs.1)) (Nat.ble_eq_true_of_le (Nat.le_refl _)) (vW n1.n hi.h);have:=hk _ _ _ _ (n1.setH hs2) h;change Q _ (denH ρ' (jG st.H i ⟨e,g.up,.xs st.n⟩)) _ at this;rw [←uH,xM n1.ag hi.h] at this;simp only [SX.den,HX.den,HCX.den,Gn.up_den,yA,e1,Gn.agree n1.ag hs.1,n1.lt hs.2] at this;have en2:n2.ev ρ'=n2.ev ρ:=by
     have a1:(n.add n2).ev ρ'=(n.add n2).ev ρ:=n1.lt hsc;rw [yA,yA,n1.lt hs.2] at a1;omega
    rw [en2,es] at this;exact this
   ·exact (jB h).elim
  ·exact (jB h).elim
 ·exact (jB h).elim
end
end
noncomputable section
set_option linter.all false
open Go
def dY (G:Nat→List SV→SV→Prop):Prop:=∀ f l s s',G f l s→G f l s'→s=s'
section
variable {P:PX} {G:Nat→List SV→SV→Prop} {ρ ρ' ρ2:Rho} {st st' st2:Sx}
def subst (s:Sb) (ρ:Rho):Rho:=fun j=>⟨(s.t j).ev ρ,(ρ (s.l j)).l,(s.g j).den ρ⟩
theorem jNg (s:Sb):∀ l,(jNx s l).ev ρ=evL (subst s ρ) l
 | []=>by simp [jNx,LT.ev,evL]
 | p::r=>by simp only [jNx,yA,vZ,jNg s r,evL]; rfl
@[simp] theorem qW (s:Sb) (t:LT):(t.inst s).ev ρ=t.ev (subst s ρ):=by simp only [LT.inst,jF,jNg]; simp only [LT.ev]; omega
theorem Gn.inst_den (s:Sb) (g:Gn):(g.inst s).den ρ=g.den (subst s ρ):=by
 obtain ⟨v,o⟩:=g;cases v with
 | zero=>rfl
 | succ j=>
  simp only [Gn.inst,Gn.den,subst];show _+((s.g j).o+o)=_;omega
mutual
theorem SX.inst_den (s:Sb):∀ x:SX,(x.inst s).den ρ=x.den (subst s ρ)
 | .b _=>rfl
 | .bv t=>by simp only [SX.inst,SX.den,qW]
 | .i k t=>by simp only [SX.inst,SX.den,qW]
 | .s a c=>by simp only [SX.inst,SX.den,qW]
 | .p0=>rfl
 | .sl0=>rfl
 | .tp i g o=>by simp only [SX.inst,SX.den,Gn.inst_den]
 | .te i g k o=>by simp only [SX.inst,SX.den,Gn.inst_den,qW]
 | .ts i g k o=>by simp only [SX.inst,SX.den,Gn.inst_den,qW]
 | .q T r k=>by simp only [SX.inst,SX.den,qW]
 | .qp T r o=>by simp only [SX.inst,SX.den,qW]
 | .qs j=>rfl
 | .xs a c=>by simp only [SX.inst,SX.den,qW]
 | .f fn a c=>by simp only [SX.inst,SX.den,vE s a,vE s c]
 | .agg l=>by simp only [SX.inst,SX.den,vE s l]
 | .tup l=>by simp only [SX.inst,SX.den,vE s l]
 | .fis t=>by simp only [SX.inst,SX.den,qW]
 | .fqs=>rfl
theorem vE (s:Sb):∀ l:List SX,jR ρ (nS s l)=jR (subst s ρ) l
 | []=>rfl
 | x::l=>by simp only [nS,jR,SX.inst_den s x,vE s l]
end
theorem HCX.inst_den (s:Sb) (c:HCX):(c.inst s).den ρ=c.den (subst s ρ):=by
 cases c with
 | l m=>simp only [HCX.inst,HCX.den,vE]
 | r T R k=>simp only [HCX.inst,HCX.den,qW]
 | xs j=>rfl
 | rl T R k m=>simp only [HCX.inst,HCX.den,qW,vE]
 | dead=>rfl
theorem vD (s:Sb):∀ H:List HX,denH ρ (gF s H)=denH (subst s ρ) H
 | []=>rfl
 | h::r=>by
  have:=vD s r;simp only [denH] at this;simp only [gF,denH,List.map_cons,this,HX.den,Gn.inst_den,HCX.inst_den]
theorem lX (s:Sb):∀ E:EX,denE ρ (jAj s E)=denE (subst s ρ) E
 | []=>rfl
 | p::r=>by simp only [jAj,denE,SX.inst_den,lX s r]
theorem TE.inst_holds (s:Sb) (t:TE):(t.inst s).holds G ρ↔t.holds G (subst s ρ):=by
 cases t with
 | by_ c i r=>simp only [TE.inst,TE.holds,qW]
 | el j i a c=>simp only [TE.inst,TE.holds,qW]; rfl
 | ln j a m=>simp only [TE.inst,TE.holds,qW]; rfl
 | ca f a r=>simp only [TE.inst,TE.holds,vE,SX.inst_den]
 | dv a b q=>simp only [TE.inst,TE.holds,qW]
 | ng g c a b=>simp only [TE.inst,TE.holds,qW]
structure Fx (G:Nat→List SV→SV→Prop) (ρ:Rho) (F N:List LT) (B:List TE):Prop where
 F:∀ t,t∈F→0≤t.ev ρ
 N:∀ t,t∈N→t.ev ρ≠0
 B:∀ t,t∈B→t.holds G ρ
theorem lY {s:Sb} {x:LT}:∀ {l:List LT},x∈wV s l→∃ t,t∈l∧x=t.inst s
 | [],h=>by cases h
 | t::r,h=>by
  simp only [wV,List.mem_cons] at h;rcases h with h | h
  ·exact ⟨t,List.mem_cons_self .., h⟩
  ·obtain ⟨t',h1,h2⟩:=lY h; exact ⟨t',List.mem_cons_of_mem _ h1,h2⟩
theorem jDr {s:Sb} {t:LT}:∀ {l:List LT},t∈l→t.inst s∈wV s l
 | [],h=>by cases h
 | a::r,h=>by
  simp only [wV,List.mem_cons] at h ⊢;rcases h with h | h
  ·exact .inl (by rw [h])
  ·exact .inr (jDr h)
theorem jHr {s:Sb} {x:TE}:∀ {l:List TE},x∈nI s l→∃ t,t∈l∧x=t.inst s
 | [],h=>by cases h
 | t::r,h=>by
  simp only [nI,List.mem_cons] at h;rcases h with h | h
  ·exact ⟨t,List.mem_cons_self .., h⟩
  ·obtain ⟨t',h1,h2⟩:=jHr h; exact ⟨t',List.mem_cons_of_mem _ h1,h2⟩
theorem jNw {s:Sb} {t:TE}:∀ {l:List TE},t∈l→t.inst s∈nI s l
 | [],h=>by cases h
 | a::r,h=>by
  simp only [nI,List.mem_cons] at h ⊢;rcases h with h | h
  ·exact .inl (by rw [h])
  ·exact .inr (jNw h)
theorem Fx.inst {s:Sb} {F N:List LT} {B:List TE}:Fx G ρ (wV s F) (wV s N) (nI s B)↔Fx G (subst s ρ) F N B:=by
 constructor
 ·intro h;exact ⟨fun t ht=>by have:=h.F _ (jDr ht); rwa [qW] at this,fun t ht=>by have:=h.N _ (jDr ht); rwa [qW] at this,fun t ht=>(TE.inst_holds s t).1 (h.B _ (jNw ht))⟩
 ·intro h;refine ⟨fun x hx=>?_,fun x hx=>?_,fun x hx=>?_⟩
  ·obtain ⟨t,ht,rfl⟩:=lY hx; rw [qW]; exact h.F t ht
  ·obtain ⟨t,ht,rfl⟩:=lY hx; rw [qW]; exact h.N t ht
  ·obtain ⟨t,ht,rfl⟩:=jHr hx; exact (TE.inst_holds s t).2 (h.B t ht)
mutual
theorem jJz (hi:Inv G ρ st) {x y:SX} {k:An} (h:ok (eqv st x y k)):x.den ρ=y.den ρ∧ok k:=by
 unfold eqv at h;split at h
 ·rename_i a b;obtain ⟨h1,h⟩:=jA h;refine ⟨?_,h⟩;cases a<;>cases b<;>simp_all [SX.den]
 ·obtain ⟨h1,h⟩:=qT h hi;exact ⟨by simp only [SX.den,h1],h⟩
 ·rename_i s y;split at h
  ·rename_i e;obtain ⟨h1,h⟩:=jA h;refine ⟨?_,h⟩;have es:s.ev ρ=s.c:=by simp only [LT.ev,e,evL]; omega
   simp only [SX.den,es];cases y with
   | true=>have:=mK h1; rw [decide_eq_true (by omega)]
   | false=>have:=mK h1; rw [decide_eq_false (by omega)]
  ·exact (jB h).elim
 ·obtain ⟨h0,h⟩:=jA h;obtain ⟨h1,h⟩:=qT h hi;exact ⟨by simp only [SX.den,h1,jJy h0],h⟩
 ·obtain ⟨h1,h⟩:=qT h hi;obtain ⟨h2,h⟩:=qT h hi;exact ⟨by simp only [SX.den,h1,h2],h⟩
 ·exact ⟨rfl,h⟩
 ·exact ⟨rfl,h⟩
 ·obtain ⟨h0,h⟩:=jA h;simp only [Bool.and_eq_true] at h0;exact ⟨by simp only [SX.den,Nat.eq_of_beq_eq_true h0.1,Gn.beq_ok h0.2.1,Nat.eq_of_beq_eq_true h0.2.2],h⟩
 ·obtain ⟨h0,h⟩:=jA h;simp only [Bool.and_eq_true] at h0;obtain ⟨h1,h⟩:=qT h hi;exact ⟨by simp only [SX.den,h1,Nat.eq_of_beq_eq_true h0.1,Gn.beq_ok h0.2.1,Nat.eq_of_beq_eq_true h0.2.2],h⟩
 ·obtain ⟨h0,h⟩:=jA h;simp only [Bool.and_eq_true] at h0;obtain ⟨h1,h⟩:=qT h hi;exact ⟨by simp only [SX.den,h1,Nat.eq_of_beq_eq_true h0.1,Gn.beq_ok h0.2.1,Nat.eq_of_beq_eq_true h0.2.2],h⟩
 ·obtain ⟨h0,h⟩:=jA h;obtain ⟨h1,h⟩:=qT h hi;obtain ⟨h2,h⟩:=qT h hi;exact ⟨by simp only [SX.den,h1,h2,Nat.eq_of_beq_eq_true h0],h⟩
 ·obtain ⟨h0,h⟩:=jA h;simp only [Bool.and_eq_true] at h0;obtain ⟨h1,h⟩:=qT h hi;exact ⟨by simp only [SX.den,h1,Nat.eq_of_beq_eq_true h0.1,Nat.eq_of_beq_eq_true h0.2],h⟩
 ·obtain ⟨h0,h⟩:=jA h;exact ⟨by simp only [SX.den,Nat.eq_of_beq_eq_true h0],h⟩
 ·obtain ⟨h1,h⟩:=qT h hi;obtain ⟨h2,h⟩:=qT h hi;exact ⟨by simp only [SX.den,h1,h2],h⟩
 ·obtain ⟨h0,h⟩:=jA h;obtain ⟨h1,h⟩:=gX hi h;obtain ⟨h2,h⟩:=gX hi h;exact ⟨by simp only [SX.den,h1,h2,Nat.eq_of_beq_eq_true h0],h⟩
 ·obtain ⟨h1,h⟩:=gX hi h;exact ⟨by simp only [SX.den,h1],h⟩
 ·obtain ⟨h1,h⟩:=gX hi h;exact ⟨by simp only [SX.den,h1],h⟩
 ·obtain ⟨h1,h⟩:=qT h hi;exact ⟨by simp only [SX.den,h1],h⟩
 ·exact ⟨rfl,h⟩
 ·exact (jB h).elim
 termination_by SizeOf.sizeOf x
theorem gX (hi:Inv G ρ st) {x y:List SX} {k:An} (h:ok (jGm st x y k)):jR ρ x=jR ρ y∧ok k:=by
 unfold jGm at h;split at h
 ·exact ⟨rfl,h⟩
 ·obtain ⟨h1,h⟩:=jJz hi h;obtain ⟨h2,h⟩:=gX hi h;exact ⟨by simp only [jR,h1,h2],h⟩
 ·exact (jB h).elim
 termination_by SizeOf.sizeOf x
end
theorem qBl (hi:Inv G ρ st) {x y:HCX} {k:An} (h:ok (eqC st x y k)):x.den ρ=y.den ρ∧ok k:=by
 unfold eqC at h;split at h
 ·obtain ⟨h1,h⟩:=gX hi h;exact ⟨by simp only [HCX.den,h1],h⟩
 ·obtain ⟨h0,h⟩:=jA h;obtain ⟨h1,h⟩:=qT h hi;obtain ⟨h2,h⟩:=qT h hi;exact ⟨by simp only [HCX.den,h1,h2,Nat.eq_of_beq_eq_true h0],h⟩
 ·obtain ⟨h0,h⟩:=jA h;exact ⟨by simp only [HCX.den,Nat.eq_of_beq_eq_true h0],h⟩
 ·exact ⟨rfl,h⟩
 ·exact (jB h).elim
theorem jJw (hi:Inv G ρ st):∀ {x y:List HX} {k:An},ok (eqH st x y k)→denH ρ x=denH ρ y∧ok k
 | [],[],k,h=>⟨rfl,h⟩
 | [],_::_,k,h=>(jB h).elim
 | _::_,[],k,h=>(jB h).elim
 | x::l,y::m,k,h=>by
  obtain ⟨h0,h⟩:=jA h;rw [Bool.and_eq_true] at h0;obtain ⟨h1,h⟩:=qBl hi h;obtain ⟨h2,h⟩:=jJw hi h;refine ⟨?_,h⟩;simp only [denH] at h2;simp only [denH,List.map_cons,HX.den,h1,h2,Nat.eq_of_beq_eq_true h0.1,Gn.beq_ok h0.2]
theorem qCb (hi:Inv G ρ st) {p t:TE} (h:ok (jUr st p t)) (ht:t.holds G ρ):p.holds G ρ:=by
 unfold jUr at h;split at h
 ·obtain ⟨h0,h⟩:=jA h;obtain ⟨h1,h⟩:=qT h hi;obtain ⟨h2,h⟩:=qT h hi;simp only [TE.holds] at ht ⊢;rw [LT.beq_ok h0,h1,h2]; exact ht
 ·obtain ⟨h0,h⟩:=jA h;obtain ⟨h1,h⟩:=qT h hi;obtain ⟨h2,h⟩:=qT h hi;obtain ⟨h3,h⟩:=qT h hi;simp only [TE.holds] at ht ⊢;rw [Nat.eq_of_beq_eq_true h0,h1,h2,h3]; exact ht
 ·obtain ⟨h0,h⟩:=jA h;obtain ⟨h1,h⟩:=qT h hi;obtain ⟨h2,h⟩:=jD h hi;rw [jT] at h2;simp only [TE.holds] at ht ⊢;rw [Nat.eq_of_beq_eq_true h0,h1];exact ⟨ht.1,fun p hp=>by have:=ht.2 p hp; omega⟩
 ·obtain ⟨h0,h⟩:=jA h;obtain ⟨h1,h⟩:=gX hi h;obtain ⟨h2,h⟩:=jJz hi h;simp only [TE.holds] at ht ⊢;rw [Nat.eq_of_beq_eq_true h0,h1,h2]; exact ht
 ·exact (jB h).elim
theorem jDo {p:TE}:∀ {l:List TE} {j:Nat} {a:An},(lV st p l)[j]?=some a→∃ t,t∈l∧a=jUr st p t
 | [],j,a,h=>by simp [lV] at h
 | t::r,0,a,h=>by simp [lV] at h; exact ⟨t,List.mem_cons_self .., h.symm⟩
 | t::r,j+1,a,h=>by
  simp [lV] at h;obtain ⟨t',h1,h2⟩:=jDo h;exact ⟨t',List.mem_cons_of_mem _ h1,h2⟩
theorem jKh (hi:Inv G ρ st):∀ {l:List TE} {k:An},ok (hasB st l k)→(∀ t,t∈l→t.holds G ρ)∧ok k
 | [],k,h=>⟨fun t ht=>(by cases ht),h⟩
 | p::r,k,h=>by
  unfold hasB at h;split at h
  ·rename_i g c a b;obtain ⟨h0,h⟩:=gE hi h;obtain ⟨h1,h2⟩:=jKh hi h;exact ⟨fun x hx=>by rcases List.mem_cons.1 hx with rfl | hx; exact h0; exact h1 x hx,h2⟩
  ·obtain ⟨j,a,hj,ha,h⟩:=pE h;obtain ⟨t,ht,rfl⟩:=jDo hj;obtain ⟨h1,h2⟩:=jKh hi h;exact ⟨fun x hx=>by rcases List.mem_cons.1 hx with rfl | hx; exact qCb hi ha (hi.B t ht); exact h1 x hx,h2⟩
theorem eW (hi:Inv G ρ st) {F N:List LT} {B:List TE} {k:An} (h:ok (tH st F N B k)):Fx G ρ F N B∧ok k:=by
 obtain ⟨h1,h⟩:=aN h hi;obtain ⟨h2,h⟩:=rY hi h;obtain ⟨h3,h⟩:=jKh hi h;exact ⟨⟨h1,h2,h3⟩,h⟩
theorem jMh:∀ {l:List LT} {st:Sx} {k:Sx→An},ok (jTr l st k)→Inv G ρ st→(∀ t,t∈l→0≤t.ev ρ)→∃ st',Nx G ρ st ρ st'∧ok (k st')
 | [],st,k,h,hi,hp=>⟨st,Nx.refl hi,h⟩
 | t::r,st,k,h,hi,hp=>by
  obtain ⟨s1,n1,h⟩:=qK (k:=fun st=>jTr r st k) h hi (hp t (List.mem_cons_self ..));obtain ⟨s2,n2,h⟩:=jMh h n1.inv fun x hx=>hp x (List.mem_cons_of_mem _ hx);exact ⟨s2,n1.trans n2,h⟩
theorem jMi:∀ {l:List LT} {st:Sx} {k:Sx→An},ok (jTt l st k)→Inv G ρ st→(∀ t,t∈l→t.ev ρ≠0)→∃ st',Nx G ρ st ρ st'∧ok (k st')
 | [],st,k,h,hi,hp=>⟨st,Nx.refl hi,h⟩
 | t::r,st,k,h,hi,hp=>by
  obtain ⟨s1,n1,h⟩:=jTs (k:=fun st=>jTt r st k) h hi (hp t (List.mem_cons_self ..));obtain ⟨s2,n2,h⟩:=jMi h n1.inv fun x hx=>hp x (List.mem_cons_of_mem _ hx);exact ⟨s2,n1.trans n2,h⟩
theorem sB {f:Nat} {l:List SX} {v:SX}:∀ {B:List TE},oC f l B=some v→∃ a,(.ca f a v:TE)∈B∧jGj a l=true
 | [],h=>by cases h
 | t::r,h=>by
  simp only [oC] at h;split at h
  ·rename_i g a v';cases q:(Nat.beq g f&&jGj a l) with
   | true=>
    rw [q] at h;simp at h;subst h;rw [Bool.and_eq_true] at q;rw [←Nat.eq_of_beq_eq_true q.1];exact ⟨a,List.mem_cons_self .., q.2⟩
   | false=>
    rw [q] at h;obtain ⟨a,h1,h2⟩:=sB h;exact ⟨a,List.mem_cons_of_mem _ h1,h2⟩
  ·obtain ⟨a,h1,h2⟩:=sB h;exact ⟨a,List.mem_cons_of_mem _ h1,h2⟩
mutual
theorem SX.beq_ok {x y:SX} (h:x.beq y=true):x=y:=by
 unfold SX.beq at h;split at h
 ·rename_i a b; cases a<;>cases b<;>simp_all
 ·rw [LT.beq_ok h]
 ·rw [Bool.and_eq_true] at h; rw [jJy h.1,LT.beq_ok h.2]
 ·rw [Bool.and_eq_true] at h; rw [LT.beq_ok h.1,LT.beq_ok h.2]
 ·rfl
 ·rfl
 ·simp only [Bool.and_eq_true] at h; rw [Nat.eq_of_beq_eq_true h.1,Gn.beq_ok h.2.1,Nat.eq_of_beq_eq_true h.2.2]
 ·simp only [Bool.and_eq_true] at h; rw [Nat.eq_of_beq_eq_true h.1,Gn.beq_ok h.2.1,LT.beq_ok h.2.2.1,Nat.eq_of_beq_eq_true h.2.2.2]
 ·simp only [Bool.and_eq_true] at h; rw [Nat.eq_of_beq_eq_true h.1,Gn.beq_ok h.2.1,LT.beq_ok h.2.2.1,Nat.eq_of_beq_eq_true h.2.2.2]
 ·simp only [Bool.and_eq_true] at h; rw [Nat.eq_of_beq_eq_true h.1,LT.beq_ok h.2.1,LT.beq_ok h.2.2]
 ·simp only [Bool.and_eq_true] at h; rw [Nat.eq_of_beq_eq_true h.1,LT.beq_ok h.2.1,Nat.eq_of_beq_eq_true h.2.2]
 ·rw [Nat.eq_of_beq_eq_true h]
 ·rw [Bool.and_eq_true] at h; rw [LT.beq_ok h.1,LT.beq_ok h.2]
 ·simp only [Bool.and_eq_true] at h; rw [Nat.eq_of_beq_eq_true h.1,mC h.2.1,mC h.2.2]
 ·rw [mC h]
 ·rw [mC h]
 ·rw [LT.beq_ok h]
 ·rfl
 ·cases h
 termination_by SizeOf.sizeOf x
theorem mC {x y:List SX} (h:jGj x y=true):x=y:=by
 unfold jGj at h;split at h
 ·rfl
 ·rw [Bool.and_eq_true] at h; rw [SX.beq_ok h.1,mC h.2]
 ·cases h
 termination_by SizeOf.sizeOf x
end
theorem jJf {v w:SX} {k:Sx→An} (h:ok (jLs v w st k)) (hi:Inv G ρ st) (e:v.den ρ=w.den ρ):∃ st',Nx G ρ st ρ st'∧ok (k st'):=by
 unfold jLs at h;split at h
 ·simp only [SX.den,SV.i.injEq] at e;obtain ⟨s1,n1,h⟩:=qK h hi (by rw [jT]; omega)
  obtain ⟨s2,n2,h⟩:=qK h n1.inv (by rw [jT]; omega)
  exact ⟨s2,n1.trans n2,h⟩
 ·simp only [SX.den,SV.b.injEq] at e;subst e;rename_i x;cases x<;>exact ⟨st,Nx.refl hi,h⟩
 ·exact ⟨st,Nx.refl hi,h⟩
 ·rename_i a y;simp only [SX.den,SV.b.injEq] at e;rcases zE h with ⟨q,h⟩ | ⟨q,h⟩
  ·rw [q,decide_eq_true_eq] at e;exact qK h hi (by rw [jF]; omega)
  ·rw [q,decide_eq_false_iff_not] at e;exact qK h hi (by rw [qY]; omega)
 ·rename_i y a;simp only [SX.den,SV.b.injEq] at e;rcases zE h with ⟨q,h⟩ | ⟨q,h⟩
  ·rw [q] at e;have e:=e.symm;rw [decide_eq_true_eq] at e;exact qK h hi (by rw [jF]; omega)
  ·rw [q] at e;have e:=e.symm;rw [decide_eq_false_iff_not] at e;exact qK h hi (by rw [qY]; omega)
 ·exact ⟨st,Nx.refl hi,h⟩
theorem jJg:∀ {l m:List SX} {st:Sx} {k:Sx→An},ok (jLt l m st k)→Inv G ρ st→jR ρ l=jR ρ m→∃ st',Nx G ρ st ρ st'∧ok (k st')
 | [],m,st,k,h,hi,e=>⟨st,Nx.refl hi,h⟩
 | _::_,[],st,k,h,hi,e=>⟨st,Nx.refl hi,h⟩
 | x::l,y::m,st,k,h,hi,e=>by
  simp only [jR,List.cons.injEq] at e;obtain ⟨s1,n1,h⟩:=jJf (k:=fun st=>jLt l m st k) h hi e.1;obtain ⟨s2,n2,h⟩:=jJg h n1.inv e.2;exact ⟨s2,n1.trans n2,h⟩
theorem qFy {v w:SX} {k:Sx→An} (h:ok (qFx v w st k)) (hi:Inv G ρ st) (e:v.den ρ=w.den ρ):∃ st',Nx G ρ st ρ st'∧ok (k st'):=by
 unfold qFx at h;split at h
 ·simp only [SX.den,SV.tup.injEq] at e;exact jJg h hi e
 ·exact jJf h hi e
theorem jTp (hG:dY G) {t:TE} {k:Sx→An} (h:ok (qGk t st k)) (hi:Inv G ρ st) (hs:t.sc st.n=true) (ht:t.holds G ρ):∃ st',Nx G ρ st ρ st'∧ok (k st'):=by
 unfold qGk at h;split at h
 ·rename_i c i r;split at h
  ·rename_i r' e;have h2:=hi.B _ (dF e);simp only [TE.holds] at ht h2;rw [h2] at ht;obtain ⟨s1,n1,h⟩:=qK h hi (by rw [jT]; omega)
   obtain ⟨s2,n2,h⟩:=qK h n1.inv (by rw [jT]; omega)
   exact ⟨s2,n1.trans n2,h⟩
  ·exact ⟨_,hi.addB hs ht,h⟩
 ·rename_i f a v;split at h
  ·rename_i v' e;obtain ⟨a',h1,h2⟩:=sB e;have h3:=hi.B _ h1;rw [mC h2] at h3;exact qFy h hi (hG _ _ _ _ h3 ht)
  ·exact ⟨_,hi.addB hs ht,h⟩
 ·exact ⟨_,hi.addB hs ht,h⟩
theorem jMg (hG:dY G):∀ {l:List TE} {st:Sx} {k:Sx→An},ok (jTq l st k)→Inv G ρ st→(∀ t,t∈l→t.holds G ρ)→∃ st',Nx G ρ st ρ st'∧ok (k st')
 | [],st,k,h,hi,hp=>⟨st,Nx.refl hi,h⟩
 | t::r,st,k,h,hi,hp=>by
  obtain ⟨h0,h⟩:=jA h;obtain ⟨s1,n1,h⟩:=jTp hG (k:=fun st=>jTq r st k) h hi h0 (hp t (List.mem_cons_self ..));obtain ⟨s2,n2,h⟩:=jMg hG h n1.inv fun x hx=>hp x (List.mem_cons_of_mem _ hx);exact ⟨s2,n1.trans n2,h⟩
theorem jGz (hG:dY G) {F N:List LT} {B:List TE} {k:Sx→An} (h:ok (jQw F N B st k)) (hi:Inv G ρ st) (hp:Fx G ρ F N B):∃ st',Nx G ρ st ρ st'∧ok (k st'):=by
 obtain ⟨s1,n1,h⟩:=jMg hG h hi hp.B;obtain ⟨s2,n2,h⟩:=jMh h n1.inv hp.F;obtain ⟨s3,n3,h⟩:=jMi h n2.inv hp.N;exact ⟨s3,(n1.trans n2).trans n3,h⟩
end
end
noncomputable section
set_option linter.all false
open Go
def qKb (G:Nat→List SV→SV→Prop) (ct:CtX) (d:Nat) (l:List SV) (H:Hp) (Q:Q2):Prop:=
 ∃ ρ:Rho,ct.dep.ev ρ≤d∧l=jR ρ ct.args∧H=denH ρ ct.H∧Fx G ρ ct.F ct.N ct.B∧∀ p,p∈ct.posts→∀ ρ':Rho,(∀ j,j<ct.np→ρ' j=ρ j)→Fx G ρ' p.F p.N p.B→Q (p.r.den ρ') (denH ρ' p.H)
def Gam (P:PX) (G:Nat→List SV→SV→Prop):qJ:=fun d f l H Q=>∃ ct,ct∈P.cs f∧qKb G ct d l H Q
section
variable {P:PX} {G:Nat→List SV→SV→Prop} {ρ ρ' ρ2:Rho} {st st' st2:Sx}
theorem vY {a b:Nat}:Nat.blt a b=true↔a<b:=⟨fun h=>Nat.le_of_ble_eq_true h,fun h=>Nat.ble_eq_true_of_le h⟩
theorem yS {a b:Nat} (h:¬ a<b):Nat.blt a b=false:=by cases q:Nat.blt a b; rfl; exact absurd (vY.1 q) h
theorem jPw {s:Sb} {n:Nat}:∀ {np:Nat},jJb s n np=true→∀ v,v<np→(s.t v).sc n=true∧s.l v<n∧(s.g v).sc n=true
 | 0,h,v,hv=>by omega
 | np+1,h,v,hv=>by
  simp only [jJb,Bool.and_eq_true] at h;by_cases e:v=np
  ·subst e; exact ⟨h.1,vY.1 h.2.1,h.2.2.1⟩
  ·exact jPw h.2.2.2 v (by omega)
theorem jFc {np:Nat} {s:Sb} {B:List TE} {v:Nat} {x:LT}:∀ {l:List TE},(v,x)∈resolve np s B l→∃ c i b,(.by_ c i b:TE)∈l∧(∀ ρ:Rho,b.ev ρ=(ρ v).z)∧(.by_ (c.inst s) (i.inst s) x:TE)∈B
 | [],h=>by cases h
 | t::r,h=>by
  have back:(v,x)∈resolve np s B r→∃ c i b,(.by_ c i b:TE)∈t::r∧(∀ ρ:Rho,b.ev ρ=(ρ v).z)∧(.by_ (c.inst s) (i.inst s) x:TE)∈B:=fun h=>by
   obtain ⟨c,i,b,h1,h2⟩:=jFc h;exact ⟨c,i,b,List.mem_cons_of_mem _ h1,h2⟩
  simp only [resolve] at h;split at h
  ·rename_i c i b;split at h
   ·rename_i q hb;cases e:(Nat.ble np q.1&&(eqI q.2 1&&isZ b.c)) with
    | false=>rw [e] at h; exact back h
    | true=>
     rw [e] at h;simp only [cond_true] at h;split at h
     ·rename_i x' hx;rcases List.mem_cons.1 h with h | h
      ·cases h;simp only [Bool.and_eq_true] at e;refine ⟨c,i,b,List.mem_cons_self .., fun ρ=>?_,dF hx⟩;have e2:=jJx e.2.1;have e3:=e.2.2;rw [wW,decide_eq_true_eq] at e3;simp only [LT.ev,hb,evL,e2,e3]; omega
      ·exact back h
     ·exact back h
   ·exact back h
  ·exact back h
theorem qCr {v:Nat} {d:LT}:∀ {rs:List (Nat×LT)},lkT rs v d=d∨(v,lkT rs v d)∈rs
 | []=>.inl rfl
 | p::r=>by
  simp only [lkT];cases e:Nat.beq p.1 v with
  | true=>exact .inr (by rw [←Nat.eq_of_beq_eq_true e]; exact List.mem_cons_self ..)
  | false=>
   rcases qCr (v:=v) (d:=d) (rs:=r) with h | h
   ·exact .inl h
   ·exact .inr (List.mem_cons_of_mem _ h)
theorem qFi (hG:dY G) {np:Nat} {s:Sb} {p:dZ} {k:SX→List HX→Sx→An} (h:ok (jWv np s st p k)) (hi:Inv G ρ st) (hs:jJb s st.n np=true) (hp:jKs np p=true) {ρc:Rho}
  (hag:∀ j,j<np→ρc j=subst s ρ j) (hf:Fx G ρc p.F p.N p.B):∃ st' ρ' v H',Nx G ρ st ρ' st'∧ok (k v H' st')∧v.den ρ'=p.r.den ρc∧denH ρ' H'=denH ρc p.H:=by
 unfold jWv at h;rw [xP] at h;simp only [jKs,Bool.and_eq_true] at hp;obtain ⟨pr,pH,pF,pN,pB⟩:=hp
 let s0:=qMo np st.n s
 let s':=qQl (resolve np s0 st.B p.B) s0
 let ρ':Rho:=fun j=>if j<st.n then ρ j else if j<st.n+p.k then ρc (np+(j - st.n)) else ρ j
 have n1:Nx G ρ st ρ' (st.up (st.n+p.k)):=hi.up (Nat.le_add_right _ _) fun j hj=>by show (if j<st.n then ρ j else _)=_; rw [if_pos hj]
 have c1:∀ v,v<np+p.k→subst s0 ρ' v=ρc v:=by
  intro v hv;by_cases q:v<np
  ·obtain ⟨a1,a2,a3⟩:=jPw hs v q;rw [hag v q];have hb:Nat.blt v np=true:=vY.2 q;show (⟨_,_,_⟩:Rv)=⟨_,_,_⟩;have e1:s0.t v=s.t v:=by show (bif Nat.blt v np then _ else _)=_; rw [hb]; rfl
   have e2:s0.l v=s.l v:=by show (bif Nat.blt v np then _ else _)=_; rw [hb]; rfl
   have e3:s0.g v=s.g v:=by show (bif Nat.blt v np then _ else _)=_; rw [hb]; rfl
   rw [e1,e2,e3,n1.lt a1,n1.ag _ a2,Gn.agree n1.ag a3]
  ·have hb:Nat.blt v np=false:=yS q;have e1:s0.t v = .var (st.n+(v - np)):=by show (bif Nat.blt v np then _ else _)=_; rw [hb]; rfl
   have e2:s0.l v=st.n+(v - np):=by show (bif Nat.blt v np then _ else _)=_; rw [hb]; rfl
   have e3:s0.g v=⟨Nat.succ (st.n+(v - np)),0⟩:=by show (bif Nat.blt v np then _ else _)=_; rw [hb]; rfl
   have e4:ρ' (st.n+(v - np))=ρc v:=by
    show (if st.n+(v - np)<st.n then _ else if st.n+(v - np)<st.n+p.k then _ else _)=_
    rw [if_neg (by omega),if_pos (by omega)]
    congr 1; omega
   show (⟨(s0.t v).ev ρ',(ρ' (s0.l v)).l,(s0.g v).den ρ'⟩:Rv)=ρc v;rw [e1,e2,e3,qC,e4];show (⟨(ρc v).z,(ρc v).l,(ρ' (st.n+(v - np))).g+0⟩:Rv)=ρc v;rw [e4];rfl
 have c2:∀ v,v<np+p.k→subst s' ρ' v=ρc v:=by
  intro v hv;have hz:(s'.t v).ev ρ'=(s0.t v).ev ρ':=by
   rcases qCr (v:=v) (d:=s0.t v) (rs:=resolve np s0 st.B p.B) with q | q
   ·show (lkT _ v (s0.t v)).ev ρ'=_; rw [q]
   ·obtain ⟨c,i,b,h1,h2,h3⟩:=jFc q;have k1:=hf.B _ h1;have k2:=n1.inv.B _ h3;have k3:=jBu.1 pB _ h1;simp only [TE.sc,Bool.and_eq_true] at k3;simp only [TE.holds,qW] at k1 k2;rw [jI (ρ':=subst s0 ρ') (ρ:=ρc) c1 k3.1,jI (ρ':=subst s0 ρ') (ρ:=ρc) c1 k3.2.1,k1,h2] at k2;show (lkT _ v (s0.t v)).ev ρ'=_;rw [←k2,←c1 v hv]; rfl
  rw [←c1 v hv];show (⟨(s'.t v).ev ρ',_,_⟩:Rv)=⟨(s0.t v).ev ρ',_,_⟩;rw [hz]; rfl
 have hf':Fx G (subst s' ρ') p.F p.N p.B:=⟨fun t ht=>by rw [jI c2 (iO.1 pF t ht)]; exact hf.F t ht,fun t ht=>by rw [jI c2 (iO.1 pN t ht)]; exact hf.N t ht,fun t ht=>(TE.agree c2 (jBu.1 pB t ht)).2 (hf.B t ht)⟩
 obtain ⟨st',n2,h⟩:=jGz hG h n1.inv (Fx.inst.2 hf');exact ⟨st',ρ',_,_,n1.trans n2,h,by rw [SX.inst_den]; exact SX.agree c2 pr,by rw [vD]; exact xM c2 pH⟩
theorem jGe {np:Nat} {s:Sb} {k:SX→List HX→Sx→An}:∀ {l:List dZ},ok (jTh np s st l k)→∀ p,p∈l→ok (jWv np s st p k)
 | [],h,p,hp=>by cases hp
 | q::r,h,p,hp=>by
  obtain ⟨h1,h2⟩:=zJ h;rcases List.mem_cons.1 hp with rfl | hp
  ·exact h1
  ·exact jGe h2 p hp
theorem rJ {lo hi':Nat} {s:Bd→Sb}:∀ {l:List TE} {σ:Bd} {k:Bd→An},ok (jMj lo hi' s st l σ k)→∃ σ',ok (k σ')
 | [],σ,k,h=>⟨σ,h⟩
 | p::r,σ,k,h=>by
  simp only [jMj] at h;obtain ⟨c,h⟩:=mS h;split at h
  ·exact rJ h
  ·split at h
   ·exact rJ h
   ·exact rJ h
theorem jWs {cur:LT} {f:Nat} {l:List SX} {H:List HX} {k:CtX→Sb→An} {ct:CtX} (h:ok (qFe cur f l H st k ct)) (hi:Inv G ρ st) :
  ∃ s,jJb s st.n ct.np=true∧jR (subst s ρ) ct.args=jR ρ l∧denH (subst s ρ) ct.H=denH ρ H∧ct.dep.ev (subst s ρ)≤cur.ev ρ - 1∧Fx G (subst s ρ) ct.F ct.N ct.B∧ok (k ct s):=by
 obtain ⟨σ,h⟩:=rJ h;obtain ⟨h0,h⟩:=jA h;obtain ⟨h1,h⟩:=gX hi h;obtain ⟨h2,h⟩:=jJw hi h;obtain ⟨h3,h⟩:=jD h hi;obtain ⟨h4,h⟩:=eW hi h;rw [jT,jF,qW] at h3;exact ⟨_,h0,by rw [←vE]; exact h1,by rw [←vD]; exact h2,by omega,Fx.inst.1 h4,h⟩
theorem jWt {cur:LT} {f:Nat} {l:List SX} {H:List HX} {k:CtX→Sb→An} {cts:List CtX} (h:ok (qJu cur f l H st k cts)):∃ ct,ct∈cts∧ok (qFe cur f l H st k ct):=by
 unfold qJu at h;split at h
 ·exact ⟨_,List.mem_cons_self .., h⟩
 ·obtain ⟨j,a,hj,ha,h⟩:=pE h;rw [jZ] at h;split at h
  ·rename_i ct e;exact ⟨ct,List.mem_of_getElem? e,h⟩
  ·exact (jB h).elim
theorem jAp {np:Nat}:∀ {l:List dZ},jBr np l=true→∀ p,p∈l→jKs np p=true
 | [],h,p,hp=>by cases hp
 | q::r,h,p,hp=>by
  simp only [jBr,Bool.and_eq_true] at h;rcases List.mem_cons.1 hp with rfl | hp
  ·exact h.1
  ·exact jAp h.2 p hp
def PSc (P:PX):Prop:=∀ f ct,ct∈P.cs f→jRd ct=true
theorem jGd (hG:dY G) (hP:PSc P) {cur:LT} {f:Nat} {l:List SX} {H:List HX} {k:SX→List HX→Sx→An} (h:ok (xCt P cur f l H st k)) (hi:Inv G ρ st) {d:Nat} (hd:cur.ev ρ≤d+1) {Q:Q2}
  (hk:∀ v H' st' ρ',Nx G ρ st ρ' st'→ok (k v H' st')→Q (v.den ρ') (denH ρ' H')):Gam P G d f (jR ρ l) (denH ρ H) Q:=by
 obtain ⟨ct,hct,h⟩:=jWt h;obtain ⟨s,h0,h1,h2,h3,h4,h⟩:=jWs h hi;have hsc:=hP f ct hct;simp only [jRd,Bool.and_eq_true] at hsc;refine ⟨ct,hct,subst s ρ,by omega,h1.symm,h2.symm,h4,fun p hp ρc hag hf=>?_⟩
 obtain ⟨st',ρ',v,H',n1,h5,h6,h7⟩:=qFi hG (jGe h p hp) hi h0 (jAp hsc.1 p hp) hag hf;rw [←h6,←h7];exact hk v H' st' ρ' n1 h5
def HC (G:Nat→List SV→SV→Prop) (ρ:Rho) (st:Sx) (k:SX→List Nat→Sx→An) (Q:SV→List Nat→Prop):Prop:=∀ v fr st' ρ',Nx G ρ st ρ' st'→v.sc st'.n=true→ok (k v fr st')→Q (v.den ρ') fr
theorem qFq {T:Nat} {v:SX} {Q':SX→List Nat→Sx→An} {Q:SV→List Nat→Prop} (h:ok (qFp P T v st Q')) (hi:Inv G ρ st) (hv:v.sc st.n=true) (hk:HC G ρ st Q' Q):qAm (P.C G) (denH ρ st.H) T (v.den ρ) Q:=by
 unfold qFp at h;split at h
 ·have:=hk _ _ _ _ (Nx.refl hi) rfl h;simp only [SX.den,qR] at this; exact this
 ·exact hk _ _ _ _ (Nx.refl hi) hv h
 ·rename_i i g n sz;simp only [SX.sc,Bool.and_eq_true] at hv;simp only [SX.den,qAm];split at h
  ·rename_i hb e;refine uT e ?_;have hs:=(kA hi.h (fO e).1).2;split at h
   ·rename_i T' R m hc;rw [hc] at hs;simp only [HCX.sc,Bool.and_eq_true] at hs;simp only [HX.den,hc,HCX.den];obtain ⟨hnb,h⟩:=jD h hi;rw [jF,qY] at hnb;have hb12:jGk=1000000:=rfl;have hNB:NB=1000000:=rfl;exact ⟨by omega,hk _ _ _ _ (Nx.refl hi) (by simp only [SX.sc,Bool.and_eq_true]; exact ⟨hs.1,hv.2⟩) h⟩
   ·rename_i l hc;rw [hc] at hs;obtain ⟨h1,h⟩:=jA h;rw [Bool.and_eq_true] at h1;simp only [HX.den,hc,HCX.den];rw [lZ,h1.1];have key:=nQ (Q:=fun R=>(n.ev ρ).toNat≤NB∧Q (.q T R (n.ev ρ).toNat) [i]) h hi fun R hR h=>by
     obtain ⟨hnb,h⟩:=jD h hi;obtain ⟨hsc,h⟩:=jA h;rw [jF,qY] at hnb;have hb12:jGk=1000000:=rfl;have hNB:NB=1000000:=rfl;have:=hk _ _ _ _ (Nx.refl hi) (by simp only [SX.sc,Bool.and_eq_true]; exact ⟨hsc,hv.2⟩) h
     simp only [SX.den] at this;exact ⟨by omega,this⟩
    simp only [req];have en:(n.ev ρ).toNat=n.c.toNat:=by rw [wC h1.2]
    rw [en] at key ⊢;exact key
   ·exact (jB h).elim
  ·exact (jB h).elim
 ·exact (jB h).elim
theorem qFs {v:SX} {Q':SX→List Nat→Sx→An} {Q:SV→List Nat→Prop} (h:ok (qFr v st Q')) (hi:Inv G ρ st) (hv:v.sc st.n=true) (hk:HC G ρ st Q' Q):qAn (denH ρ st.H) (v.den ρ) Q:=by
 unfold qFr at h;split at h
 ·obtain ⟨ρ',n1,e1,h⟩:=oB hi (L:=[]) (n:=.con 0) (m:=.con 0) ⟨by simp,fun p hp=>by cases hp⟩ (xT _) (xT _) h
  have:=hk (.qs st.n) [] _ _ n1 (Nat.ble_eq_true_of_le (Nat.le_refl _)) h;change Q (.qs (ρ' st.n).l) [] at this;rw [e1] at this;exact this
 ·exact hk _ _ _ _ (Nx.refl hi) hv h
 ·rename_i i g n sz;simp only [SX.den,qAn];split at h
  ·rename_i hb e;refine uT e ?_;have hs:=(kA hi.h (fO e).1).2;split at h
   ·rename_i j hc;rw [hc] at hs;simp only [HX.den,hc,HCX.den];exact hk (.qs j) [i] _ _ (Nx.refl hi) hs h
   ·exact (jB h).elim
  ·exact (jB h).elim
 ·exact (jB h).elim
mutual
theorem jXa:∀ (t:AT) {v:SX} {st:Sx} {ρ:Rho} {Q':SX→List Nat→Sx→An} {Q:SV→List Nat→Prop},ok (jLr P t v st Q')→Inv G ρ st→v.sc st.n=true→HC G ρ st Q' Q→can (P.C G) (denH ρ st.H) t (v.den ρ) Q
 | .any,v,st,ρ,Q',Q,h,hi,hv,hk=>by
  simp only [jLr] at h;simp only [can];exact hk _ _ _ _ (Nx.refl hi) hv h
 | .q T,v,st,ρ,Q',Q,h,hi,hv,hk=>by
  simp only [jLr] at h;simp only [can];exact qFq h hi hv hk
 | .qs,v,st,ρ,Q',Q,h,hi,hv,hk=>by
  simp only [jLr] at h;simp only [can];exact qFs h hi hv hk
 | .x w,v,st,ρ,Q',Q,h,hi,hv,hk=>by
  simp only [jLr] at h;exact (jB h).elim
 | .agg ts,v,st,ρ,Q',Q,h,hi,hv,hk=>by
  cases v<;>simp only [jLr] at h<;>try exact (jB h).elim
  ·rename_i l;simp only [SX.den,can];exact pY ts h hi hv fun v fr st' ρ' n hs h=>by
    have:=hk (.agg v) fr st' ρ' n hs h;simp only [SX.den] at this; exact this
  ·rename_i l;simp only [SX.den,can];exact pY ts h hi hv fun v fr st' ρ' n hs h=>by
    have:=hk (.tup v) fr st' ρ' n hs h;simp only [SX.den] at this; exact this
theorem pY:∀ (ts:List AT) {l:List SX} {st:Sx} {ρ:Rho} {Q':List SX→List Nat→Sx→An} {Q:List SV→List Nat→Prop},ok (pX P ts l st Q')→Inv G ρ st→scs st.n l=true →
  (∀ v fr st' ρ',Nx G ρ st ρ' st'→scs st'.n v=true→ok (Q' v fr st')→Q (jR ρ' v) fr)→aT (P.C G) (denH ρ st.H) ts (jR ρ l) Q
 | [],[],st,ρ,Q',Q,h,hi,hv,hk=>by
  simp only [pX] at h;simp only [jR,aT];exact hk [] [] st ρ (Nx.refl hi) rfl h
 | [],_::_,st,ρ,Q',Q,h,hi,hv,hk=>by simp only [pX] at h; exact (jB h).elim
 | _::_,[],st,ρ,Q',Q,h,hi,hv,hk=>by simp only [pX] at h; exact (jB h).elim
 | t::ts,v::l,st,ρ,Q',Q,h,hi,hv,hk=>by
  simp only [pX] at h;simp only [scs,Bool.and_eq_true] at hv;simp only [jR,aT];refine jXa t (Q:=fun v f=>aT (P.C G) (denH ρ st.H) ts (jR ρ l) fun l f'=>Q (v::l) (f++f')) h hi hv.1 fun v1 f1 st1 ρ1 n1 s1 h=>?_;have:=pY ts (Q:=fun l f'=>Q (v1.den ρ1::l) (f1++f')) h n1.inv (yV n1.n hv.2) fun l2 f2 st2 ρ2 n2 s2 h=>by
   have:=hk (v1::l2) (f1++f2) st2 ρ2 (n1.trans n2) (by simp only [scs,Bool.and_eq_true]; exact ⟨SX.mono n2.n s1,s2⟩) h
   simp only [jR,n2.sx s1] at this;exact this
  rw [n1.denH hi,xN n1.ag hv.2] at this;exact this
end
theorem jCs (l:List Nat):∀ H:List HX,denH ρ (kI H l)=yI (denH ρ H) l:=by
 induction l with
 | nil=>intro H; rfl
 | cons i r ih=>intro H; simp only [kI,yI,ih,fV]
theorem oV {n:Nat} (l:List Nat):∀ {H:List HX},scH n H=true→scH n (kI H l)=true:=by
 induction l with
 | nil=>intro H h; exact h
 | cons i r ih=>intro H h; exact ih (gM h)
mutual
theorem oG:∀ x:SX,wJ (x.den ρ)=pA x
 | .b _=>rfl
 | .bv _=>rfl
 | .i _ _=>rfl
 | .s _ _=>rfl
 | .p0=>rfl
 | .sl0=>rfl
 | .tp _ _ _=>rfl
 | .te _ _ _ _=>rfl
 | .ts _ _ _ _=>rfl
 | .q _ _ _=>rfl
 | .qp _ _ _=>rfl
 | .qs _=>rfl
 | .xs _ _=>rfl
 | .f _ a c=>by simp only [SX.den,wJ,pA,wX a,wX c]
 | .agg l=>by simp only [SX.den,wJ,pA,wX l]
 | .tup l=>by simp only [SX.den,wJ,pA,wX l]
 | .fis _=>rfl
 | .fqs=>rfl
theorem wX:∀ l:List SX,gI (jR ρ l)=nJ l
 | []=>rfl
 | x::l=>by simp only [jR,gI,nJ,oG x,wX l]
end
theorem aF:∀ (n:Nat) (H:List HX),denH ρ (jAa n H)=pS n (denH ρ H)
 | 0,H=>rfl
 | n+1,[]=>rfl
 | n+1,a::l=>by
  have:=aF n l;simp only [denH] at this;simp only [jAa,denH,List.map_cons,pS,this]
theorem dG:∀ H:List HX,vJ (denH ρ H)=mQ H
 | []=>rfl
 | hb::r=>by
  have:=dG r;simp only [denH] at this;simp only [denH,List.map_cons,vJ,mQ,this]
  congr 1
  cases hc:hb.c with
  | l l=>simp only [HX.den,hc,HCX.den,wX]
  | r T R n=>simp only [HX.den,hc,HCX.den]
  | xs j=>simp only [HX.den,hc,HCX.den]
  | rl T R n l=>simp only [HX.den,hc,HCX.den,wX]
  | dead=>simp only [HX.den,hc,HCX.den]
theorem jYo (l:List Nat) (H:List HX):nW (denH ρ H) l=jVf H l:=by
 induction l with
 | nil=>rfl
 | cons i r ih=>
  simp only [nW,jVf,ih]
  congr 1
  cases e:zO H i with
  | none=>rw [lN e]
  | some hb=>
   rw [bU e];cases hc:hb.c with
   | l l=>simp only [HX.den,hc,HCX.den]
   | r T R n=>simp only [HX.den,hc,HCX.den]
   | xs j=>simp only [HX.den,hc,HCX.den]
   | rl T R n l=>simp only [HX.den,hc,HCX.den]
   | dead=>simp only [HX.den,hc,HCX.den]
theorem jNp (H:List HX) (k:Nat):jYg (denH ρ H) k=jHq H k:=by simp only [jYg,jHq,←aF,dG]
mutual
theorem nR:∀ x:SX,jU (x.den ρ)=jAi x
 | .b _=>rfl
 | .bv _=>rfl
 | .i _ _=>rfl
 | .s _ _=>rfl
 | .p0=>rfl
 | .sl0=>rfl
 | .tp _ _ _=>rfl
 | .te _ _ _ _=>rfl
 | .ts _ _ _ _=>rfl
 | .q _ _ _=>rfl
 | .qp _ _ _=>rfl
 | .qs _=>rfl
 | .xs _ _=>rfl
 | .f _ a c=>rfl
 | .agg l=>rfl
 | .tup l=>by simp only [SX.den,jU,jAi,rW l]
 | .fis _=>rfl
 | .fqs=>rfl
theorem rW:∀ l:List SX,vM (jR ρ l)=lS l
 | []=>rfl
 | x::l=>by simp only [jR,vM,lS,nR x,rW l]
end
mutual
theorem jOj:∀ x:SX,gT (x.den ρ)=jOi x
 | .b _=>rfl
 | .bv _=>rfl
 | .i _ _=>rfl
 | .s _ _=>rfl
 | .p0=>rfl
 | .sl0=>rfl
 | .tp _ _ _=>rfl
 | .te _ _ _ _=>rfl
 | .ts _ _ _ _=>rfl
 | .q _ _ _=>rfl
 | .qp _ _ _=>rfl
 | .qs _=>rfl
 | .xs _ _=>rfl
 | .f _ a c=>rfl
 | .agg l=>by simp only [SX.den,gT,jOi,oH l]
 | .tup l=>by simp only [SX.den,gT,jOi,oH l]
 | .fis _=>rfl
 | .fqs=>rfl
theorem oH:∀ l:List SX,iB (jR ρ l)=jEe l
 | []=>rfl
 | x::l=>by simp only [jR,iB,jEe,jOj x,oH l]
end
theorem jFh {n:Nat}:∀ {H K:List HX},scH n H=true→scH n K=true→scH n (H++K)=true
 | [],K,h,k=>k
 | a::l,K,h,k=>by simp only [List.cons_append,scH,Bool.and_eq_true] at h ⊢; exact ⟨h.1,h.2.1,jFh h.2.2 k⟩
theorem jPg {n:Nat}:∀ {k:Nat} {H:List HX},scH n H=true→scH n (yB k H)=true
 | 0,H,h=>h
 | k+1,[],h=>rfl
 | k+1,a::l,h=>by simp only [scH,yB,Bool.and_eq_true] at h ⊢; exact jPg h.2.2
theorem jRf (k:Nat) (H:List HX):yB k (denH ρ H)=denH ρ (yB k H):=bV _ _ _
theorem qFc (hG:dY G) (hP:PSc P) {Γ:qJ} (hΓ:∀ d f l H Q,Gam P G d f l H Q→Γ d f l H Q) {cur:LT} {f:Nat} {l:List SX} {fr:List Nat} {Q':KO} {Q:QO} {d:Nat} (hd:cur.ev ρ≤d+1) (hi:Inv G ρ st) (hk:HO G ρ st Q' Q):∀ {k:Nat},ok (jQk P cur f l fr st Q' k)→jQf (P.C G) Γ d f (jR ρ l) (denH ρ st.H) fr Q k
 | 0,h=>by
  simp only [jQk] at h;simp only [jQf];have:=hΓ _ _ _ _ _ <| jGd hG hP (H:=[]) (Q:=fun v _=>brn (jU v&&nW (denH ρ st.H) fr) (Q v (denH ρ st.H) ⟨true,fr⟩) (Q v (yI (denH ρ st.H) fr) ⟨true,1000000000::fr⟩)) h hi hd fun v H' st' ρ' n h=>by
   rw [nR,jYo];rw [n.H] at h;rcases zE h with ⟨e,h⟩ | ⟨e,h⟩
   ·rw [e];have:=hk _ _ _ _ n.ny h;rw [n.denH hi] at this;exact this
   ·rw [e];have:=hk _ _ _ _ (n.setH (H:=kI st.H fr) (vW n.n (oV fr hi.h))) h;change Q _ (denH ρ' (kI st.H fr)) _ at this;rw [xM n.ag (oV fr hi.h),jCs] at this;exact this
  exact this
 | k+1,h=>by
  simp only [jQk] at h;obtain ⟨h1,h⟩:=jA h;simp only [jQf];simp only [Bool.and_eq_true] at h1;rw [wX,←jCs,←aF,dG,wT,h1.1,h1.2.1,h1.2.2];simp only [Bool.and_self,req];refine hΓ _ _ _ _ _ <| jGd hG hP h hi hd fun v H' st' ρ' n h=>?_;obtain ⟨h2,h⟩:=jA h;rw [n.H] at h;have hs:scH st.n (yB (k+1) (kI st.H fr))=true:=jPg (oV fr hi.h);have:=hk _ _ _ _ (n.setH (H:=H'++yB (k+1) (kI st.H fr)) (jFh h2 (vW n.n hs))) h;change Q _ (denH ρ' (H'++yB (k+1) (kI st.H fr))) _ at this;rw [aW,xM n.ag hs] at this;rw [jRf];exact this
theorem jUe:∀ (ts:List AT) (l:List SX),jR ρ (cnX ts l)=cnL ts (jR ρ l)
 | [],l=>by cases l<;>simp only [cnX,cnL]
 | t::ts,[]=>by simp only [cnX,jR,cnL]
 | t::ts,v::l=>by
  have ih:=jUe ts l;simp only [cnX,jR,cnL,ih]
  congr 1
  cases t<;>cases v<;>first | rfl | (simp only [SX.den])
theorem qAs {n:Nat}:∀ (ts:List AT) {l:List SX},scs n l=true→scs n (cnX ts l)=true
 | [],l,h=>by simpa only [cnX] using h
 | t::ts,[],h=>by simpa only [cnX] using h
 | t::ts,v::l,h=>by
  simp only [scs,Bool.and_eq_true] at h;simp only [cnX,scs,qAs ts h.2,Bool.and_true];split
  ·rfl
  ·exact h.1
theorem qJs (hb:HX):(qEw P hb).den ρ=wkB (P.C G) (hb.den ρ):=by
 unfold qEw wkB;have e0:(P.C G).bt (hb.den ρ).e=P.bt hb.e:=rfl;cases hc:hb.c with
 | l l=>
  simp only [HX.den,hc,HCX.den];show _=(match P.bt hb.e with | some ts=>_ | none=>_)
  cases P.bt hb.e with
  | none=>simp only [HX.den,hc,HCX.den]
  | some ts=>simp only [HX.den,HCX.den,jUe]
 | r T R n=>simp only [HX.den,hc,HCX.den]
 | xs j=>simp only [HX.den,hc,HCX.den]
 | rl T R n l=>simp only [HX.den,hc,HCX.den]
 | dead=>simp only [HX.den,hc,HCX.den]
theorem jWr:∀ H:List HX,denH ρ (jQh P H)=wkH (P.C G) (denH ρ H)
 | []=>rfl
 | a::l=>by
  have:=jWr l;simp only [denH] at this;simp only [jQh,denH,List.map_cons,wkH,this,qJs (G:=G)]
theorem qEx {n:Nat}:∀ {H:List HX},scH n H=true→scH n (jQh P H)=true
 | [],_=>rfl
 | a::l,h=>by
  simp only [scH,Bool.and_eq_true] at h;simp only [jQh,scH,Bool.and_eq_true];refine ⟨?_,?_,qEx h.2.2⟩
  ·unfold qEw; split
   ·exact h.1
   ·split<;>exact h.1
   ·exact h.1
  ·unfold qEw; split
   ·rename_i e; have:=h.2.1; rw [e] at this; simp only [HCX.sc,Bool.and_eq_true] at this ⊢; exact ⟨this.1,this.2.1⟩
   ·rename_i m e;have h2:=h.2.1;split
    ·rw [e] at h2;exact qAs _ h2
    ·exact h2
   ·exact h.2.1
theorem qJt (hG:dY G) (hP:PSc P) {Γ:qJ} (hΓ:∀ d f l H Q,Gam P G d f l H Q→Γ d f l H Q) {cur:LT} {f:Nat} {l:List SX} {Q':KO} {Q:QO} {d:Nat} (hc:cur.sc st.n=true) (hd:cur.ev ρ≤d+1) (h:ok (pX P (P.sg f).1 l st fun l fr st=>jQk P cur f l fr st Q' (jHq st.H (jHq st.H (nJ l))))) (hi:Inv G ρ st) (hl:scs st.n l=true) (hk:HO G ρ st Q' Q):qNd (P.C G) Γ d f (jR ρ l) (denH ρ st.H) Q:=by
 unfold qNd;refine pY _ h hi hl fun v fr st' ρ' n hs h=>?_;rw [←n.denH hi,wX,jNp,jNp];have hd':cur.ev ρ'≤d+1:=by rw [n.lt hc]; exact hd
 exact qFc hG hP hΓ hd' n.inv (hk.go n) h
def jFp (ρ:Rho):List SX→List (Nat×Nat)
 | .s n c::r=>((n.ev ρ).toNat,(c.ev ρ).toNat)::jFp ρ r
 | _=>[]
theorem jWi {m:LT}:∀ {l:List SX} {k:An},ok (pQ st m l k)→Inv G ρ st→(∀ Q:List (Nat×Nat)→Prop,Q (jFp ρ l)→vN (jR ρ l) Q)∧(jFp ρ l).length=l.length∧(∀ p,p∈jFp ρ l→(p.1:Int)≤m.ev ρ)∧ok k
 | [],k,h,hi=>⟨fun Q q=>q,rfl,fun p hp=>(by cases hp),h⟩
 | x::r,k,h,hi=>by
  cases x<;>try exact (jB h).elim
  rename_i n c;simp only [pQ] at h;obtain ⟨h0,h⟩:=jD h hi;obtain ⟨h1,h⟩:=jD h hi;rw [jT] at h1;obtain ⟨k1,k2,k3,h⟩:=jWi h hi;refine ⟨fun Q q=>?_,by simp [jFp,k2],fun p hp=>?_,h⟩
  ·simp only [jR,SX.den,vN];exact k1 _ q
  ·rcases List.mem_cons.1 hp with rfl | hp
   ·show (((n.ev ρ).toNat:Nat):Int)≤m.ev ρ;omega
   ·exact k3 p hp
theorem jUi {ρ':Rho} {j:Nat}:∀ {l:List SX} {k:Nat} {L:List (Nat×Nat)},(∀ i,(ρ' j).l[k+i]?=(jFp ρ l)[i]?)→(∀ n c,SX.s n c∈l→n.ev ρ'=n.ev ρ∧c.ev ρ'=c.ev ρ)→∀ t,t∈jJt j k l→t.holds G ρ'
 | [],k,L,h,e,t,ht=>by simp [jJt] at ht
 | x::r,k,L,h,e,t,ht=>by
  cases x<;>simp only [jJt,List.not_mem_nil] at ht;rename_i n c;rcases List.mem_cons.1 ht with rfl | ht
  ·obtain ⟨e1,e2⟩:=e n c (List.mem_cons_self ..);have:=h 0;simp only [jFp,List.getElem?_cons_zero,Nat.add_zero] at this;simp only [TE.holds,qR,e1,e2];simpa using this
  ·exact jUi (L:=L) (fun i=>by
    have:=h (i+1);simp only [jFp,List.getElem?_cons_succ] at this;rw [←this]; congr 1; omega) (fun n c hm=>e n c (List.mem_cons_of_mem _ hm)) t ht
theorem jUj {n j:Nat} (hj:j<n):∀ {l:List SX} {k:Nat},scs n l=true→∀ t,t∈jJt j k l→t.sc n=true
 | [],k,h,t,ht=>by simp [jJt] at ht
 | x::r,k,h,t,ht=>by
  simp only [scs,Bool.and_eq_true] at h;cases x<;>simp only [jJt,List.not_mem_nil] at ht;rename_i a c;rcases List.mem_cons.1 ht with rfl | ht
  ·have:=h.1;simp only [SX.sc,Bool.and_eq_true] at this;simp only [TE.sc,Bool.and_eq_true];exact ⟨Nat.ble_eq_true_of_le hj,xT _,this.1,this.2⟩
  ·exact jUj hj h.2 t ht
theorem jLz (hi:Inv G ρ st):∀ {l:List TE},(∀ t,t∈l→t.sc st.n=true∧t.holds G ρ)→Nx G ρ st ρ (jZz st l)
 | [],_=>Nx.refl hi
 | t::r,h=>by
  have n1:=jLz hi (l:=r) fun t ht=>h t (List.mem_cons_of_mem _ ht);obtain ⟨h1,h2⟩:=h t (List.mem_cons_self ..);exact n1.trans (n1.inv.addB (TE.mono n1.n h1) h2)
theorem jOa {l:List SX} {n:LT} {k:Nat→Sx→An} (h:ok (qCq st l n k)) (hi:Inv G ρ st):(∀ Q:List (Nat×Nat)→Prop,Q (jFp ρ l)→vN (jR ρ l) Q)∧∃ ρ' st',Nx G ρ st ρ' st'∧(ρ' st.n).l=jFp ρ l∧st.n<st'.n∧ok (k st.n st'):=by
 obtain ⟨h0,h⟩:=jA h;rw [Bool.and_eq_true] at h0;obtain ⟨k1,k2,k3,h⟩:=jWi h hi;obtain ⟨h2,h⟩:=qT h hi;obtain ⟨n1,e,h⟩:=zU h hi ⟨0,jFp ρ l,0⟩;have n2:=jLz n1.inv (l:=jJt st.n 0 l++[.ln st.n (.con (.ofNat (jP l))) (mxS 0 l)]) (fun t ht=>by
  rcases List.mem_append.1 ht with ht | ht
  ·refine ⟨jUj (Nat.lt_succ_self _) (yV n1.n h0.1) t ht,jUi (ρ:=ρ) (L:=[]) (fun i=>?_) (fun a c hm=>?_) t ht⟩
   ·rw [e,Nat.zero_add]
   ·have:=sJ.1 h0.1 _ hm;simp only [SX.sc,Bool.and_eq_true] at this;exact ⟨n1.lt this.1,n1.lt this.2⟩
  ·simp only [List.mem_singleton] at ht;subst ht;refine ⟨by simp only [TE.sc,Bool.and_eq_true]; exact ⟨Nat.ble_eq_true_of_le (Nat.le_refl _),xT _,jE n1.n h0.2⟩,?_⟩
   simp only [TE.holds,e,qR,n1.lt h0.2];exact ⟨by rw [k2,qG]; rfl,k3⟩)
 exact ⟨k1,_,_,n1.trans n2,by rw [e],Nat.lt_of_lt_of_le (Nat.lt_succ_self _) n2.n,h⟩
theorem qIc {v:SX} {Q':SX→Sx→An} {Q:SV→Hp→Prop} (h:ok (qLq v st Q')) (hi:Inv G ρ st) (hv:v.sc st.n=true) (hk:∀ v' st' ρ',Ny G ρ st ρ' st'→v'.sc st'.n=true→ok (Q' v' st')→Q (v'.den ρ') (denH ρ' st'.H)):qCp (denH ρ st.H) (v.den ρ) Q:=by
 have now:ok (Q' v st)→Q (v.den ρ) (denH ρ st.H):=fun h=>hk v st ρ (Nx.refl hi).ny hv h;unfold qLq at h;split at h
 ·rename_i i g n sz;simp only [SX.den,qCp];split at h
  ·rename_i hb e;have hs0:=kA hi.h e;rw [bU e];simp only;split at h
   ·rename_i l hc;simp only [HX.den,hc,HCX.den];obtain ⟨h1,h⟩:=jA h;rw [Bool.and_eq_true] at h1;have egg:=Gn.beq_ok h1.1;have b1:(Nat.beq (hb.g.den ρ) (g.den ρ)&&Nat.beq sz 1)=true:=by rw [egg,h1.2]; simp
    rw [b1];simp only [req];obtain ⟨k1,ρ2,s2,n2,e2,lt2,h⟩:=jOa h hi;refine k1 _ ?_;simp only [SX.sc,Bool.and_eq_true] at hv;have hs3:scH s2.n (jG s2.H i ⟨hb.e,g.up,.xs st.n⟩)=true:=vH (hb:=⟨hb.e,g.up,.xs st.n⟩) (Gn.mono n2.n (Gn.up_sc hv.1)) (Nat.ble_eq_true_of_le lt2) n2.inv.h;have:=hk (.ts i g.up n 1) _ _ (n2.setH hs3) (by simp only [SX.sc,Bool.and_eq_true]; exact ⟨Gn.mono n2.n (Gn.up_sc hv.1),jE n2.n hv.2⟩) h
    change Q _ (denH ρ2 (jG s2.H i ⟨hb.e,g.up,.xs st.n⟩)) at this;rw [←uH,n2.denH hi] at this;simp only [SX.den,HX.den,HCX.den,Gn.up_den,e2,n2.lt hv.2] at this;rw [Gn.agree n2.ag hv.1] at this;exact this
   ·rename_i hne;have:=now h;simp only [SX.den] at this;cases hc:hb.c with
    | l l=>exact absurd hc (hne l)
    | r T R k=>simp only [HX.den,hc,HCX.den]; exact this
    | xs j=>simp only [HX.den,hc,HCX.den]; exact this
    | rl T R k m=>simp only [HX.den,hc,HCX.den]; exact this
    | dead=>simp only [HX.den,hc,HCX.den]; exact this
  ·rename_i e;rw [lN e];have:=now h;simp only [SX.den] at this; exact this
 ·rename_i hne;have:=now h;cases v with
  | ts i g n sz=>exact absurd rfl (hne i g n sz)
  | _=>exact this
theorem jGg:∀ (ts:List AT) {l:List SX} {st:Sx} {ρ:Rho} {Q':List SX→Sx→An} {Q:List SV→Hp→Prop},ok (jQo ts l st Q')→Inv G ρ st→scs st.n l=true→(∀ l' st' ρ',Ny G ρ st ρ' st'→scs st'.n l'=true→ok (Q' l' st')→Q (jR ρ' l') (denH ρ' st'.H))→lits ts (jR ρ l) (denH ρ st.H) Q
 | [],l,st,ρ,Q',Q,h,hi,hl,hk=>by
  have:ok (Q' l st):=by cases l<;>exact h
  have:=hk l st ρ (Nx.refl hi).ny hl this;cases l<;>exact this
 | t::ts,[],st,ρ,Q',Q,h,hi,hl,hk=>hk [] st ρ (Nx.refl hi).ny hl h
 | t::ts,v::l,st,ρ,Q',Q,h,hi,hl,hk=>by
  simp only [jQo] at h;simp only [scs,Bool.and_eq_true] at hl;simp only [jR,lits];rcases zE h with ⟨e,h⟩ | ⟨e,h⟩
  ·rw [e];simp only [brn];refine qIc (Q:=fun v H=>lits ts (jR ρ l) H fun l H=>Q (v::l) H) h hi hl.1 fun v' st' ρ' n hv h=>?_;rw [←xN n.ag hl.2];exact jGg ts h n.inv (yV n.n hl.2) fun l' st2 ρ2 n2 hl' h=>by
    have:=hk (v'::l') st2 ρ2 (n.trans n2) (by simp only [scs,Bool.and_eq_true]; exact ⟨SX.mono n2.n hv,hl'⟩) h
    simp only [jR,SX.agree n2.ag hv] at this;exact this
  ·rw [e];simp only [brn];exact jGg ts h hi hl.2 fun l' st2 ρ2 n2 hl' h=>by
    have:=hk (v::l') st2 ρ2 n2 (by simp only [scs,Bool.and_eq_true]; exact ⟨SX.mono n2.n hl.1,hl'⟩) h
    simp only [jR,SX.agree n2.ag hl.1] at this;exact this
theorem qFd (hG:dY G) (hP:PSc P) {Γ:qJ} (hΓ:∀ d f l H Q,Gam P G d f l H Q→Γ d f l H Q) {cur:LT} {f:Nat} {l:List SX} {Q':KO} {Q:QO} {d:Nat} (hc:cur.sc st.n=true) (hd:cur.ev ρ≤d+1) (h:ok (xCf P cur f l st Q')) (hi:Inv G ρ st) (hl:scs st.n l=true) (hk:HO G ρ st Q' Q):wCf (P.C G) Γ d f (jR ρ l) (denH ρ st.H) Q:=by
 unfold xCf at h;unfold wCf;have y1:Ny G ρ st ρ (st.setH (jQh P st.H)):=(Nx.refl hi).setH (qEx hi.h);rw [←jWr (G:=G)];refine jGg (st:=st.setH (jQh P st.H)) _ h y1.inv hl fun l' st' ρ' n hl' h=>?_;exact qJt hG hP hΓ (jE (y1.trans n).n hc) (by rw [jI (y1.trans n).ag hc]; exact hd) h n.inv hl' fun v st2 t ρ2 n2 h=>hk v st2 t ρ2 ((y1.trans n).trans n2) h
theorem tE:∀ {l:List dZ},rV l=true→∀ p,p∈l→jAi p.r=true
 | [],h,p,hp=>by cases hp
 | q::r,h,p,hp=>by
  simp only [rV,Bool.and_eq_true] at h;rcases List.mem_cons.1 hp with rfl | hp
  ·exact h.1
  ·exact tE h.2 p hp
theorem qOb (hG:dY G) (hP:PSc P) {Γ:qJ} (hΓ:∀ d f l H Q,Gam P G d f l H Q→Γ d f l H Q) {cur:LT} {f:Nat} {l:List SX} {Q':KO} {Q:QO} {d:Nat} (hd:cur.ev ρ≤d+1) (h:ok (xCp P cur f l st Q')) (hi:Inv G ρ st) (hk:HO G ρ st Q' Q):wCp (P.C G) Γ d f (jR ρ l) (denH ρ st.H) Q:=by
 unfold xCp at h;obtain ⟨h0,h⟩:=jA h;rw [Bool.and_eq_true] at h0;unfold wCp;rw [rW,h0.1];simp only [req];rcases zE h with ⟨_,h⟩ | ⟨_,h⟩
 ·refine hΓ _ _ _ _ _ <| jGd hG hP (H:=[]) h hi hd fun v H' st' ρ' n h=>?_;obtain ⟨h1,h⟩:=jA h;rw [Bool.and_eq_true] at h1;rw [nR,h1.1];intro hg;obtain ⟨s2,n2,h⟩:=jTp hG (t:=.ca f l v) h n.inv (by simp only [TE.sc,Bool.and_eq_true]; exact ⟨yV n.n h0.2,h1.2⟩) (by
   simp only [TE.holds,xN n.ag h0.2]; exact hg)
  have:=hk _ _ _ _ (n.trans n2).ny h;rw [(n.trans n2).denH hi] at this;exact this
 split at h
 ·rename_i v e;obtain ⟨a,h1,h2⟩:=sB e;have h3:=hi.B _ h1;rw [mC h2] at h3;obtain ⟨ct,hct,h⟩:=jWt h;obtain ⟨s,q0,q1,q2,q3,q4,h⟩:=jWs h hi;obtain ⟨h4,h⟩:=jA h;refine hΓ _ _ _ _ _ ⟨ct,hct,subst s ρ,by omega,q1.symm,q2.symm,q4,fun p hp ρc hag hf=>?_⟩
  simp only [nR,tE h4 p hp];intro hg;have:p.r.den ρc=v.den ρ:=hG _ _ _ _ hg h3;rw [this];exact hk _ _ _ _ (Nx.refl hi).ny h
 ·refine hΓ _ _ _ _ _ <| jGd hG hP (H:=[]) h hi hd fun v H' st' ρ' n h=>?_;obtain ⟨h1,h⟩:=jA h;rw [Bool.and_eq_true] at h1;rw [nR,h1.1];intro hg;have n2:=n.inv.addB (t:=.ca f l v) (by simp only [TE.sc,Bool.and_eq_true]; exact ⟨yV n.n h0.2,h1.2⟩) (by
   simp only [TE.holds,xN n.ag h0.2]; exact hg)
  have:=hk _ _ _ _ (n.trans n2).ny h;rw [(n.trans n2).denH hi] at this;exact this
theorem qOc (hG:dY G) (hP:PSc P) {Γ:qJ} (hΓ:∀ d f l H Q,Gam P G d f l H Q→Γ d f l H Q) {cur:LT} {f:Nat} {l:List SX} {Q':KO} {Q:QO} {d:Nat} (hd:cur.ev ρ≤d+1) (h:ok (xCq P cur f l st Q')) (hi:Inv G ρ st) (hk:HO G ρ st Q' Q):wCq (P.C G) Γ d f (jR ρ l) (denH ρ st.H) Q:=by
 unfold xCq at h;obtain ⟨h0,h⟩:=jA h;unfold wCq;rw [rW,h0];simp only [req];refine hΓ _ _ _ _ _ <| jGd hG hP (H:=[]) h hi hd fun v H' st' ρ' n h=>?_;obtain ⟨h1,h⟩:=jA h;rw [jOj,h1];have:=hk _ _ _ _ n.ny h;rw [n.denH hi] at this;exact this
theorem jHe:∀ {l:List SX} {k:An},ok (jJp st l k)→Inv G ρ st→lC (jR ρ l)∧ok k
 | [],k,h,hi=>⟨trivial,h⟩
 | x::l,k,h,hi=>by
  cases x<;>try exact (jB h).elim
  rename_i kd t;cases kd<;>try exact (jB h).elim
  simp only [jJp] at h;obtain ⟨h1,h⟩:=jD h hi;obtain ⟨h2,h⟩:=jD h hi;rw [jF,qY] at h2;obtain ⟨h3,h⟩:=jHe h hi;exact ⟨⟨⟨h1,by omega⟩,h3⟩,h⟩
theorem qNz {x:SX} {Q':K1} {Q:P1} (h:ok (xBt x st Q')) (hi:Inv G ρ st) (hx:x.sc st.n=true) (hk:HK G ρ st Q' Q):wBt (denH ρ st.H) (x.den ρ) Q:=by
 unfold xBt at h;split at h
 ·rename_i i g n sz;simp only [SX.sc,Bool.and_eq_true] at hx;obtain ⟨h1,h⟩:=jA h;simp only [SX.den,wBt,h1,req];split at h
  ·rename_i hb e;refine uT e ?_;split at h
   ·rename_i l hc;simp only [HX.den,hc,HCX.den];obtain ⟨h2,h⟩:=jHe h hi;refine ⟨h2,fun w=>?_⟩;obtain ⟨n1,e1,h⟩:=zU h hi ⟨(w:Int),[],0⟩;have:=hk _ _ _ n1 h;simp only [SX.den,qC,e1,n1.lt hx.2] at this;exact this
   ·exact (jB h).elim
  ·exact (jB h).elim
 ·exact (jB h).elim
theorem jAh (a b:List SX):jR ρ (a++b)=jR ρ a++jR ρ b:=by simp only [xV,List.map_append]
theorem jFi {n:Nat} {a b:List SX} (h:scs n a=true) (k:scs n b=true):scs n (a++b)=true:=sJ.2 fun t ht=>by rcases List.mem_append.1 ht with ht | ht; exact sJ.1 h t ht; exact sJ.1 k t ht
theorem qOd (hG:dY G) (hP:PSc P) {Γ:qJ} (hΓ:∀ d f l H Q,Gam P G d f l H Q→Γ d f l H Q) {cur:LT} {x:SX} {l:List SX} {Q':KO} {Q:QO} {d:Nat} (hc:cur.sc st.n=true) (hd:cur.ev ρ≤d+1) (h:ok (xCv P cur x l st Q')) (hi:Inv G ρ st) (hx:x.sc st.n=true) (hl:scs st.n l=true) (hk:HO G ρ st Q' Q):wCv (P.C G) Γ d (x.den ρ) (jR ρ l) (denH ρ st.H) Q:=by
 unfold xCv at h;split at h
 ·rename_i fn a c;simp only [SX.sc,Bool.and_eq_true] at hx;simp only [SX.den,wCv];rw [←jAh,←jAh];exact qFd hG hP hΓ hc hd h hi (jFi (jFi hx.1 hl) hx.2) hk
 ·exact (jB h).elim
theorem jEh {z:List AV} (h:gJ z=true):jR ρ (oJ z)=ofAs z:=dL z h
theorem jKe {Q':KO} {Q:QO} (hk:HO G ρ st Q' Q):HO G ρ st (jYf Q') (jAw Q):=by
 intro v s1 t ρ1 n h;have hi:=n.inv;unfold jYf at h;split at h
 ·rename_i i g m z;simp only [SX.den,jAw];split at h
  ·rename_i hb e;refine uT e ?_;have hs0:=kA hi.h (fO e).1;split at h
   ·rename_i T R k hc;simp only [HX.den,hc,HCX.den];obtain ⟨h1,h⟩:=jD h hi;obtain ⟨h2,h⟩:=jA h;rw [jF,qY] at h1;have hb12:jGk=1000000:=rfl;have hNB:NB=1000000:=rfl;refine ⟨by omega,?_⟩
    have hs2:scH s1.n (vR s1.H i)=true:=gM hi.h;have:=hk _ _ _ _ (n.trans ((Nx.refl hi).setH hs2)) h;change Q _ (denH ρ1 (vR s1.H i)) _ at this;rw [fV] at this;simp only [SX.den] at this;exact this
   ·rename_i j hc;simp only [HX.den,hc,HCX.den];obtain ⟨h2,h⟩:=jA h;have hs2:scH s1.n (vR s1.H i)=true:=gM hi.h;have:=hk _ _ _ _ (n.trans ((Nx.refl hi).setH hs2)) h;change Q _ (denH ρ1 (vR s1.H i)) _ at this;rw [fV] at this;simp only [SX.den] at this;exact this
   ·rename_i l hc;simp only [HX.den,hc,HCX.den];obtain ⟨h1,h⟩:=jA h;rw [h1];simp only [req];obtain ⟨k1,ρ2,s2,n2,e2,lt2,h⟩:=jOa h hi;refine k1 _ ?_;have egg:=(fO e).2;have hs3:scH s2.n (vR (jG s2.H i ⟨hb.e,g.up,.xs s1.n⟩) i)=true:=gM (vH (hb:=⟨hb.e,g.up,.xs s1.n⟩) (Gn.mono n2.n (by rw [←egg]; exact Gn.up_sc hs0.1)) (Nat.ble_eq_true_of_le lt2) n2.inv.h)
    have:=hk _ _ _ _ (n.trans (n2.setH hs3)) h;change Q _ (denH ρ2 (vR (jG s2.H i ⟨hb.e,g.up,.xs s1.n⟩) i)) _ at this;rw [fV,←uH,n2.denH hi] at this;simp only [SX.den,HX.den,HCX.den,Gn.up_den,e2] at this;rw [Gn.agree n2.ag (by rw [←egg]; exact hs0.1)] at this
    exact this
   ·exact (jB h).elim
  ·exact (jB h).elim
 ·exact (jB h).elim
theorem qMh {i:Nat} {Q':KO} {Q:QO} (h:ok (rvX P i st Q')) (hi:Inv G ρ st) (hk:HO G ρ st Q' Q):rvQ (P.C G) Q .sl0 (denH ρ st.H):=by
 unfold rvX at h;refine ⟨i,?_⟩;split at h
 ·rename_i hb e;have hs0:=kA hi.h e;rw [bU e];show match (HX.den ρ hb).c,P.ak hb.e with
   | .dead,some (.ty T r)=>Q (.ts i (Nat.succ (hb.g.den ρ)) 0 (jP ((P.C G).ct T 0))) (jG (denH ρ st.H) i ⟨hb.e,Nat.succ (hb.g.den ρ),.r T r 0⟩) ⟨false,[i]⟩
   | .dead,some .str=>Q (.ts i (Nat.succ (hb.g.den ρ)) 0 1) (jG (denH ρ st.H) i ⟨hb.e,Nat.succ (hb.g.den ρ),.xs []⟩) ⟨false,[i]⟩
   | _,_=>False
  split at h
  ·rename_i T r hc ha;simp only [HX.den,hc,HCX.den,ha];have hs2:scH st.n (jG st.H i ⟨hb.e,hb.g.up,.r T (.con (.ofNat r)) (.con 0)⟩)=true:=vH (hb:=⟨hb.e,hb.g.up,.r T (.con (.ofNat r)) (.con 0)⟩) (Gn.up_sc hs0.1) rfl hi.h;have:=hk _ _ _ _ ((Nx.refl hi).setH hs2) h;change Q _ (denH ρ (jG st.H i _)) _ at this;rw [←uH] at this;simp only [SX.den,HX.den,HCX.den,Gn.up_den] at this;rw [lZ];have e1:(LT.ev ρ (.con (.ofNat r))).toNat=r:=by simp [LT.con,LT.ev,evL]
   have e2:(LT.ev ρ (.con 0)).toNat=0:=by simp [LT.con,LT.ev,evL]
   rw [e1,e2] at this;exact this
  ·rename_i hc ha;simp only [HX.den,hc,HCX.den,ha];have hL2:LOK ρ [] (.con 0) (.con 1000000000):=⟨by simp [LT.con,LT.ev,evL],by simp⟩
   obtain ⟨ρ',n1,e1,h⟩:=oB hi hL2 (xT _) (xT _) h;have hs2:scH ((st.up (st.n+1)).addB (.ln st.n (.con 0) (.con 1000000000))).n (jG st.H i ⟨hb.e,hb.g.up,.xs st.n⟩)=true:=vH (hb:=⟨hb.e,hb.g.up,.xs st.n⟩) (Gn.mono n1.n (Gn.up_sc hs0.1)) (Nat.ble_eq_true_of_le (Nat.le_refl _)) (vW n1.n hi.h);have:=hk _ _ _ _ (n1.setH hs2) h;change Q _ (denH ρ' (jG st.H i ⟨hb.e,hb.g.up,.xs st.n⟩)) _ at this;rw [←uH,xM n1.ag hi.h] at this;simp only [SX.den,HX.den,HCX.den,Gn.up_den,e1,Gn.agree n1.ag hs0.1] at this;have e2:(LT.ev ρ' (.con 0)).toNat=0:=by simp [LT.con,LT.ev,evL]
   rw [e2] at this;exact this
  ·exact (jB h).elim
 ·exact (jB h).elim
theorem qOl {v:SX} {Q':KO} {Q:QO} (h:ok (xMv P v st Q')) (hi:Inv G ρ st) (hk:HO G ρ st Q' Q):Q (v.den ρ) (denH ρ st.H) t0∨jAw Q (v.den ρ) (denH ρ st.H) t0∨rvQ (P.C G) Q (v.den ρ) (denH ρ st.H):=by
 unfold xMv at h;split at h
 ·exact .inr (.inl (jKe hk _ _ _ _ (Nx.refl hi).ny h))
 ·rcases zE h with ⟨_,h⟩ | ⟨_,h⟩
  ·exact .inr (.inr (qMh h hi hk))
  ·exact .inl (hk _ _ _ _ (Nx.refl hi).ny h)
 ·exact .inl (hk _ _ _ _ (Nx.refl hi).ny h)
theorem qRn (hG:dY G) (hP:PSc P) {Γ:qJ} (hΓ:∀ d f l H Q,Gam P G d f l H Q→Γ d f l H Q) {cur:LT} {c:Ev.C} {Q':KO} {Q:QO} {d:Nat} (hc:cur.sc st.n=true) (hd:cur.ev ρ≤d+1) (h:ok (xO P cur c st Q')) (hi:Inv G ρ st) (hk:HO G ρ st Q' Q):wO (P.C G) Γ d c (denE ρ st.E) (denH ρ st.H) Q:=by
 have hk1:=HO.k1 hi hk;have hnow:∀ {v:SX},ok (Q' v st t0)→Q (v.den ρ) (denH ρ st.H) t0:=fun h=>hk _ _ _ _ (Nx.refl hi).ny h;cases c<;>simp only [xO] at h<;>simp only [wO]<;>try exact (jB h).elim
 case mv x=>exact zL (P:=fun v=>Q v (denH ρ st.H) t0∨jAw Q v (denH ρ st.H) t0∨rvQ (P.C G) Q v (denH ρ st.H)) h hi fun v hv h=>qOl h hi hk
 case id1 x=>exact zL (P:=fun v=>Q v (denH ρ st.H) t0) h hi fun v hv h=>hnow h
 case pick c a b=>exact zL h hi fun c hc h=>zL h hi fun a ha h=>zL h hi fun b hb h=>qFh h hi hk1
 case bi o x y=>exact zL h hi fun x hx h=>zL h hi fun y hy h=>qNy h hi hx hy hk1
 case un o x=>exact zL h hi fun x hx h=>qOt h hi hk1
 case ci k x=>exact zL h hi fun x hx h=>qOa h hi hk1
 case ix x i=>exact zL h hi fun x hx h=>zL h hi fun y hy h=>qOh h hi hx hy hk1
 case ss x lo hi'=>exact zL h hi fun x hx h=>qOr h hi hx hk1
 case ln x=>exact zL h hi fun x hx h=>qOj h hi hk1
 case lm x=>exact zL h hi fun x hx h=>qOi h hi hk1
 case mx x y=>exact zL h hi fun x hx h=>zL h hi fun y hy h=>qOm h hi hk1
 case mn x y=>exact zL h hi fun x hx h=>zL h hi fun y hy h=>qOk h hi hk1
 case ex n x=>exact zL h hi fun x hx h=>qOe h hi hk1
 case al e z=>
  obtain ⟨h1,h⟩:=jA h;refine .inl ?_;rw [h1];simp only [Bool.and_eq_true] at h1;have:=sP (Q:=fun i H t=>Q (.tp i 0 0) H t) h hi fun i st' t n h=>by
   have:=hk _ _ _ _ n h;simp only [SX.den,bK] at this; exact this
  simp only [HCX.den,jEh h1.1] at this;exact this
 case bx e x=>
  refine zL (P:=fun v=>req (qF (yK v)) (bO (denH ρ st.H) e (.l (yK v)) fun i H t=>Q (.tp i 0 0) H t)) h hi fun v hv h=>?_;obtain ⟨h1,h⟩:=jA h;rw [lG,pG,h1];have:=sP (Q:=fun i H t=>Q (.tp i 0 0) H t) h hi fun i st' t n h=>by
   have:=hk _ _ _ _ n h;simp only [SX.den,bK] at this; exact this
  simp only [HCX.den] at this;exact this
 case bd z ps=>
  obtain ⟨h1,h⟩:=jA h;rw [h1,←jEh (ρ:=ρ) h1];exact eG h hi fun l h=>by
   have:=hnow h;simp only [SX.den] at this; exact this
 case bs e sz z len ps=>
  obtain ⟨h1,h⟩:=jA h;simp only [Bool.and_eq_true] at h1;rw [h1.1,h1.2.1,h1.2.2.1,h1.2.2.2,←jEh (ρ:=ρ) h1.1];cases e1:P.fz with
  | true=>
   refine .inr (eG (Q:=fun l=>bO (denH ρ st.H) e (.l l) fun i H t=>jAw Q (.ts i 0 len sz) H t) h hi fun l h=>by
    have:=sP (Q:=fun i H t=>jAw Q (.ts i 0 len sz) H t) h hi fun i st' t n h=>by
     rw [e1] at h;have h2:ok (jYf Q' (SX.ts i g0 (LT.con (Int.ofNat len)) sz) st' t):=h;have:=jKe hk _ _ _ _ n h2;simp only [SX.den,bK,qR] at this; exact this
    simp only [HCX.den] at this;exact this)
  | false=>
  refine .inl <| eG (Q:=fun l=>bO (denH ρ st.H) e (.l l) fun i H t=>Q (.ts i 0 len sz) H t) h hi fun l h=>by
   have:=sP (Q:=fun i H t=>Q (.ts i 0 len sz) H t) h hi fun i st' t n h=>by
    rw [e1] at h;have:=hk _ _ _ _ n h;simp only [SX.den,bK,qR] at this; exact this
   simp only [HCX.den] at this;exact this
 case ld n a=>exact zL h hi fun x hx h=>qFg h hi hx hk1
 case st n a x=>exact zL h hi fun a ha h=>zL h hi fun x hx h=>qOs h hi ha fun st' t ρ' n h=>hk jAb _ _ _ n h
 case nc x=>exact zL h hi fun x hx h=>qOn h hi hk1
 case fa off x=>exact zL h hi fun x hx h=>qOf h hi hk1
 case ia sz x i=>exact zL h hi fun x hx h=>zL h hi fun y hy h=>qOg h hi hx hy hk1
 case sl sz x lo hi'=>exact zL h hi fun x hx h=>qOq h hi hx hk
 case ap e sz by_ s x=>
  exact zL h hi fun s hs h=>zL h hi fun x hx h=>by
   cases e1:P.fz with
   | true=>
    rw [e1] at h;exact .inr (.inl (qFb h hi hs (jKe hk)))
   | false=>
    rw [e1] at h;exact .inl (qFb h hi hs hk)
 case mf f a c=>exact aL h hi fun a ha h=>aL (P:=fun c=>Q (.f f (jR ρ a) c) (denH ρ st.H) t0) h hi fun c hc h=>hnow (v:=.f f a c) h
 case cf f xs=>exact aL h hi fun l hl h=>.inl (qFd hG hP hΓ hc hd h hi hl hk)
 case cp f xs=>exact aL h hi fun l hl h=>qOb hG hP hΓ hd h hi hk
 case cv x xs=>exact zL h hi fun x hx h=>aL h hi fun l hl h=>qOd hG hP hΓ hc hd h hi hx hl hk
 case cq f xs=>exact aL h hi fun l hl h=>qOc hG hP hΓ hd h hi hk
 case bt x=>exact zL h hi fun x hx h=>qNz h hi hx hk1
 case be g x y=>exact zL h hi fun x hx h=>zL h hi fun y hy h=>qNx h hi hk1
end
end
end Go.Proofs.YtdlhiljbhepliaaGreatDoor.Ev.Rf
