/-
A checker of the conditions of runs: regions, code, loops. What they promise is so. No program is named here.
-/
import Derived.Test.YtdlhiljbhepliaaGreatDoorRi
namespace Go.Proofs.YtdlhiljbhepliaaGreatDoor.Ev.Rf
noncomputable section
set_option linter.all false
open Go
section
variable {P:PX} {G:Nat→List SV→SV→Prop} {ρ ρ' ρ2 ρ0:Rho} {st st' st2:Sx} {np:Nat}
structure Bs (np:Nat) (ρ0:Rho) (ρ:Rho) (st:Sx):Prop where
 n:np≤st.n
 ag:∀ j,j<np→ρ j=ρ0 j
theorem Bs.ny (b:Bs np ρ0 ρ st) (h:Ny G ρ st ρ' st'):Bs np ρ0 ρ' st':=⟨Nat.le_trans b.n h.n,fun j hj=>(h.ag j (Nat.lt_of_lt_of_le hj b.n)).trans (b.ag j hj)⟩
theorem Bs.nx (b:Bs np ρ0 ρ st) (h:Nx G ρ st ρ' st'):Bs np ρ0 ρ' st':=b.ny h.ny
theorem Bs.lt (b:Bs np ρ0 ρ st) {t:LT} (h:t.sc np=true):t.ev ρ=t.ev ρ0:=jI b.ag h
theorem dQ:∀ {l:List LT} {st:Sx} {k:Sx→An},ok (oY l st k)→Inv G ρ st→∃ st',Nx G ρ st ρ st'∧ok (k st')
 | [],st,k,h,hi=>⟨st,Nx.refl hi,h⟩
 | t::r,st,k,h,hi=>by
  obtain ⟨s1,n1,h⟩:=jAd (k:=fun _ st=>oY r st k) h hi;obtain ⟨s2,n2,h⟩:=dQ h n1.inv;exact ⟨s2,n1.trans n2,h⟩
theorem jYp {k:Sx→An}:∀ {n:Nat},ok (jRr st k n)→Inv G ρ st→∃ st',Nx G ρ st ρ st'∧ok (k st')
 | 0,h,hi=>⟨st,Nx.refl hi,h⟩
 | n+1,h,hi=>by
  simp only [jRr] at h;obtain ⟨c,h⟩:=mS h;split at h
  ·exact ⟨st,Nx.refl hi,h⟩
  ·rw [jZ,jZ] at h;split at h
   ·rename_i a b a' i b' c' i' d' e1 e2;obtain ⟨h1,h⟩:=jA h;obtain ⟨h2,h⟩:=qT h hi;have k1:=hi.B _ (List.mem_of_getElem? e1);have k2:=hi.B _ (List.mem_of_getElem? e2);simp only [TE.holds] at k1 k2;rw [LT.beq_ok h1,h2,k2] at k1;obtain ⟨s1,n1,h⟩:=qK h hi (by rw [jT]; omega)
    obtain ⟨s2,n2,h⟩:=qK h n1.inv (by rw [jT]; omega)
    exact ⟨s2,n1.trans n2,h⟩
   ·exact (jB h).elim
theorem qBb {k:Sx→An} (h:ok (qBa st k)) (hi:Inv G ρ st):ok (k st):=by
 unfold qBa at h;obtain ⟨c,h⟩:=mS h;split at h
 ·exact h
 ·rw [jZ] at h;split at h
  ·rename_i d e;obtain ⟨h1,h⟩:=jD h hi;obtain ⟨h2,h⟩:=jD h hi;rw [qY] at h2;exact absurd (by omega) (hi.N d (List.mem_of_getElem? e))
  ·exact (jB h).elim
theorem qCd {hs:Nat→Option (List LT)} {d:Option Nat} {k:Sx→An} (h:ok (qCc hs d st k)) (hi:Inv G ρ st):∃ st',Nx G ρ st ρ st'∧ok (k st'):=by
 unfold qCc at h;split at h
 ·unfold qPk at h;split at h
  ·exact ⟨st,Nx.refl hi,h⟩
  ·obtain ⟨s1,n1,h⟩:=dQ h hi;obtain ⟨s2,n2,h⟩:=jYp h n1.inv;exact ⟨s2,n1.trans n2,qBb h n2.inv⟩
 ·exact ⟨st,Nx.refl hi,h⟩
theorem sG {d:Option Nat} {v:SX} {k:Sx→An} (h:ok (jOw st d v k)) (hi:Inv G ρ st):∃ st',Inv G ρ st'∧denE ρ st'.E=sV (denE ρ st.E) d (v.den ρ)∧st'.H=st.H∧st'.n=st.n∧ok (k st'):=by
 unfold jOw at h;split at h
 ·rename_i d;obtain ⟨h1,h⟩:=jA h;exact ⟨st.setE ((d,v)::st.E),hi.setE (by simp only [scE,Bool.and_eq_true]; exact ⟨h1,hi.e⟩),rfl,rfl,rfl,h⟩
 ·exact ⟨st,hi,rfl,rfl,rfl,h⟩
theorem qKo {g:Option (Nat×Bool)} {p q:Sx→An} {PP QQ:Prop} (h:ok (xG st g p q)) (hi:Inv G ρ st) (hp:∀ st',Nx G ρ st ρ st'→ok (p st')→PP) (hq:∀ st',Nx G ρ st ρ st'→ok (q st')→QQ):wG (denE ρ st.E) g PP QQ:=by
 unfold xG at h;unfold wG;split at h
 ·exact hp _ (Nx.refl hi) h
 ·rename_i t w;simp only [fL,yU];split at h
  ·rename_i v e;rw [e];simp only [Option.map];split at h
   ·rename_i x;simp only [SX.den];rcases zE h with ⟨e1,h⟩ | ⟨e1,h⟩
    ·have:=hp _ (Nx.refl hi) h;cases x<;>cases w<;>simp at e1<;>exact this
    ·have:=hq _ (Nx.refl hi) h;cases x<;>cases w<;>simp at e1<;>exact this
   ·rename_i t';simp only [SX.den];obtain ⟨s1,n1,h⟩:=jAd h hi;have eb:decide (0≤(t'.addc (-1)).ev ρ)=decide (0<t'.ev ρ):=jCu (by rw [jF]; omega)
    rw [eb] at h;generalize decide (0<t'.ev ρ)=x at h ⊢;rcases zE h with ⟨e1,h⟩ | ⟨e1,h⟩
    ·have:=hp _ n1 h;cases x<;>cases w<;>simp at e1<;>exact this
    ·have:=hq _ n1 h;cases x<;>cases w<;>simp at e1<;>exact this
   ·exact hq _ (Nx.refl hi) h
   ·exact (jB h).elim
  ·exact (jB h).elim
theorem jHg {α:Type} {x:α}:∀ {n:Nat} {l:List α},x∈qBh n l→x∈l
 | 0,l,h=>h
 | n+1,[],h=>by cases h
 | n+1,a::l,h=>List.mem_cons_of_mem _ (jHg h)
theorem jUh {k f:Nat} {ct:CtX} (h:ct∈(P.drop k).cs f):ct∈P.cs f:=by
 unfold PX.drop at h;split at h
 ·exact h
 ·exact jHg h
theorem qKz (k:Nat):(P.drop k).C G=P.C G:=by unfold PX.drop; split<;>rfl
theorem jAc:jAb.den ρ=kS:=rfl
theorem jWu (hG:dY G) (hP:PSc P) {Γ:qJ} (hΓ:∀ d f l H Q,Gam P G d f l H Q→Γ d f l H Q) {cur:LT} {c:Ev.C} {k:Nat} {Q':KO} {Q:QO} {d:Nat} (hc:cur.sc st.n=true) (hd:cur.ev ρ≤d+1) (h:ok (xO (P.drop k) cur c st Q')) (hi:Inv G ρ st) (hk:HO G ρ st Q' Q):wO (P.C G) Γ d c (denE ρ st.E) (denH ρ st.H) Q:=by
 have:=qRn (P:=P.drop k) hG (fun f ct h=>hP f ct (jUh h)) (Γ:=Γ) (fun d f l H Q ⟨ct,h1,h2⟩=>hΓ _ _ _ _ _ ⟨ct,jUh h1,h2⟩) hc hd h hi hk
 rwa [qKz] at this
theorem qFj (hG:dY G) (hP:PSc P) {Γ:qJ} (hΓ:∀ d f l H Q,Gam P G d f l H Q→Γ d f l H Q) {cur:LT} {hs:Nat→Option (List LT)} {kd:Nat→Nat} {d:Nat} (hc:cur.sc np=true) (hd:cur.ev ρ0≤d+1):∀ {l:List O} {st:Sx} {ρ:Rho} {Q':Sx→An} {Q:QE},ok (xR P cur hs kd l st Q')→Inv G ρ st→Bs np ρ0 ρ st →
  (∀ st' ρ',Bs np ρ0 ρ' st'→Inv G ρ' st'→ok (Q' st')→Q (denE ρ' st'.E) (denH ρ' st'.H))→wR (P.C G) Γ d l (denE ρ st.E) (denH ρ st.H) Q
 | [],st,ρ,Q',Q,h,hi,hb,hk=>hk st ρ hb hi h
 | o::r,st,ρ,Q',Q,h,hi,hb,hk=>by
  simp only [xR] at h;show wG (denE ρ st.E) o.g (wO (P.C G) Γ d o.c (denE ρ st.E) (denH ρ st.H) fun v H _=>wR (P.C G) Γ d r (sV (denE ρ st.E) o.d v) H Q) (wR (P.C G) Γ d r (sV (denE ρ st.E) o.d kS) (denH ρ st.H) Q);refine qKo h hi (fun s1 n1 h=>?_) (fun s1 n1 h=>?_)
  ·have b1:=hb.nx n1;rw [←n1.denE hi,←n1.denH hi];refine jWu hG hP hΓ (jE b1.n hc) (by rw [b1.lt hc]; exact hd) h n1.inv fun v s2 t ρ2 n2 h=>?_
   obtain ⟨s3,i3,e3,f3,g3,h⟩:=sG h n2.inv;obtain ⟨s4,n4,h⟩:=qCd h i3;have b3:Bs np ρ0 ρ2 s3:=⟨by rw [g3]; exact (b1.ny n2).n,(b1.ny n2).ag⟩
   have:=qFj hG hP hΓ hc hd h n4.inv (b3.nx n4) hk;rw [n4.denE i3,n4.denH i3,e3,f3,n2.E,uR n2.ag n1.inv.e] at this;exact this
  ·obtain ⟨s3,i3,e3,f3,g3,h⟩:=sG h n1.inv;have b3:Bs np ρ0 ρ s3:=⟨by rw [g3]; exact (hb.nx n1).n,hb.ag⟩
   have:=qFj hG hP hΓ hc hd h i3 b3 hk;rw [e3,f3,jAc,n1.denE hi,n1.denH hi] at this;exact this
theorem qFw {H:List HX} {s:SX} {κ:Key} {Q:Key→Prop} (h:qFv H s=some κ) (hq:Q κ):jYl (denH ρ H) (s.den ρ) Q:=by
 unfold qFv at h;split at h
 ·simp only [SX.den,jYl];split at h
  ·rename_i hb e;refine uT e ?_;split at h
   ·rename_i hc;simp only [HX.den,hc,HCX.den];cases h; exact hq
   ·cases h
  ·cases h
 ·simp only [SX.den,jYl];split at h
  ·rename_i hb e;refine uT e ?_;split at h
   ·rename_i hc;simp only [HX.den,hc,HCX.den];cases h; exact hq
   ·cases h
  ·cases h
 ·cases h; exact hq
 ·cases h; exact hq
 ·cases h; exact hq
 ·cases h
theorem qFm {H:List HX} {o:O} {ws:List Tch} {k:Nat} {rs:List Wr} {Q':List Wr→An} {Q:List Wr→Prop} (h:ok (qFl st H o ws k rs Q')) (hi:Inv G ρ st) (hk:∀ rs,ok (Q' rs)→Q rs):jXh (denE ρ st.E) (denH ρ H) o ws k rs Q:=by
 unfold qFl at h;unfold jXh;split at h
 ·rename_i e; rw [e]; exact hk _ h
 ·rename_i lo hi' e;rw [e];simp only;split at h
  ·rename_i n a e2;rw [e2];refine zL h hi fun a ha h=>?_;split at h
   ·rename_i κ e3;obtain ⟨h1,h⟩:=jA h;refine qFw e3 ?_;rw [h1];exact hk _ h
   ·exact (jB h).elim
  ·exact (jB h).elim
theorem jCi {b:Bool} {p q:Prop} (e:b=true) (h:p):brn b p q:=by subst e; exact h
theorem lB {b:Bool} {p q:Prop} (e:b=false) (h:q):brn b p q:=by subst e; exact h
theorem jQl (hG:dY G) (hP:PSc P) {Γ:qJ} (hΓ:∀ d f l H Q,Gam P G d f l H Q→Γ d f l H Q) {cur:LT} {kd:Nat→Nat} {d:Nat} (hc:cur.sc np=true) (hd:cur.ev ρ0≤d+1):∀ {l:List O} {st:Sx} {ρ:Rho} {ws:List Tch} {k:Nat} {rs:List Wr} {Q':Sx→An} {Q:QE},ok (xD P cur kd l st ws k rs Q')→Inv G ρ st→Bs np ρ0 ρ st →
  (∀ st' ρ',Bs np ρ0 ρ' st'→Inv G ρ' st'→ok (Q' st')→Q (denE ρ' st'.E) (denH ρ' st'.H))→wD (P.C G) Γ d l (denE ρ st.E) (denH ρ st.H) ws k rs Q
 | [],st,ρ,ws,k,rs,Q',Q,h,hi,hb,hk=>hk st ρ hb hi h
 | o::r,st,ρ,ws,k,rs,Q',Q,h,hi,hb,hk=>by
  simp only [xD] at h;show wG (denE ρ st.E) o.g
   (brn o.c.acts
    (wO (P.C G) Γ d o.c (denE ρ st.E) (denH ρ st.H) fun v H t=>req (eM t k rs) (wD (P.C G) Γ d r (sV (denE ρ st.E) o.d v) H (t::ws) (Nat.succ k) rs Q))
    (wO (P.C G) Γ d o.c (denE ρ st.E) (denH ρ st.H) fun v H' t=>req (noT t) (jXh (denE ρ st.E) (denH ρ st.H) o ws k rs fun rs=>wD (P.C G) Γ d r (sV (denE ρ st.E) o.d v) H' ws k rs Q)))
   (brn o.c.acts
    (wD (P.C G) Γ d r (sV (denE ρ st.E) o.d kS) (denH ρ st.H) (t0::ws) (Nat.succ k) rs Q)
    (wD (P.C G) Γ d r (sV (denE ρ st.E) o.d kS) (denH ρ st.H) ws k rs Q))
  have hO:∀ {c:Ev.C} {kk:Nat} {Q':KO} {Q:QO} {s1:Sx},Nx G ρ st ρ s1→ok (xO (P.drop kk) cur c s1 Q')→HO G ρ s1 Q' Q→wO (P.C G) Γ d c (denE ρ s1.E) (denH ρ s1.H) Q:=fun n1 h hk=>
   jWu hG hP hΓ (jE (hb.nx n1).n hc) (by rw [(hb.nx n1).lt hc]; exact hd) h n1.inv hk
  refine qKo h hi (fun s1 n1 h=>?_) (fun s1 n1 h=>?_)
  ·have b1:=hb.nx n1;rw [←n1.denE hi,←n1.denH hi];rcases zE h with ⟨ea,h⟩ | ⟨ea,h⟩
   ·refine jCi ea (hO n1 h fun v s2 t ρ2 n2 h=>?_);obtain ⟨h1,h⟩:=jA h;rw [h1];obtain ⟨s3,i3,e3,f3,g3,h⟩:=sG h n2.inv;have b3:Bs np ρ0 ρ2 s3:=⟨by rw [g3]; exact (b1.ny n2).n,(b1.ny n2).ag⟩
    have:=jQl hG hP hΓ hc hd h i3 b3 hk;rw [e3,f3,n2.E,uR n2.ag n1.inv.e] at this;exact this
   ·refine lB ea (hO n1 h fun v s2 t ρ2 n2 h=>?_);obtain ⟨h1,h⟩:=jA h;rw [h1];have eE:denE ρ2 s2.E=denE ρ s1.E:=by rw [n2.E]; exact uR n2.ag n1.inv.e
    have eH:denH ρ2 s1.H=denH ρ s1.H:=xM n2.ag n1.inv.h;have:=qFm (Q:=fun rs=>wD (P.C G) Γ d r (sV (denE ρ s1.E) o.d (v.den ρ2)) (denH ρ2 s2.H) ws k rs Q) h n2.inv fun rs h=>by
     obtain ⟨s3,i3,e3,f3,g3,h⟩:=sG h n2.inv;have b3:Bs np ρ0 ρ2 s3:=⟨by rw [g3]; exact (b1.ny n2).n,(b1.ny n2).ag⟩
     have:=jQl hG hP hΓ hc hd h i3 b3 hk;rw [e3,f3,eE] at this;exact this
    rw [eE,eH] at this;exact this
  ·have b1:=hb.nx n1;rw [←n1.denE hi,←n1.denH hi];rcases zE h with ⟨ea,h⟩ | ⟨ea,h⟩
   ·refine jCi ea ?_;obtain ⟨s3,i3,e3,f3,g3,h⟩:=sG h n1.inv;have b3:Bs np ρ0 ρ s3:=⟨by rw [g3]; exact b1.n,b1.ag⟩
    have:=jQl hG hP hΓ hc hd h i3 b3 hk;rw [e3,f3,jAc] at this;exact this
   ·refine lB ea ?_;obtain ⟨s3,i3,e3,f3,g3,h⟩:=sG h n1.inv;have b3:Bs np ρ0 ρ s3:=⟨by rw [g3]; exact b1.n,b1.ag⟩
    have:=jQl hG hP hΓ hc hd h i3 b3 hk;rw [e3,f3,jAc] at this;exact this
end
end
noncomputable section
set_option linter.all false
open Go
section
variable {P:PX} {G:Nat→List SV→SV→Prop} {ρ ρ' ρ2 ρ0 ρb ρc:Rho} {st st' st2:Sx} {np n0:Nat}
theorem jCw:∀ (A B:EX),denE ρ (A++B)=denE ρ A++denE ρ B
 | [],B=>rfl
 | p::A,B=>by simp only [List.cons_append,denE,jCw A B]
theorem jJh:∀ {A B E:Env},Sub A E→Sub B E→Sub (A++B) E
 | [],B,E,h,k=>k
 | p::A,B,E,h,k=>⟨h.1,jJh h.2 k⟩
theorem jJv (hi:Inv G ρ st):∀ {F E:EX} {k:An},ok (qBm st F E k)→Sub (denE ρ F) (denE ρ E)∧ok k
 | [],E,k,h=>⟨trivial,h⟩
 | p::r,E,k,h=>by
  simp only [qBm] at h;split at h
  ·rename_i v e;obtain ⟨h1,h⟩:=jJz hi h;obtain ⟨h2,h⟩:=jJv hi h;exact ⟨⟨⟨v.den ρ,by rw [yU,e]; rfl,h1.symm⟩,h2⟩,h⟩
  ·exact (jB h).elim
theorem oN (E:EX):∀ ks,denE ρ (jEo E ks)=fB (denE ρ E) ks
 | []=>rfl
 | n::r=>by
  simp only [jEo,fB,yU];cases e:uV E n with
  | none=>simp only [Option.map]; exact oN E r
  | some v=>simp only [Option.map,denE,oN E r]
theorem jNu (hi:Inv G ρ st):∀ {A B:List HX} {k:An},ok (qCe st A B k)→jYj (denH ρ A) (denH ρ B)∧ok k
 | [],B,k,h=>⟨trivial,h⟩
 | _::_,[],k,h=>(jB h).elim
 | x::l,y::m,k,h=>by
  obtain ⟨h0,h⟩:=jA h;rw [Bool.and_eq_true] at h0;obtain ⟨h1,h⟩:=qBl hi h;obtain ⟨h2,h⟩:=jNu hi h;refine ⟨⟨?_,h2⟩,h⟩;simp only [HX.den,h1,Nat.eq_of_beq_eq_true h0.1,Gn.beq_ok h0.2]
theorem rS:∀ E:EX,mJ (denE ρ E)=jNc E
 | []=>rfl
 | p::r=>by simp only [denE,mJ,jNc,oG,rS r]
theorem jOh (s:Sb) (H:List HX):mQ (gF s H)=vJ (denH (subst s ρ) H):=by rw [←dG (ρ:=ρ),vD]
theorem jRq (s:Sb) (H:List HX):jP (gF s H)=jP H:=by
 have:=congrArg jP (vD (ρ:=fun _=>⟨0,[],0⟩) s H);rw [wT,wT] at this; exact this
theorem qLr (hi:Inv G ρ st) {j:Nat} (h:st.lnZ (.xs j)=true):(ρ j).l=[]:=by
 simp only [Sx.lnZ] at h;split at h
 ·rename_i n m e;split at h
  ·rename_i e2;rw [wW,decide_eq_true_eq] at h;have:=(eX hi e).1;simp only [LT.ev,e2,evL,h] at this;exact List.eq_nil_of_length_eq_zero (by omega)
  ·cases h
 ·cases h
theorem jHh (hi:Inv G ρ st) {sz:Nat} {c:HCX} (h:jJu P sz c=true) (hz:st.lnZ c=true):emp (P.C G) sz (c.den ρ)=true:=by
 unfold jJu at h;split at h
 ·rename_i T R n;rw [Bool.and_eq_true] at h;have en:(n.ev ρ).toNat=0:=by
   have h1:=h.1;split at h1
   ·rename_i e2;rw [wW,decide_eq_true_eq] at h1;simp only [LT.ev,e2,evL,h1]; rfl
   ·cases h1
  simp only [HCX.den,en,emp];rw [lZ]; exact h.2
 ·rename_i j;simp only [HCX.den,qLr hi hz,emp];exact h
 ·cases h
theorem qEa {l:List SX} {off:Nat} {v:SX}:jG (jR ρ l) off (v.den ρ)=jR ρ (jG l off v):=by rw [xV,xV,jFk]
theorem jWc {n:Nat} {v:SX} (hv:v.sc n=true):∀ {l:List SX} {i:Nat},scs n l=true→scs n (jG l i v)=true
 | [],i,h=>h
 | a::l,0,h=>by simp only [scs,jG,Bool.and_eq_true] at h ⊢; exact ⟨hv,h.2⟩
 | a::l,i+1,h=>by simp only [scs,jG,Bool.and_eq_true] at h ⊢; exact ⟨h.1,jWc hv h.2⟩
theorem jXb {s:Sb} {c:HCX} {Q':HCX→Sx→An} (h:ok (qJy s c st Q')) (hi:Inv G ρ st):∃ c' st' ρ',Nx G ρ st ρ' st'∧ok (Q' c' st'):=by
 unfold qJy at h;split at h
 ·rename_i m;obtain ⟨n1,e,h⟩:=zU h hi ⟨0,[],0⟩;obtain ⟨h1,h⟩:=jA h;have hb:∀ p:Nat×Nat,p∈([]:List (Nat×Nat))→(p.1:Int)≤(s.t m).ev (ρ.set st.n ⟨0,[],0⟩):=fun p hp=>by cases hp
  have n2:=n1.inv.addB (t:=.ln st.n (.con 0) (s.t m)) (by
   simp only [TE.sc,Bool.and_eq_true];exact ⟨Nat.ble_eq_true_of_le (Nat.le_refl _),xT _,h1⟩) (by
   simp only [TE.holds,e,qR];exact ⟨rfl,hb⟩)
  exact ⟨_,_,_,n1.trans n2,h⟩
 ·exact ⟨_,_,_,Nx.refl hi,h⟩
theorem jPv {m:LT}:∀ {l:List SX} {k:An},ok (pQ st m l k)→Inv G ρ st→∃ L:List (Nat×Nat),(∀ Q:List (Nat×Nat)→Prop,Q L→vN (jR ρ l) Q)∧L.length=l.length∧(∀ p,p∈L→(p.1:Int)≤m.ev ρ)∧ok k
 | [],k,h,hi=>⟨[],fun Q q=>q,rfl,fun p hp=>(by cases hp),h⟩
 | x::r,k,h,hi=>by
  cases x<;>try exact (jB h).elim
  rename_i n c;simp only [pQ] at h;obtain ⟨h0,h⟩:=jD h hi;obtain ⟨h1,h⟩:=jD h hi;rw [jT] at h1;obtain ⟨L,k1,k2,k3,h⟩:=jPv h hi;refine ⟨((n.ev ρ).toNat,(c.ev ρ).toNat)::L,fun Q q=>?_,by simp [k2],fun p hp=>?_,h⟩
  ·simp only [jR,SX.den,vN];exact k1 _ q
  ·rcases List.mem_cons.1 hp with rfl | hp
   ·show (((n.ev ρ).toNat:Nat):Int)≤m.ev ρ;omega
   ·exact k3 p hp
theorem jHt {v:SX} (h:jKk v=true):jNy (v.den ρ)=true:=by
 cases v<;>simp only [jKk,Bool.false_eq_true] at h;rfl
structure Nz (G:Nat→List SV→SV→Prop) (ρ:Rho) (st:Sx) (ρ':Rho) (st':Sx):Prop where
 n:st.n≤st'.n
 ag:∀ k,k<st.n→ρ' k=ρ k
 inv:Inv G ρ' st'
theorem Nz.trans (h:Nz G ρ st ρ' st') (k:Nz G ρ' st' ρ2 st2):Nz G ρ st ρ2 st2:=⟨Nat.le_trans h.n k.n,fun j hj=>(k.ag j (Nat.lt_of_lt_of_le hj h.n)).trans (h.ag j hj),k.inv⟩
theorem Nx.nz (h:Nx G ρ st ρ' st'):Nz G ρ st ρ' st':=⟨h.n,h.ag,h.inv⟩
theorem sR {s:Sb} {Q':Sx→An} {Q:Env→Hp→Prop}:∀ {cv:List (CvX×Nat)} {st:Sx} {ρ:Rho},ok (jGu P s cv st Q')→Inv G ρ st →
  (∀ st' ρ',Nz G ρ st ρ' st'→ok (Q' st')→Q (denE ρ' st'.E) (denH ρ' st'.H))→∃ cvw,cvs (P.C G) (denE ρ st.E) (denH ρ st.H) cvw Q
 | [],st,ρ,h,hi,hk=>⟨[],hk st ρ (Nx.refl hi).nz h⟩
 | (.lit n m,sz)::r,st,ρ,h,hi,hk=>by
  simp only [jGu] at h;split at h
  ·rename_i i g k z e1;have hse:=vU hi.e e1;simp only [SX.sc,Bool.and_eq_true] at hse;split at h
   ·rename_i hb e2;split at h
    ·rename_i l hc;obtain ⟨h1,h⟩:=jA h;rw [Bool.and_eq_true] at h1;obtain ⟨L,k1,k2,k3,h⟩:=jPv h hi;obtain ⟨h2,h⟩:=qT h hi;obtain ⟨ρ',n1,e3,h⟩:=oB hi (L:=L) (n:=.con (.ofNat (jP l))) (m:=s.t m) ⟨by rw [qR,qG,k2]; rfl,k3⟩ (xT _) h1.2 h
     have i2:Inv G ρ' ((((st.up (st.n+1)).addB (.ln st.n (.con (.ofNat (jP l))) (s.t m))).setE ((n,.ts i g.up k z)::st.E)).setH (jG st.H i ⟨hb.e,g.up,.xs st.n⟩)):=by
      refine (n1.inv.setE ?_).setH ?_
      ·simp only [scE,SX.sc,Bool.and_eq_true];exact ⟨⟨Gn.mono n1.n (Gn.up_sc hse.1),jE n1.n hse.2⟩,iN n1.n hi.e⟩
      ·exact vH (hb:=⟨hb.e,g.up,.xs st.n⟩) (Gn.mono n1.n (Gn.up_sc hse.1)) (Nat.ble_eq_true_of_le (Nat.le_refl _)) (vW n1.n hi.h)
     have z1:Nz G ρ st ρ' ((((st.up (st.n+1)).addB (.ln st.n (.con (.ofNat (jP l))) (s.t m))).setE ((n,.ts i g.up k z)::st.E)).setH (jG st.H i ⟨hb.e,g.up,.xs st.n⟩)):=⟨n1.n,n1.ag,i2⟩;obtain ⟨cvw,hcv⟩:=sR h i2 fun st2 ρ2 z2 h=>hk st2 ρ2 (z1.trans z2) h;refine ⟨(.lit n,sz)::cvw,?_⟩;simp only [cvs,fL,yU,e1,Option.map,SX.den];refine uT e2 ?_;simp only [HX.den,hc,HCX.den,h1.1,req];refine k1 _ ?_;change cvs (P.C G) (denE ρ' ((n,.ts i g.up k z)::st.E)) (denH ρ' (jG st.H i ⟨hb.e,g.up,.xs st.n⟩)) cvw Q at hcv;rw [←uH,xM n1.ag hi.h] at hcv;simp only [denE,SX.den,HX.den,HCX.den,Gn.up_den,Gn.agree n1.ag hse.1,n1.lt hse.2,e3,uR n1.ag hi.e] at hcv;exact hcv
    ·exact (jB h).elim
   ·exact (jB h).elim
  ·exact (jB h).elim
 | (.frz n,sz)::r,st,ρ,h,hi,hk=>by
  simp only [jGu] at h;split at h
  ·rename_i i g k z e1;split at h
   ·rename_i hb e2;split at h
    ·rename_i j hc;obtain ⟨h1,h⟩:=jA h;have i2:Inv G ρ ((st.setE ((n,.qs j)::st.E)).setH (vR st.H i)):=(hi.setE (by simp only [scE,SX.sc,Bool.and_eq_true]; exact ⟨h1,hi.e⟩)).setH (gM hi.h)
     obtain ⟨cvw,hcv⟩:=sR h i2 fun st2 ρ2 z2 h=>hk st2 ρ2 ⟨z2.n,z2.ag,z2.inv⟩ h;refine ⟨(.frz n,sz)::cvw,?_⟩;simp only [cvs,fL,yU,e1,Option.map,SX.den];refine uT e2 ?_;simp only [HX.den,hc,HCX.den];change cvs (P.C G) (denE ρ ((n,.qs j)::st.E)) (denH ρ (vR st.H i)) cvw Q at hcv;rw [fV] at hcv;exact hcv
    ·exact (jB h).elim
   ·exact (jB h).elim
  ·exact (jB h).elim
 | (.slot i e c0,sz)::r,st,ρ,h,hi,hk=>by
  simp only [jGu] at h;obtain ⟨c,s1,ρ1,n1,h⟩:=jXb h hi;obtain ⟨h1,h⟩:=jA h;simp only [Bool.and_eq_true] at h1;split at h
  ·rename_i v e1;obtain ⟨h2,h⟩:=jA h;have i2:Inv G ρ1 ((s1.setE ((i,.ts (jP s1.H) g0 (.con 0) sz)::s1.E)).setH (s1.H++[⟨e,g0,c⟩])):=(n1.inv.setE (by simp only [scE,SX.sc,Bool.and_eq_true]; exact ⟨⟨jHp _,xT _⟩,n1.inv.e⟩)).setH (jBv (hb:=⟨e,g0,c⟩) (jHp _) h1.2.1 n1.inv.h)
   obtain ⟨cvw,hcv⟩:=sR h i2 fun st2 ρ2 z2 h=>hk st2 ρ2 (n1.nz.trans ⟨z2.n,z2.ag,z2.inv⟩) h;refine ⟨(.slot i e (c.den ρ1),sz)::cvw,?_⟩;rw [←n1.denE hi,←n1.denH hi];simp only [cvs,jHh n1.inv h1.1 h1.2.2,req,fL,yU,e1,Option.map,jHt h2];change cvs (P.C G) (denE ρ1 ((i,.ts (jP s1.H) g0 (.con 0) sz)::s1.E)) (denH ρ1 (s1.H++[⟨e,g0,c⟩])) cvw Q at hcv;rw [aW] at hcv;simp only [denE,SX.den,bK,qR] at hcv;rw [wT];exact hcv
  ·exact (jB h).elim
 | (.cell i off e c0,sz)::r,st,ρ,h,hi,hk=>by
  simp only [jGu] at h;obtain ⟨c,s1,ρ1,n1,h⟩:=jXb h hi;obtain ⟨h1,h⟩:=jA h;simp only [Bool.and_eq_true] at h1;split at h
  ·rename_i hb e1;split at h
   ·rename_i l hc;split at h
    ·rename_i v e2;obtain ⟨h2,h⟩:=jA h;have hs:=kA n1.inv.h e1;rw [hc] at hs;have hl2:scs s1.n (jG l off (.ts (jP s1.H) g0 (.con 0) sz))=true:=jWc (by simp only [SX.sc,Bool.and_eq_true]; exact ⟨jHp _,xT _⟩) hs.2
     have i2:Inv G ρ1 (s1.setH (jG s1.H i ⟨hb.e,hb.g,.l (jG l off (.ts (jP s1.H) g0 (.con 0) sz))⟩++[⟨e,g0,c⟩])):=n1.inv.setH (jBv (hb:=⟨e,g0,c⟩) (jHp _) h1.2.1 (vH (hb:=⟨hb.e,hb.g,.l (jG l off (.ts (jP s1.H) g0 (.con 0) sz))⟩) hs.1 hl2 n1.inv.h));obtain ⟨cvw,hcv⟩:=sR h i2 fun st2 ρ2 z2 h=>hk st2 ρ2 (n1.nz.trans ⟨z2.n,z2.ag,z2.inv⟩) h;refine ⟨(.cell i off e (c.den ρ1),sz)::cvw,?_⟩;rw [←n1.denE hi,←n1.denH hi];simp only [cvs,jHh n1.inv h1.1 h1.2.2,req,bU e1];simp only [HX.den,hc,HCX.den,pD e2,jHt h2];change cvs (P.C G) (denE ρ1 s1.E) (denH ρ1 (jG s1.H i ⟨hb.e,hb.g,.l (jG l off (.ts (jP s1.H) g0 (.con 0) sz))⟩++[⟨e,g0,c⟩])) cvw Q at hcv;rw [aW,←uH] at hcv;simp only [HX.den,HCX.den,←qEa,SX.den,bK,qR] at hcv;rw [wT];exact hcv
    ·exact (jB h).elim
   ·exact (jB h).elim
  ·exact (jB h).elim
end
end
noncomputable section
set_option linter.all false
open Go
section
variable {P:PX} {G:Nat→List SV→SV→Prop} {ρ ρ' ρ2 ρ0 ρb ρc:Rho} {st st' st2:Sx} {np n0:Nat}
theorem jPq {n:Nat} {E:EX} (h:scE n E=true) (v:Nat):(jIy E v).sc n=true:=by
 unfold jIy;have k:∀ {m:Nat} {x:SX},uV E m=some x→x.sc n=true:=fun e=>vU h e;cases Nat.blt v 300000<;>simp only [cond_true,cond_false]
 ·cases Nat.blt v 400000<;>simp only [cond_true,cond_false]
  ·cases Nat.blt v 500000<;>simp only [cond_true,cond_false]
   ·cases Nat.blt v 1000000<;>simp only [cond_true,cond_false]
    ·rfl
    ·split
     ·rename_i e; have:=k e; simp only [SX.sc,Bool.and_eq_true] at this; exact this.1
     ·rfl
   ·split
    ·rename_i e; have:=k e; simp only [SX.sc,Bool.and_eq_true] at this; exact this.2
    ·rfl
  ·split
   ·rename_i e; have:=k e; simp only [SX.sc,Bool.and_eq_true] at this; exact this.1
   ·rename_i e; have:=k e; simp only [SX.sc,Bool.and_eq_true] at this; exact this.2
   ·rename_i e; have:=k e; simp only [SX.sc,Bool.and_eq_true] at this; exact this.2
   ·rfl
 ·split
  ·rename_i e; exact k e
  ·rename_i e; exact k e
  ·rfl
  ·rfl
theorem jPp {n:Nat} {E:EX} (h:scE n E=true) (hn:0<n) (v:Nat):jIx E v<n:=by
 unfold jIx;split
 ·rename_i e; exact vY.1 (vU h e)
 ·exact hn
theorem jPo {n:Nat} {E:EX} (h:scE n E=true) (v:Nat):(jIw E v).sc n=true:=by
 unfold jIw;split
 ·rename_i e; exact vU h e
 ·rename_i e; have:=vU h e; simp only [SX.sc,Bool.and_eq_true] at this; exact this.1
 ·rename_i e; have:=vU h e; simp only [SX.sc,Bool.and_eq_true] at this; exact this.1
 ·exact jHp _
def Pin (n0:Nat) (E0:EX) (ρb ρc:Rho):Prop:=∀ v,(v<100000∨200000≤v)→ρc v=subst (sW n0 E0 []) ρb v
theorem jFs {E0:EX} {σ:Bd} {v:Nat} (h:v<n0):subst (sW n0 E0 σ) ρ v=ρ v:=by
 have hb:Nat.blt v n0=true:=vY.2 h;simp only [subst,sW,hb,cond_true,qC,Gn.den,Nat.add_zero]
theorem oZ {E0:EX} {σ:Bd} {v:Nat} (h:¬ v<n0) (k:v<100000):subst (sW n0 E0 σ) ρ v=⟨0,(ρ 0).l,0⟩:=by
 have hb:Nat.blt v n0=false:=yS h;have hb2:Nat.blt v 100000=true:=vY.2 k;simp only [subst,sW,hb,hb2,cond_true,cond_false,qR,bK]
theorem jFr {E0:EX} {σ:Bd} {v:Nat} (h:¬ v<n0) (k:¬ v<100000) (k2:¬ v<200000):subst (sW n0 E0 σ) ρ v=⟨(jIy E0 v).ev ρ,(ρ (jIx E0 v)).l,(jIw E0 v).den ρ⟩:=by
 have hb:Nat.blt v n0=false:=yS h;have hb2:Nat.blt v 100000=false:=yS k;have hb3:Nat.blt v 200000=false:=yS k2;simp only [subst,sW,hb,hb2,hb3,cond_false]
theorem qBx {E0:EX} {v:Nat} (h:v<n0):subst (zI n0 E0) ρ v=ρ v:=by
 have hb:Nat.blt v n0=true:=vY.2 h;simp only [subst,zI,hb,cond_true,qC,Gn.den,Nat.add_zero]
theorem jYd {E0:EX} {v:Nat} (h:¬ v<n0) (k:v<100000):subst (zI n0 E0) ρ v=⟨0,(ρ 0).l,0⟩:=by
 have hb:Nat.blt v n0=false:=yS h;have hb2:Nat.blt v 100000=true:=vY.2 k;simp only [subst,zI,hb,hb2,cond_true,cond_false,qR,bK]
theorem qBw {E0:EX} {v:Nat} (h:¬ v<n0) (k:¬ v<100000) (k2:¬ v<200000):subst (zI n0 E0) ρ v=⟨(jIy E0 v).ev ρ,(ρ (jIx E0 v)).l,(jIw E0 v).den ρ⟩:=by
 have hb:Nat.blt v n0=false:=yS h;have hb2:Nat.blt v 100000=false:=yS k;have hb3:Nat.blt v 200000=false:=yS k2;simp only [subst,zI,hb,hb2,hb3,cond_false]
theorem qLz (ρ:Rho) (s:Sb) (v w:Nat) (e1:s.t v = .var w) (e2:s.l v=w) (e3:s.g v=⟨Nat.succ w,0⟩):subst s ρ v=ρ w:=by
 simp only [subst,e1,e2,e3,qC,Gn.den,Nat.add_zero]
theorem jYe {E0:EX} {v:Nat} (h:¬ v<n0) (k:¬ v<100000) (k2:v<200000):subst (zI n0 E0) ρ v=ρ (own n0 v):=by
 have hb:Nat.blt v n0=false:=yS h;have hb2:Nat.blt v 100000=false:=yS k;have hb3:Nat.blt v 200000=true:=vY.2 k2;refine qLz _ _ _ _ ?_ ?_ ?_
 ·simp only [zI,hb,hb2,hb3,cond_true,cond_false]
 ·simp only [zI,hb,hb2,hb3,cond_true,cond_false]
 ·simp only [zI,hb,hb2,hb3,cond_true,cond_false]
theorem qDk {E0:EX} {σ:Bd} (hE:scE n0 E0=true) (h0:0<n0) (h1:n0≤100000) (ag:∀ j,j<n0→ρ j=ρb j):Pin n0 E0 ρb (subst (sW n0 E0 σ) ρ):=by
 intro v hv;by_cases q:v<n0
 ·rw [jFs q,jFs q]; exact ag v q
 ·by_cases q2:v<100000
  ·rw [oZ q q2,oZ q q2,ag 0 h0]
  ·have q3:¬ v<200000:=by omega
   rw [jFr q q2 q3,jFr q q2 q3,jI ag (jPq hE v),ag _ (jPp hE h0 v),Gn.agree ag (jPo hE v)]
def Rho.body (n0:Nat) (ρb ρc:Rho):Rho:=fun j=>if j<n0 then ρb j else ρc (100000+(j - n0))
theorem qAi {v:Nat} (k:¬ v<100000):Rho.body n0 ρb ρc (own n0 v)=ρc v:=by
 have e1:own n0 v=n0+(v - 100000):=by
  cases n0 with
  | zero=>exact (Nat.zero_add _).symm
  | succ k=>rfl
 have e2:100000+(n0+(v - 100000) - n0)=v:=by omega
 simp only [Rho.body,e1,e2];rw [if_neg (by omega)]
theorem jNn {E0:EX} (hE:scE n0 E0=true) (h0:0<n0) (h1:n0≤100000) (hp:Pin n0 E0 ρb ρc):subst (zI n0 E0) (Rho.body n0 ρb ρc)=ρc:=by
 funext v;have ag:∀ j,j<n0→Rho.body n0 ρb ρc j=ρb j:=fun j hj=>by unfold Rho.body; rw [if_pos hj]
 by_cases q1:v<n0
 ·rw [qBx q1,ag v q1,hp v (.inl (by omega)),jFs q1]
 ·by_cases q2:v<100000
  ·rw [jYd q1 q2,hp v (.inl q2),oZ q1 q2,ag 0 h0]
  ·by_cases q3:v<200000
   ·rw [jYe q1 q2 q3,qAi q2]
   ·rw [qBw q1 q2 q3,hp v (.inr (by omega)),jFr q1 q2 q3,jI ag (jPq hE v),ag _ (jPp hE h0 v),Gn.agree ag (jPo hE v)]
structure AI (G:Nat→List SV→SV→Prop) (n0:Nat) (E0:EX) (alts:List Alt) (ρb:Rho) (p:Alt×Rho):Prop where
 mem:p.1∈alts
 pin:Pin n0 E0 ρb p.2
 fx:Fx G p.2 p.1.F p.1.N p.1.B
theorem jWj {E0:EX} {H0:List HX} {a:Alt} {k:Sb→An} (h:ok (qMn n0 E0 H0 a st k)):∃ σ,ok (k (sW n0 E0 σ)):=rJ h
theorem jMd (hi:Inv G ρ st) {E0:EX} {H0:List HX} {a:Alt} {s:Sb} {pre:Bool} {k:An} (h:ok (jTm E0 H0 a st s pre k)) :
  Sub (denE (subst s ρ) a.E) (denE ρ st.E)∧(if pre then jYj (denH (subst s ρ) (vP H0 a)) (denH ρ st.H) else denH (subst s ρ) (vP H0 a)=denH ρ st.H)∧Fx G (subst s ρ) a.F a.N a.B∧ok k:=by
 unfold jTm at h;obtain ⟨h1,h⟩:=jJv hi h;rw [lX] at h1;cases pre with
 | true=>
  obtain ⟨h2,h⟩:=jNu hi h;obtain ⟨h3,h⟩:=eW hi h;rw [vD] at h2;exact ⟨h1,h2,Fx.inst.1 h3,h⟩
 | false=>
  obtain ⟨h2,h⟩:=jJw hi h;obtain ⟨h3,h⟩:=eW hi h;rw [vD] at h2;exact ⟨h1,h2,Fx.inst.1 h3,h⟩
theorem jHa {L:Nat} (hL:0<L) (hi:Inv G ρ st) {E0:EX} {H0:List HX} {a:Alt} {alts:List Alt} (hE:scE n0 E0=true) (h0:0<n0) (h1:n0≤100000) (ag:∀ j,j<n0→ρ j=ρb j) (ha:a∈alts) (h:ok (jJm n0 E0 H0 L st a)) :
  ∃ p,AI G n0 E0 alts ρb p∧Sub (denE p.2 p.1.E) (denE ρ st.E)∧denH ρ st.H=denH p.2 (vP H0 p.1)∧(p.1.m.ev p.2).toNat<L:=by
 obtain ⟨σ,h⟩:=jWj h;obtain ⟨k1,k2,k3,h⟩:=jMd hi h;obtain ⟨k4,_⟩:=jD h hi;rw [jF,qY,qW] at k4;refine ⟨(a,subst (sW n0 E0 σ) ρ),⟨ha,qDk hE h0 h1 ag,k3⟩,k1,by have:=k2; simp at this; exact this.symm,?_⟩
 have e:(Int.ofNat L:Int)=(L:Int):=rfl;dsimp only;omega
theorem jCf {E0:EX} {H0:List HX} {L:Nat}:∀ {l:List Alt} {j:Nat} {a:An},(tM n0 E0 H0 L st l)[j]?=some a→∃ t,t∈l∧a=jJm n0 E0 H0 L st t
 | [],j,a,h=>by simp [tM] at h
 | t::r,0,a,h=>by simp [tM] at h; exact ⟨t,List.mem_cons_self .., h.symm⟩
 | t::r,j+1,a,h=>by
  simp [tM] at h;obtain ⟨t',h1,h2⟩:=jCf h;exact ⟨t',List.mem_cons_of_mem _ h1,h2⟩
theorem jAg {L:Nat} (hL:0<L) (hi:Inv G ρ st) {E0:EX} {H0:List HX} {alts:List Alt} (hE:scE n0 E0=true) (h0:0<n0) (h1:n0≤100000) (ag:∀ j,j<n0→ρ j=ρb j) (h:ok (aP n0 E0 H0 L st alts)) :
  ∃ p,AI G n0 E0 alts ρb p∧Sub (denE p.2 p.1.E) (denE ρ st.E)∧denH ρ st.H=denH p.2 (vP H0 p.1)∧(p.1.m.ev p.2).toNat<L:=by
 unfold aP at h;split at h
 ·exact jHa hL hi hE h0 h1 ag (List.mem_cons_self ..) h
 ·obtain ⟨j,a,hj,ha,_⟩:=pE h;obtain ⟨t,ht,rfl⟩:=jCf hj;exact jHa hL hi hE h0 h1 ag ht ha
theorem jCp {E0:EX} {H0:List HX} {Ek:EX} {m0:LT} {h0:Nat}:∀ {l:List Alt} {j:Nat} {a:An},(lH n0 E0 H0 Ek m0 h0 st l)[j]?=some a→∃ t,t∈l∧a=jCo n0 E0 H0 Ek m0 h0 st t
 | [],j,a,h=>by simp [lH] at h
 | t::r,0,a,h=>by simp [lH] at h; exact ⟨t,List.mem_cons_self .., h.symm⟩
 | t::r,j+1,a,h=>by
  simp [lH] at h;obtain ⟨t',h1,h2⟩:=jCp h;exact ⟨t',List.mem_cons_of_mem _ h1,h2⟩
theorem jKq {E:EX}:mJ (denE ρ E)=mJ (denE ρ' E):=by rw [rS,rS]
theorem jXr (hi:Inv G ρ st) {E0:EX} {H0:List HX} {Ek:EX} {m0:LT} {hh:Nat} {a:Alt} {alts:List Alt} (hE:scE n0 E0=true) (h0:0<n0) (h1:n0≤100000) (ag:∀ j,j<n0→ρ j=ρb j) (hEk:scE n0 Ek=true) (ha:a∈alts) (h:ok (jCo n0 E0 H0 Ek m0 hh st a)) :
  ∃ p,AI G n0 E0 alts ρb p∧Sub (denE p.2 p.1.E++denE ρb Ek) (denE ρ st.E)∧jYj (denH p.2 (vP H0 p.1)) (denH ρ st.H) ∧
   (Nat.ble hh (jP (denH p.2 (vP H0 p.1)))&&Nat.ble (mJ (denE p.2 p.1.E++denE ρb Ek)) (jP (denH p.2 (vP H0 p.1)))&&Nat.ble (vJ (denH p.2 (vP H0 p.1))) (jP (denH p.2 (vP H0 p.1))))=true∧(p.1.m.ev p.2).toNat<(m0.ev ρ).toNat:=by
 obtain ⟨σ,h⟩:=jWj h;obtain ⟨k1,k2,k3,h⟩:=jMd hi h;obtain ⟨k4,h⟩:=jJv hi h;obtain ⟨k5,h⟩:=jA h;obtain ⟨k6,h⟩:=jD h hi;obtain ⟨k7,_⟩:=jD h hi;rw [jF,jT,qW] at k6;rw [jF] at k7;simp only [Bool.and_eq_true] at k5;rw [jRq,jOh (ρ:=ρ)] at k5;have eEk:denE ρ Ek=denE ρb Ek:=uR ag hEk;rw [eEk] at k4;refine ⟨(a,subst (sW n0 E0 σ) ρ),⟨ha,qDk hE h0 h1 ag,k3⟩,jJh k1 k4,by simpa using k2,?_,by dsimp only; omega⟩
 simp only [Bool.and_eq_true];rw [wT];refine ⟨⟨k5.1,?_⟩,k5.2.2⟩;have:mJ (denE (subst (sW n0 E0 σ) ρ) a.E++denE ρb Ek)=jNc (a.E++Ek):=by
  rw [←rS (ρ:=ρb),jCw];have e:∀ a b:Nat,mx a b=max a b:=by
   intro a b;unfold mx;cases q:Nat.ble a b with
   | true=>have:=Nat.le_of_ble_eq_true q; simp only [cond_true]; omega
   | false=>
    have:¬ a≤b:=fun z=>by rw [Nat.ble_eq_true_of_le z] at q; cases q
    simp only [cond_false]; omega
  have app:∀ (A B:Env),mJ (A++B)=mx (mJ A) (mJ B):=by
   intro A
   induction A with
   | nil=>intro B; rw [e]; show mJ B=max 0 (mJ B); omega
   | cons p A ih=>
    intro B;show mx (wJ p.2) (mJ (A++B))=mx (mx (wJ p.2) (mJ A)) (mJ B);rw [ih];simp only [e]; omega
  rw [app,app]
  congr 1
  exact jKq
 rw [this]; exact k5.2.1
theorem qHq {E0:EX} {H0:List HX} {Ek:EX} {se:List LT} {alts:List Alt} {m0:LT} {hh:Nat} {Q':KK} {Q:QK} {mv:Nat} (hE:scE n0 E0=true) (h0:0<n0) (h1:n0≤100000) (hEk:scE n0 Ek=true)
  (hQ:∀ e st' ρ',Bs n0 ρb ρ' st'→Inv G ρ' st'→ok (Q' e st')→Q e (denE ρ' st'.E) (denH ρ' st'.H)) (e:Ev.E) (hb:Bs n0 ρb ρ st) (hi:Inv G ρ st) (hm:(m0.ev ρ).toNat=mv) (h:ok (qLd n0 E0 H0 Ek se alts m0 hh Q' e st)) :
  lpQ (fun p:Alt×Rho=>denE p.2 p.1.E++denE ρb Ek) (fun p=>denH p.2 (vP H0 p.1)) (AI G n0 E0 alts ρb) (fun p=>(p.1.m.ev p.2).toNat) mv hh Q e (denE ρ st.E) (denH ρ st.H):=by
 cases e with
 | exit i=>exact hQ _ _ _ hb hi h
 | ret=>exact hQ _ _ _ hb hi h
 | nrm=>
  simp only [qLd] at h;obtain ⟨s1,n1,h⟩:=dQ h hi;have b1:=hb.nx n1;have fin:∀ {a:Alt},a∈alts→ok (jCo n0 E0 H0 Ek m0 hh s1 a)→lpQ (fun p:Alt×Rho=>denE p.2 p.1.E++denE ρb Ek) (fun p=>denH p.2 (vP H0 p.1)) (AI G n0 E0 alts ρb) (fun p=>(p.1.m.ev p.2).toNat) mv hh Q .nrm (denE ρ st.E) (denH ρ st.H):=fun ha h=>by
   obtain ⟨p,k1,k2,k3,k4,k5⟩:=jXr n1.inv hE h0 h1 b1.ag hEk ha h;rw [n1.denE hi] at k2;rw [n1.denH hi] at k3;refine ⟨p,k2,k3,?_⟩;show req (Nat.ble hh (jP (denH p.2 (vP H0 p.1)))&&Nat.ble (mJ (denE p.2 p.1.E++denE ρb Ek)) (jP (denH p.2 (vP H0 p.1)))&&Nat.ble (vJ (denH p.2 (vP H0 p.1))) (jP (denH p.2 (vP H0 p.1)))) _;rw [k4];exact ⟨k1,by rw [←hm]; exact k5⟩
  split at h
  ·exact fin (List.mem_cons_self ..) h
  ·obtain ⟨j,a,hj,ha,_⟩:=pE h;obtain ⟨t,ht,rfl⟩:=jCp hj;exact fin ht ha
theorem jWa {n:Nat}:∀ {A B:EX},scE n A=true→scE n B=true→scE n (A++B)=true
 | [],B,h,k=>k
 | p::A,B,h,k=>by simp only [List.cons_append,scE,Bool.and_eq_true] at h ⊢; exact ⟨h.1,jWa h.2 k⟩
theorem tO {E0:EX} {H0:List HX} {Ek:EX} {se:List LT} {alts:List Alt} {body:Sx→KK→An} {Q':KK}:∀ {l:List Alt},ok (jJo E0 H0 Ek se alts body st Q' l)→∀ a,a∈l→ok (jHc E0 H0 Ek se alts body st Q' a)
 | [],h,a,ha=>by cases ha
 | q::r,h,a,ha=>by
  obtain ⟨h1,h2⟩:=zJ h;rcases List.mem_cons.1 ha with rfl | ha
  ·exact h1
  ·exact tO h2 a ha
theorem jHb (hG:dY G) {E0:EX} {H0:List HX} {Ek:EX} {se:List LT} {alts:List Alt} {body:Sx→KK→An} {Q':KK} {wbody:Env→Hp→QK→Prop} {Q:QK} (hi:Inv G ρb st) (hE:scE st.n E0=true) (h0:0<st.n) (h1:st.n≤100000)
  (hbody:∀ {n1:Nat} {ρ1:Rho} {st1:Sx} {Q1:KK} {Q2:QK},(∀ j,j<st.n→ρ1 j=ρb j)→st.n≤n1→ok (body st1 Q1)→Inv G ρ1 st1→Bs n1 ρ1 ρ1 st1→(∀ e st' ρ',Bs n1 ρ1 ρ' st'→Inv G ρ' st'→ok (Q1 e st')→Q2 e (denE ρ' st'.E) (denH ρ' st'.H))→wbody (denE ρ1 st1.E) (denH ρ1 st1.H) Q2)
  (hQ:∀ e st' ρ',Bs st.n ρb ρ' st'→Inv G ρ' st'→ok (Q' e st')→Q e (denE ρ' st'.E) (denH ρ' st'.H))
  (h:∀ a,a∈alts→ok (jHc E0 H0 Ek se alts body st Q' a)) (p:Alt×Rho) (hp:AI G st.n E0 alts ρb p) :
  wbody (denE p.2 p.1.E++denE ρb Ek) (denH p.2 (vP H0 p.1)) (lpQ (fun p:Alt×Rho=>denE p.2 p.1.E++denE ρb Ek) (fun p=>denH p.2 (vP H0 p.1)) (AI G st.n E0 alts ρb) (fun p=>(p.1.m.ev p.2).toNat) (p.1.m.ev p.2).toNat (jP (denH p.2 (vP H0 p.1))) Q):=by
 have h:=h p.1 hp.mem;unfold jHc at h;rw [xP] at h;replace h:=jA h;obtain ⟨hs,h⟩:=h;simp only [Bool.and_eq_true] at hs;obtain ⟨s1,s2,s3,s4⟩:=hs;have hsub:=jNn hE h0 h1 hp.pin
 let ρ1:=Rho.body st.n ρb p.2
 have ag:∀ j,j<st.n→ρ1 j=ρb j:=fun j hj=>by show (if j<st.n then _ else _)=_; rw [if_pos hj]
 have n1:Nx G ρb st ρ1 (st.up (st.n+p.1.k)):=hi.up (Nat.le_add_right _ _) ag;have i2:Inv G ρ1 (((st.up (st.n+p.1.k)).setE (jAj (zI st.n E0) p.1.E++Ek)).setH (gF (zI st.n E0) (vP H0 p.1))):=
  (n1.inv.setE (jWa s1 (iN n1.n s3))).setH s2
 have hf:Fx G ρ1 (wV (zI st.n E0) p.1.F) (wV (zI st.n E0) p.1.N) (nI (zI st.n E0) p.1.B):=by
  rw [Fx.inst,hsub]; exact hp.fx
 obtain ⟨st1,n2,h⟩:=jGz hG h i2 hf;have b2:Bs (st.n+p.1.k) ρ1 ρ1 st1:=⟨n2.n,fun _ _=>rfl⟩;have eE:denE ρ1 st1.E=denE p.2 p.1.E++denE ρb Ek:=by
  rw [n2.denE i2];show denE ρ1 (jAj (zI st.n E0) p.1.E++Ek)=_;rw [jCw,lX,hsub,uR ag s3]
 have eH:denH ρ1 st1.H=denH p.2 (vP H0 p.1):=by
  rw [n2.denH i2];show denH ρ1 (gF (zI st.n E0) (vP H0 p.1))=_;rw [vD,hsub]
 have key:=hbody (Q2:=lpQ (fun p:Alt×Rho=>denE p.2 p.1.E++denE ρb Ek) (fun p=>denH p.2 (vP H0 p.1)) (AI G st.n E0 alts ρb) (fun p=>(p.1.m.ev p.2).toNat) (p.1.m.ev p.2).toNat (jP (denH p.2 (vP H0 p.1))) Q) ag (Nat.le_add_right _ _) h n2.inv b2 fun e st' ρ' hb hi' h=>by
  have hb':Bs st.n ρb ρ' st':=⟨Nat.le_trans (Nat.le_add_right _ _) hb.n,fun j hj=>(hb.ag j (by omega)).trans (ag j hj)⟩
  rw [wT];refine qHq hE h0 h1 s3 hQ e hb' hi' ?_ h;rw [jI hb.ag s4,qW,hsub]
 rw [eE,eH] at key;exact key
def okW (P:PX) (cur:LT) (L np:Nat) (an:Nat→Option Ann) (hs:Nat→Option (List LT)) (kd:Nat→Nat) (b0:Sx) (c:K) (id:Nat) (Q:KK):Prop:=ok (xW 0 P cur L np an hs kd b0 c id Q)∨(ok (xW 1 P cur L np an hs kd b0 c id Q)∧ok (xW 2 P cur L np an hs kd b0 c id Q))
section
variable {P:PX} {cur:LT} {L np:Nat} {an:Nat→Option Ann} {hs:Nat→Option (List LT)} {kd:Nat→Nat} {b0:Sx} {a b c:K} {id:Nat} {Q:KK}
theorem jVq (h:okW P cur L np an hs kd b0 (.seq a b) id Q):okW P cur L np an hs kd b0 a id (jXd (fun st=>xK P cur L np an hs kd b true id st Q) Q)∧okW P cur L np an hs kd b0 b id Q:=by
 rcases h with h | ⟨h,k⟩
 ·exact ⟨.inl (zJ h).1,.inl (zJ h).2⟩
 ·exact ⟨.inr ⟨(zJ h).1,(zJ k).1⟩,.inr ⟨(zJ h).2,(zJ k).2⟩⟩
theorem jOq {x:X} (h:okW P cur L np an hs kd b0 (.cond x a b) id Q):okW P cur L np an hs kd b0 a id Q∧okW P cur L np an hs kd b0 b id Q:=by
 rcases h with h | ⟨h,k⟩
 ·exact ⟨.inl (zJ h).1,.inl (zJ h).2⟩
 ·exact ⟨.inr ⟨(zJ h).1,(zJ k).1⟩,.inr ⟨(zJ h).2,(zJ k).2⟩⟩
theorem jYv {i:Nat} (h:okW P cur L np an hs kd b0 (.block i c) id Q):okW P cur L np an hs kd b0 c i (jWz i Q):=h
theorem qDh {x:Ann} (h:okW P cur L np an hs kd b0 (.loop c) id Q) (e:an id=some x) (ho:x.once=true):(Nat.ble np 100000&&Nat.blt 0 np)=true∧∀ y,y∈x.alts→ok (jHc [] [] [] x.se x.alts (fun st Q=>xK P cur L np an hs kd c false id st Q) b0 Q y):=by
 have key:∀ {n:Nat},ok (xW n P cur L np an hs kd b0 (.loop c) id Q)→(Nat.ble np 100000&&Nat.blt 0 np)=true∧∀ y,y∈qQh n x.alts→ok (jHc [] [] [] x.se x.alts (fun st Q=>xK P cur L np an hs kd c false id st Q) b0 Q y):=fun h=>by
  simp only [xW,e,ho,cond_true] at h;obtain ⟨q,h⟩:=jA h;exact ⟨q,tO h⟩
 rcases h with h | ⟨h,k⟩
 ·exact key h
 ·refine ⟨(key h).1,fun y hy=>?_⟩;have h1:=(key h).2 y;have h2:=(key k).2 y;cases q:x.alts with
  | nil=>rw [q] at hy; cases hy
  | cons z r=>
   rw [q] at hy h1 h2;rcases List.mem_cons.1 hy with rfl | hy
   ·exact h1 (List.mem_cons_self ..)
   ·exact h2 hy
end
theorem jAv (hG:dY G) (hP:PSc P) {Γ:qJ} (hΓ:∀ d f l H Q,Gam P G d f l H Q→Γ d f l H Q) {cur:LT} {L:Nat} (hL:0<L) {an:Nat→Option Ann} {hs:Nat→Option (List LT)} {kd:Nat→Nat} {d:Nat} {b0:Sx} {ρ0:Rho} {npf:Nat} (hc:cur.sc npf=true) (hd:cur.ev ρ0≤d+1) (hb0:Inv G ρ0 b0) (hn0:b0.n=npf) :
  ∀ (c:K) {top:Bool} {id:Nat} {np:Nat} {ρn:Rho} {st:Sx} {ρ:Rho} {Q':KK} {Q:QK},npf≤np→(∀ j,j<npf→ρn j=ρ0 j)→(top=true→np=npf∧okW P cur L npf an hs kd b0 c id Q')→ok (xK P cur L npf an hs kd c top id st Q')→Inv G ρ st→Bs np ρn ρ st →
  (∀ e st' ρ',Bs np ρn ρ' st'→Inv G ρ' st'→ok (Q' e st')→Q e (denE ρ' st'.E) (denH ρ' st'.H))→wK (P.C G) Γ L d c (denE ρ st.E) (denH ρ st.H) Q
 | .skip,top,id,np,ρn,st,ρ,Q',Q,hle,hag,hw,h,hi,hb,hQ=>hQ _ _ _ hb hi h
 | .reg ops,top,id,np,ρn,st,ρ,Q',Q,hle,hag,hw,h,hi,hb,hQ=>qFj hG hP hΓ (jE hle hc) (by rw [jI hag hc]; exact hd) h hi hb fun st' ρ' b i h=>hQ .nrm st' ρ' b i h
 | .dreg ops,top,id,np,ρn,st,ρ,Q',Q,hle,hag,hw,h,hi,hb,hQ=>jQl hG hP hΓ (jE hle hc) (by rw [jI hag hc]; exact hd) h hi hb fun st' ρ' b i h=>hQ .nrm st' ρ' b i h
 | .fr ops fa us,top,id,np,ρn,st,ρ,Q',Q,hle,hag,hw,h,hi,hb,hQ=>(jB h).elim
 | .seq a b,top,id,np,ρn,st,ρ,Q',Q,hle,hag,hw,h,hi,hb,hQ=>by
  have hw1:top=true→np=npf∧okW P cur L npf an hs kd b0 a id (jXd (fun st=>xK P cur L npf an hs kd b top id st Q') Q'):=fun e=>by
   obtain ⟨q1,q2⟩:=hw e;have q3:=(jVq q2).1;subst e;exact ⟨q1,q3⟩
  refine jAv hG hP hΓ hL hc hd hb0 hn0 a (Q:=qQi (fun E H=>wK (P.C G) Γ L d b E H Q) Q) hle hag hw1 h hi hb fun e st' ρ' hb' hi' h=>?_;cases e with
  | nrm=>exact jAv hG hP hΓ hL hc hd hb0 hn0 b hle hag (fun e=>by obtain ⟨q1,q2⟩:=hw e; exact ⟨q1,(jVq q2).2⟩) h hi' hb' hQ
  | exit i=>exact hQ _ _ _ hb' hi' h
  | ret=>exact hQ _ _ _ hb' hi' h
 | .cond c a b,top,id,np,ρn,st,ρ,Q',Q,hle,hag,hw,h,hi,hb,hQ=>by
  refine zL (P:=fun c=>jWp c (wK (P.C G) Γ L d a (denE ρ st.E) (denH ρ st.H) Q) (wK (P.C G) Γ L d b (denE ρ st.E) (denH ρ st.H) Q)) h hi fun v hv h=>?_;obtain ⟨x,s1,e,n1,h⟩:=iY h hi;rw [e];have b1:=hb.nx n1;rw [←n1.denE hi,←n1.denH hi];cases x with
  | true=>exact jAv hG hP hΓ hL hc hd hb0 hn0 a hle hag (fun e=>by obtain ⟨q1,q2⟩:=hw e; exact ⟨q1,(jOq q2).1⟩) h n1.inv b1 hQ
  | false=>exact jAv hG hP hΓ hL hc hd hb0 hn0 b hle hag (fun e=>by obtain ⟨q1,q2⟩:=hw e; exact ⟨q1,(jOq q2).2⟩) h n1.inv b1 hQ
 | .block i c,top,id,np,ρn,st,ρ,Q',Q,hle,hag,hw,h,hi,hb,hQ=>by
  refine jAv hG hP hΓ hL hc hd hb0 hn0 c (Q:=qGs i Q) (Q':=jWz i Q') (id:=i) hle hag (fun e=>⟨(hw e).1,jYv (hw e).2⟩) h hi hb fun e st' ρ' hb' hi' h=>?_;cases e with
  | nrm=>exact hQ _ _ _ hb' hi' h
  | ret=>exact hQ _ _ _ hb' hi' h
  | exit k=>
   rcases zE h with ⟨q,h⟩ | ⟨q,h⟩
   ·exact jCi q (hQ _ _ _ hb' hi' h)
   ·exact lB q (hQ _ _ _ hb' hi' h)
 | .loop c,top,id,np,ρn,st,ρ,Q',Q,hle,hag,hw,h,hi,hb,hQ=>by
  simp only [xK] at h;unfold qKp at h;split at h
  ·exact (jB h).elim
  ·rename_i a ea;show jFz (P.C G) L (fun E H Q=>wK (P.C G) Γ L d c E H Q) (denE ρ st.E) (denH ρ st.H) Q;unfold jFz;by_cases ho:(a.once&&top)=true
   ·-- a loop that stands for itself
    obtain ⟨cvw,hcv⟩:=sR (Q:=fun E' H'=>∃ (α:Type) (F:α→Env) (G0:α→Hp) (I:α→Prop) (m:α→Nat),(∃ p,Sub (F p++fB E' []) E'∧H'=G0 p∧I p∧m p<L)∧∀ p,I p→wK (P.C G) Γ L d c (F p++fB E' []) (G0 p) (lpQ (fun p=>F p++fB E' []) G0 I m (m p) (jP (G0 p)) Q)) h hi fun s1 ρ1 z1 h=>by
     obtain ⟨s2,n2,h⟩:=dQ h z1.inv;rw [ho] at h;simp only [cond_true] at h;rw [Bool.and_eq_true] at ho;obtain ⟨enp,hw⟩:=hw ho.2;subst enp;obtain ⟨hq,hw⟩:=qDh hw ea ho.1;rw [Bool.and_eq_true] at hq;have q1:=Nat.le_of_ble_eq_true hq.1;have q2:=vY.1 hq.2;have b1:Bs np ρn ρ1 s1:=⟨Nat.le_trans hb.n z1.n,fun j hj=>(z1.ag j (Nat.lt_of_lt_of_le hj hb.n)).trans (hb.ag j hj)⟩;have b2:=b1.nx n2;have ag0:∀ j,j<np→ρ1 j=ρ0 j:=fun j hj=>(b2.ag j hj).trans (hag j hj);obtain ⟨p,k1,k2,k3,k4⟩:=jAg hL (ρb:=ρ0) n2.inv (E0:=[]) (H0:=[]) rfl q2 q1 ag0 h;rw [n2.denE z1.inv] at k2;rw [n2.denH z1.inv] at k3;refine ⟨Alt×Rho,fun p=>denE p.2 p.1.E,fun p=>denH p.2 (vP [] p.1),AI G np [] a.alts ρ0,fun p=>(p.1.m.ev p.2).toNat,⟨p,?_,k3,k1,k4⟩,fun p hp=>?_⟩
     ·show Sub (denE p.2 p.1.E++[]) _;rw [List.append_nil]; exact k2
     ·have:=jHb hG (ρb:=ρ0) (st:=b0) (Q:=Q) (wbody:=fun E H Q=>wK (P.C G) Γ L d c E H Q) hb0 (E0:=[]) (H0:=[]) (Ek:=[]) rfl (by rw [hn0]; exact q2) (by rw [hn0]; exact q1) (fun {n1 ρ1' st1 Q1 Q2} ag hle1 h hi1 hb1 hQ1=>jAv hG hP hΓ hL hc hd hb0 hn0 c (top:=false) (id:=id) (by rw [hn0] at hle1; exact hle1) (fun j hj=>ag j (by rw [hn0]; exact hj)) (fun e=>by cases e) h hi1 hb1 hQ1)
       (fun e st' ρ' hb' hi' h=>hQ e st' ρ' ⟨by rw [hn0] at hb'; exact hb'.n,fun j hj=>by rw [hn0] at hb'; rw [hb'.ag j hj,hag j hj]⟩ hi' h) hw p (by rw [hn0]; exact hp)
      rw [hn0] at this;exact this
    exact ⟨[],cvw,hcv⟩
   ·obtain ⟨cvw,hcv⟩:=sR (Q:=fun E' H'=>∃ (α:Type) (F:α→Env) (G0:α→Hp) (I:α→Prop) (m:α→Nat),(∃ p,Sub (F p++fB E' a.ks) E'∧H'=G0 p∧I p∧m p<L)∧∀ p,I p→wK (P.C G) Γ L d c (F p++fB E' a.ks) (G0 p) (lpQ (fun p=>F p++fB E' a.ks) G0 I m (m p) (jP (G0 p)) Q)) h hi fun s1 ρ1 z1 h=>by
     obtain ⟨s2,n2,h⟩:=dQ h z1.inv;have ho':(a.once&&top)=false:=by cases q:(a.once&&top); rfl; exact absurd q ho
     rw [ho'] at h;simp only [cond_false] at h;obtain ⟨hq,h⟩:=jA h;rw [Bool.and_eq_true] at hq;have q1:=Nat.le_of_ble_eq_true hq.1;have q2:=vY.1 hq.2;obtain ⟨h1,h2⟩:=zJ h;have b1:Bs np ρn ρ1 s1:=⟨Nat.le_trans hb.n z1.n,fun j hj=>(z1.ag j (Nat.lt_of_lt_of_le hj hb.n)).trans (hb.ag j hj)⟩;have b2:=b1.nx n2;obtain ⟨p,k1,k2,k3,k4⟩:=jAg hL (ρb:=ρ1) n2.inv n2.inv.e q2 q1 (fun _ _=>rfl) h1;rw [←n2.denE z1.inv,←n2.denH z1.inv,←oN];refine ⟨Alt×Rho,fun p=>denE p.2 p.1.E,fun p=>denH p.2 (vP s2.H p.1),AI G s2.n s2.E a.alts ρ1,fun p=>(p.1.m.ev p.2).toNat,⟨p,?_,k3,k1,k4⟩,fun p hp=>?_⟩
     ·refine jJh k2 ?_;exact pick_sub a.ks
     ·exact jHb hG (ρb:=ρ1) (st:=s2) (Q:=Q) (wbody:=fun E H Q=>wK (P.C G) Γ L d c E H Q) n2.inv n2.inv.e q2 q1 (fun {n1 ρ1' st1 Q1 Q2} ag hle1 h hi1 hb1 hQ1=>jAv hG hP hΓ hL hc hd hb0 hn0 c (top:=false) (id:=id) (Nat.le_trans hle (Nat.le_trans b2.n hle1)) (fun j hj=>by rw [ag j (Nat.lt_of_lt_of_le hj (Nat.le_trans hle b2.n)),b2.ag j (Nat.lt_of_lt_of_le hj hle),hag j hj]) (fun e=>by cases e) h hi1 hb1 hQ1)
       (fun e st' ρ' hb' hi' h=>hQ e st' ρ' ⟨Nat.le_trans b2.n hb'.n,fun j hj=>(hb'.ag j (Nat.lt_of_lt_of_le hj b2.n)).trans (b2.ag j hj)⟩ hi' h) (tO h2) p hp
    exact ⟨a.ks,cvw,hcv⟩
 | .exit i,top,id,np,ρn,st,ρ,Q',Q,hle,hag,hw,h,hi,hb,hQ=>hQ _ _ _ hb hi h
 | .ret,top,id,np,ρn,st,ρ,Q',Q,hle,hag,hw,h,hi,hb,hQ=>hQ _ _ _ hb hi h
 | .no,top,id,np,ρn,st,ρ,Q',Q,hle,hag,hw,h,hi,hb,hQ=>(jB h).elim
 where
 pick_sub {E:EX} {ρ:Rho}:∀ (ks:List Nat),Sub (denE ρ (jEo E ks)) (denE ρ E)
  | []=>trivial
  | n::r=>by
   simp only [jEo];split
   ·rename_i v e;exact ⟨⟨v.den ρ,by rw [yU,e]; rfl,rfl⟩,pick_sub r⟩
   ·exact pick_sub r
end
end
noncomputable section
set_option linter.all false
open Go
section
variable {P:PX} {G:Nat→List SV→SV→Prop} {ρ ρ' ρ2 ρ0 ρb ρc:Rho} {st st' st2:Sx} {np n0:Nat}
theorem jLq:∀ {res:List RV0} {st:Sx} {ρ:Rho} {Q':List SX→Sx→An} {Q:List SV→Prop},ok (jTi P res st Q')→Inv G ρ st →
  (∀ v st' ρ',Nx G ρ st ρ' st'→scs st'.n v=true→ok (Q' v st')→Q (jR ρ' v))→jGa (P.C G) (denE ρ st.E) (denH ρ st.H) res Q
 | [],st,ρ,Q',Q,h,hi,hk=>hk [] st ρ (Nx.refl hi) rfl h
 | .t n::r,st,ρ,Q',Q,h,hi,hk=>by
  simp only [jTi] at h;simp only [jGa,fL,yU];split at h
  ·rename_i v e;have hv:=vU hi.e e;rw [e];simp only [Option.map];exact jLq (Q:=fun l=>Q (v.den ρ::l)) h hi fun l st' ρ' n hs h=>by
    have:=hk (v::l) st' ρ' n (by simp only [scs,Bool.and_eq_true]; exact ⟨SX.mono n.n hv,hs⟩) h
    simp only [jR,n.sx hv] at this;exact this
  ·exact (jB h).elim
 | .c a n::r,st,ρ,Q',Q,h,hi,hk=>by
  simp only [jTi] at h;simp only [jGa,fL,yU];split at h
  ·rename_i a e;have ha:=vU hi.e e;rw [e];simp only [Option.map];refine qFg h hi ha fun v s1 ρ1 n1 h=>?_
   ·obtain ⟨hv,h⟩:=jA h;rw [←n1.denE hi,←n1.denH hi];exact jLq (Q:=fun l=>Q (v.den ρ1::l)) h n1.inv fun l st' ρ' n hs h=>by
     have:=hk (v::l) st' ρ' (n1.trans n) (by simp only [scs,Bool.and_eq_true]; exact ⟨SX.mono n.n hv,hs⟩) h
     simp only [jR,n.sx hv] at this;exact this
  ·exact (jB h).elim
theorem qEl (l:List SX):(qJm l).den ρ=qEk (jR ρ l):=by
 match l with
 | []=>rfl
 | [v]=>rfl
 | _::_::_=>rfl
theorem qJn {n:Nat} {l:List SX} (h:scs n l=true):(qJm l).sc n=true:=by
 match l,h with
 | [],h=>rfl
 | [v],h=>simp only [scs,Bool.and_eq_true] at h; exact h.1
 | _::_::_,h=>exact h
theorem qFo {k:Nat} {hb:HX} {Q':HX→Sx→An} {Q:HB→Prop} (h:ok (qFn P k hb st Q')) (hi:Inv G ρ st) (hc:hb.g.sc st.n=true∧hb.c.sc st.n=true)
  (hk:∀ h' st' ρ',Nx G ρ st ρ' st'→h'.g.sc st'.n=true→h'.c.sc st'.n=true→ok (Q' h' st')→Q (h'.den ρ')):jXp (P.C G) k (denH ρ st.H) (hb.den ρ) Q:=by
 unfold qFn at h;unfold jXp;split at h
 ·rename_i l ts e1 e2;show (match (hb.c.den ρ),P.bt hb.e with | .l l,some ts=>_ | .l l,none=>_ | _,_=>_)
  rw [e1] at hc;simp only [HX.den,e1,HCX.den,e2];refine pY ts h hi hc.2 fun v fr s1 ρ1 n1 hs h=>?_;obtain ⟨h1,h⟩:=jA h;simp only [Bool.and_eq_true] at h1;rw [h1.1,pG,h1.2.1];have:=hk ⟨hb.e,hb.g,.l v⟩ s1 ρ1 n1 (Gn.mono n1.n hc.1) h1.2.2 h;simp only [HX.den,HCX.den,Gn.agree n1.ag hc.1] at this;exact this
 ·rename_i l e1 e2;rw [e1] at hc;have:=hk ⟨hb.e,hb.g,.l l⟩ st ρ (Nx.refl hi) hc.1 hc.2 h;simp only [HX.den,HCX.den] at this;show (match (hb.c.den ρ),P.bt hb.e with | .l l,some ts=>_ | .l l,none=>_ | _,_=>_)
  simp only [HX.den,e1,HCX.den,e2];exact this
 ·rename_i h1 h2;have:=hk hb st ρ (Nx.refl hi) hc.1 hc.2 h;show (match (hb.c.den ρ),P.bt hb.e with | .l l,some ts=>_ | .l l,none=>_ | _,_=>_)
  cases e1:hb.c with
  | l l=>
   cases e2:P.bt hb.e with
   | none=>exact absurd e2 (h2 l e1)
   | some ts=>exact absurd e2 (h1 l ts e1)
  | r T R n=>simp only [e1,HCX.den]; exact this
  | xs j=>simp only [e1,HCX.den]; exact this
  | rl T R n l=>simp only [e1,HCX.den]; exact this
  | dead=>simp only [e1,HCX.den]; exact this
theorem jJd {k:Nat}:∀ {n:Nat} {l:List HX} {st:Sx} {ρ:Rho} {Q':List HX→Sx→An} {Q:Hp→Prop},ok (aK P k n l st Q')→Inv G ρ st→scH st.n l=true →
  (∀ v st' ρ',Nx G ρ st ρ' st'→scH st'.n v=true→ok (Q' v st')→Q (denH ρ' v))→nN (P.C G) k (denH ρ st.H) n (denH ρ l) Q
 | 0,l,st,ρ,Q',Q,h,hi,hl,hk=>by
  simp only [aK] at h;simp only [nN];exact hk [] st ρ (Nx.refl hi) rfl h
 | n+1,[],st,ρ,Q',Q,h,hi,hl,hk=>by simp only [aK] at h; exact (jB h).elim
 | n+1,hb::r,st,ρ,Q',Q,h,hi,hl,hk=>by
  simp only [aK] at h;simp only [scH,Bool.and_eq_true] at hl;show jXp (P.C G) k (denH ρ st.H) (hb.den ρ) fun hb=>nN (P.C G) k (denH ρ st.H) n (denH ρ r) fun r=>Q (hb::r);refine qFo h hi ⟨hl.1,hl.2.1⟩ fun h' s1 ρ1 n1 hg hc h=>?_;rw [←n1.denH hi,←xM n1.ag hl.2.2];exact jJd (Q:=fun r=>Q (h'.den ρ1::r)) h n1.inv (vW n1.n hl.2.2) fun v s2 ρ2 n2 hs h=>by
   have:=hk (h'::v) s2 ρ2 (n1.trans n2) (by simp only [scH,Bool.and_eq_true]; exact ⟨Gn.mono n2.n hg,HCX.mono n2.n hc,hs⟩) h
   simp only [denH,List.map_cons,HX.den,Gn.agree n2.ag hg,HCX.agree n2.ag hc] at this;exact this
theorem jAo {v:SX} {H:List HX}:∀ {l:List dZ} {j:Nat} {a:An},(sE np st v H l)[j]?=some a→∃ p,p∈l∧a=jEu np st v H p
 | [],j,a,h=>by simp [sE] at h
 | t::r,0,a,h=>by simp [sE] at h; exact ⟨t,List.mem_cons_self .., h.symm⟩
 | t::r,j+1,a,h=>by
  simp [sE] at h;obtain ⟨t',h1,h2⟩:=jAo h;exact ⟨t',List.mem_cons_of_mem _ h1,h2⟩
theorem jZe {v:SX} {H:List HX} {p:dZ} (h:ok (jEu np st v H p)) (hi:Inv G ρ st):∃ ρc:Rho,(∀ j,j<np→ρc j=ρ j)∧Fx G ρc p.F p.N p.B∧p.r.den ρc=v.den ρ∧denH ρc p.H=denH ρ H:=by
 obtain ⟨σ,h⟩:=rJ h;obtain ⟨h1,h⟩:=jJz hi h;obtain ⟨h2,h⟩:=jJw hi h;obtain ⟨h3,_⟩:=eW hi h;rw [SX.inst_den] at h1;rw [vD] at h2;refine ⟨subst (qJj np σ) ρ,fun j hj=>?_,Fx.inst.1 h3,h1,h2⟩;have hb:Nat.blt j np=true:=vY.2 hj;simp only [subst,qJj,hb,cond_true,qC,Gn.den,Nat.add_zero]
theorem qJv {f k:Nat} {posts:List dZ} {res:List RV0} {Q:Q2} (e:Ev.E) (hb:Bs np ρ0 ρ st) (hi:Inv G ρ st) (h:ok (jQm P f k np posts res e st))
  (hp:∀ p,p∈posts→∀ ρ':Rho,(∀ j,j<np→ρ' j=ρ0 j)→Fx G ρ' p.F p.N p.B→Q (p.r.den ρ') (denH ρ' p.H)):qDt (P.C G) f k res Q e (denE ρ st.E) (denH ρ st.H):=by
 have key:∀ {A:An},A=(jTi P res st fun l st=>jLr P (P.sg f).2 (qJm l) st fun v fr st=>aK P k k st.H st fun H' st=>jJ (Nat.ble (pA v) k&&(Nat.ble (mQ H') k&&sY k fr)) 174 (st.setE [(0,v)]) [] (jFd np ((st.setE [(0,v)]).setH H') v H' posts))→ok A →
   jGa (P.C G) (denE ρ st.E) (denH ρ st.H) res fun l=>can (P.C G) (denH ρ st.H) ((P.C G).sg f).2 (qEk l) fun v fr=>nN (P.C G) k (denH ρ st.H) k (denH ρ st.H) fun H'=>req (Nat.ble (wJ v) k&&Nat.ble (vJ H') k&&sY k fr) (Q v H'):=by
  intro A hA h;subst hA;refine jLq h hi fun l s1 ρ1 n1 hl h=>?_;rw [←qEl,←n1.denH hi];refine jXa _ h n1.inv (qJn hl) fun v fr s2 ρ2 n2 hv h=>?_;rw [←n2.denH n1.inv];refine jJd h n2.inv n2.inv.h fun H' s3 ρ3 n3 hH h=>?_;obtain ⟨h1,h⟩:=jA h;simp only [Bool.and_eq_true] at h1;rw [oG,dG,h1.1,h1.2.1,h1.2.2];have i4:Inv G ρ3 ((s3.setE [(0,v)]).setH H'):=(n3.inv.setE (by simp only [scE,Bool.and_eq_true]; exact ⟨SX.mono n3.n hv,trivial⟩)).setH hH
  have b3:Bs np ρ0 ρ3 s3:=((hb.nx n1).nx n2).nx n3;have fin:∀ {p:dZ},p∈posts→ok (jEu np ((s3.setE [(0,v)]).setH H') v H' p)→Q (v.den ρ2) (denH ρ3 H'):=fun hpm h=>by
   obtain ⟨ρc,c1,c2,c3,c4⟩:=jZe h i4;have:=hp _ hpm ρc (fun j hj=>(c1 j hj).trans (b3.ag j hj)) c2;rw [c3,c4,n3.sx hv] at this;exact this
  show Q (v.den ρ2) (denH ρ3 H');unfold jFd at h;split at h
  ·exact fin (List.mem_cons_self ..) h
  ·obtain ⟨j,a,hj,ha,_⟩:=pE h;obtain ⟨t,ht,rfl⟩:=jAo hj;exact fin ht ha
 cases e with
 | exit i=>exact (jB h).elim
 | nrm=>exact key rfl h
 | ret=>exact key rfl h
theorem jMf:∀ (l:List SX) (k:Nat),denE ρ (jCe l k)=jJl (jR ρ l) k
 | [],k=>rfl
 | v::r,k=>by simp only [jCe,denE,jR,jJl,jMf r (k+1)]
theorem jTo {n:Nat}:∀ {l:List SX} {k:Nat},scs n l=true→scE n (jCe l k)=true
 | [],k,h=>rfl
 | v::r,k,h=>by simp only [scs,Bool.and_eq_true] at h; simp only [jCe,scE,Bool.and_eq_true]; exact ⟨h.1,jTo h.2⟩
def okF (P:PX) (L:Nat) (f:Nat) (g:F) (ct:CtX) (an:Nat→Option Ann) (hs:Nat→Option (List LT)) (kd:Nat→Nat):Prop:=ok (xF P L f g ct an hs kd)∨(ok (xF1 P L f g ct an hs kd)∧ok (xF2 P L f g ct an hs kd))
theorem qRl (hG:dY G) (hP:PSc P) {Γ:qJ} (hΓ:∀ d f l H Q,Gam P G d f l H Q→Γ d f l H Q) {L:Nat} (hL:0<L) {f:Nat} {g:F} {ct:CtX} {an:Nat→Option Ann} {hs:Nat→Option (List LT)} {kd:Nat→Nat} (h:okF P L f g ct an hs kd) {d:Nat} {l:List SV} {H:Hp} {Q:Q2} (hc:qKb G ct d l H Q):∃ d',d=d'+1∧wF (P.C G) Γ L d' f g l H Q:=by
 obtain ⟨ρ,c1,rfl,rfl,c4,c5⟩:=hc;have h0:(Nat.ble (jP ct.args) g.nt&&jRd ct)=true:=by
  rcases h with h | ⟨h,_⟩
  ·unfold xF at h; exact (jA h).1
  ·unfold xF1 at h; exact (jA h).1
 rw [Bool.and_eq_true] at h0;have hsc:=h0.2;simp only [jRd,Bool.and_eq_true] at hsc;obtain ⟨s1,s2,s3,s4,s5,s6,s7⟩:=hsc;have hi:Inv G ρ ⟨ct.np,jCe ct.args 0,ct.H,ct.F,ct.N,ct.B⟩:=⟨jTo s2,s3,iO.1 s4,iO.1 s5,jBu.1 s6,c4.F,c4.N,c4.B⟩;obtain ⟨hdep,h1,h2⟩:0≤(ct.dep.addc (-1)).ev ρ∧ok (xK P ct.dep L ct.np an hs kd g.body true 0 ⟨ct.np,jCe ct.args 0,ct.H,ct.F,ct.N,ct.B⟩ (jQm P f (jP ct.H) ct.np ct.posts g.res))∧okW P ct.dep L ct.np an hs kd ⟨ct.np,jCe ct.args 0,ct.H,ct.F,ct.N,ct.B⟩ g.body 0 (jQm P f (jP ct.H) ct.np ct.posts g.res):=by
  rcases h with h | ⟨h,h'⟩
  ·unfold xF at h;obtain ⟨k1,k2⟩:=jD (jA h).2 hi;exact ⟨k1,(zJ k2).1,.inl (zJ k2).2⟩
  ·unfold xF1 at h;obtain ⟨k1,k2⟩:=jD (jA h).2 hi;exact ⟨k1,(zJ k2).1,.inr ⟨(zJ k2).2,h'⟩⟩
 rw [jF] at hdep;obtain ⟨d,rfl⟩:∃ d',d=d'+1:=⟨d - 1,by omega⟩
 refine ⟨d,rfl,?_⟩;unfold wF;have hl:Nat.ble (jP (jR ρ ct.args)) g.nt=true:=by
  rw [xV,jDw]; exact h0.1
 rw [hl];show wK (P.C G) Γ L d g.body (jJl (jR ρ ct.args) 0) (denH ρ ct.H) (qDt (P.C G) f (jP (denH ρ ct.H)) g.res Q);rw [←jMf,wT];exact jAv hG hP hΓ hL (npf:=ct.np) s7 (by have:=c1; omega) hi rfl g.body (top:=true) (id:=0) (np:=ct.np) (ρn:=ρ) (Nat.le_refl _) (fun _ _=>rfl) (fun _=>⟨rfl,h2⟩) h1 hi ⟨Nat.le_refl _,fun _ _=>rfl⟩
  (fun e st' ρ' hb' hi' h=>qJv e hb' hi' h c5)
def jPe (a:An) (l:List Nat):Bool:=match a ⟨none,l⟩ with
 | .ok _=>true
 | .bad _ _ _=>false
theorem jFe {a:An} {l:List Nat} (h:jPe a l=true):ok a:=by
 unfold jPe at h;split at h
 ·rename_i s e; exact ⟨_,_,e⟩
 ·cases h
end
end
noncomputable section
set_option linter.all false
open Go Ev
inductive TBX where
 | l (n:Nat)
 | b (x y:TBX)
def TBX.get:TBX→Nat→Nat
 | .l n,i=>Nat.mod (Nat.shiftRight n (Nat.mul 28 i)) 268435456
 | .b x y,i=>qH (Nat.div i 2) fun j=>bif Nat.beq (Nat.mod i 2) 0 then x.get j else y.get j
def dig:Nat→Nat→Nat→List Nat→List Nat
 | 0,_,v,r=>v::r
 | k+1,m,v,r=>match r with
  | []=>[v]
  | x::r=>qH (Nat.add v (Nat.mul x m)) fun v=>qH (Nat.mul m 1024) fun m=>dig k m v r
def exS (t:TBX):Nat→Nat→List Nat→List Nat
 | 0,_,r=>r
 | f+1,s,r=>qH (t.get s) fun e=>qH (Nat.mod e 16384) fun a=>qH (Nat.div e 16384) fun b=>
  bif Nat.blt a 16382 then exS t f a (exS t f b r) else bif Nat.beq a 16383 then b::r else dig b 1 0 r
def rdS {α:Type} (n:Nat) (k:Nat→Nat→α):α:=
 qH (Nat.mod n 16) fun a=>qH (Nat.div n 16) fun n=>
 bif Nat.blt a 6 then qH (Nat.add (Nat.mul a 16) (Nat.mod n 16)) fun s=>qH (Nat.div n 16) fun n=>k s n
 else bif Nat.blt a 14 then qH (Nat.add (Nat.add 96 (Nat.mul (Nat.sub a 6) 256)) (Nat.mod n 256)) fun s=>qH (Nat.div n 256) fun n=>k s n
 else qH (Nat.add (Nat.add 2144 (Nat.mul (Nat.sub a 14) 4096)) (Nat.mod n 4096)) fun s=>qH (Nat.div n 4096) fun n=>k s n
def ex1 (t:TBX):Nat→Nat→List Nat→List Nat
 | 0,_,r=>r
 | k+1,n,r=>rdS n fun s n=>exS t 64 s (ex1 t k n r)
def exN (t:TBX):List (Nat×Nat)→List Nat
 | []=>[]
 | p::r=>ex1 t p.1 p.2 (exN t r)
section
variable {γ α β:Type}
def rN (l:List Nat) (k:Nat→List Nat→γ):γ:=match l with
 | []=>k 0 []
 | x::r=>qH x fun x=>k x r
def rI (l:List Nat) (k:Int→List Nat→γ):γ:=rN l fun n l=>bif Nat.beq (Nat.mod n 2) 0 then qH (Nat.div n 2) fun m=>k (.ofNat m) l else qH (Nat.div n 2) fun m=>k (.negSucc m) l
def rLs (f:List Nat→(α→List Nat→γ)→γ):Nat→List Nat→(List α→List Nat→γ)→γ
 | 0,l,k=>k [] l
 | n+1,l,k=>f l fun x l=>rLs f n l fun xs l=>k (x::xs) l
def rL (f:List Nat→(α→List Nat→γ)→γ) (l:List Nat) (k:List α→List Nat→γ):γ:=rN l fun n l=>rLs f n l k
def rP (f:List Nat→(α→List Nat→γ)→γ) (g:List Nat→(β→List Nat→γ)→γ) (l:List Nat) (k:α×β→List Nat→γ):γ:=f l fun x l=>g l fun y l=>k (x,y) l
def rO (f:List Nat→(α→List Nat→γ)→γ) (l:List Nat) (k:Option α→List Nat→γ):γ:=rN l fun n l=>bif Nat.beq n 0 then k none l else f l fun x l=>k (some x) l
def rB (l:List Nat) (k:Bool→List Nat→γ):γ:=rN l fun n l=>bif Nat.beq n 0 then k false l else k true l
def rT (l:List Nat) (k:LT→List Nat→γ):γ:=rI l fun c l=>rL (rP rN rI) l fun m l=>k ⟨c,m⟩ l
def rK (l:List Nat) (k:IntKind→List Nat→γ):γ:=rN l fun n l=>match n with
 | 0=>k .i64 l
 | 1=>k .u8 l
 | _=>k .i32 l
def rG (l:List Nat) (k:Gn→List Nat→γ):γ:=rN l fun v l=>rN l fun o l=>k ⟨v,o⟩ l
def rX:Nat→List Nat→(SX→List Nat→γ)→γ
 | 0,l,k=>k .p0 l
 | f+1,l,k=>rN l fun t l=>match t with
  | 0=>rB l fun x l=>k (.b x) l
  | 1=>rT l fun x l=>k (.bv x) l
  | 2=>rK l fun i l=>rT l fun x l=>k (.i i x) l
  | 3=>rT l fun x l=>rT l fun y l=>k (.s x y) l
  | 4=>k .p0 l
  | 5=>k .sl0 l
  | 6=>rN l fun i l=>rG l fun g l=>rN l fun o l=>k (.tp i g o) l
  | 7=>rN l fun i l=>rG l fun g l=>rT l fun x l=>rN l fun o l=>k (.te i g x o) l
  | 8=>rN l fun i l=>rG l fun g l=>rT l fun x l=>rN l fun o l=>k (.ts i g x o) l
  | 9=>rN l fun i l=>rT l fun x l=>rT l fun y l=>k (.q i x y) l
  | 10=>rN l fun i l=>rT l fun x l=>rN l fun o l=>k (.qp i x o) l
  | 11=>rN l fun i l=>k (.qs i) l
  | 12=>rT l fun x l=>rT l fun y l=>k (.xs x y) l
  | 13=>rN l fun i l=>rL (rX f) l fun x l=>rL (rX f) l fun y l=>k (.f i x y) l
  | 14=>rL (rX f) l fun x l=>k (.agg x) l
  | 15=>rL (rX f) l fun x l=>k (.tup x) l
  | 16=>rT l fun x l=>k (.fis x) l
  | _=>k .fqs l
def rC (l:List Nat) (k:HCX→List Nat→γ):γ:=rN l fun t l=>match t with
 | 0=>rL (rX 9) l fun x l=>k (.l x) l
 | 1=>rN l fun i l=>rT l fun x l=>rT l fun y l=>k (.r i x y) l
 | 2=>rN l fun i l=>k (.xs i) l
 | 3=>rN l fun i l=>rT l fun x l=>rT l fun y l=>rL (rX 9) l fun m l=>k (.rl i x y m) l
 | _=>k .dead l
def rH (l:List Nat) (k:HX→List Nat→γ):γ:=rN l fun e l=>rG l fun g l=>rC l fun c l=>k ⟨e,g,c⟩ l
def rE (l:List Nat) (k:TE→List Nat→γ):γ:=rN l fun t l=>match t with
 | 0=>rT l fun x l=>rT l fun y l=>rT l fun z l=>k (.by_ x y z) l
 | 1=>rN l fun i l=>rT l fun x l=>rT l fun y l=>rT l fun z l=>k (.el i x y z) l
 | 2=>rN l fun i l=>rT l fun x l=>rT l fun y l=>k (.ln i x y) l
 | 3=>rN l fun i l=>rL (rX 9) l fun x l=>rX 9 l fun y l=>k (.ca i x y) l
 | 4=>rT l fun x l=>rI l fun y l=>rT l fun z l=>k (.dv x y z) l
 | _=>rT l fun x l=>rT l fun y l=>rT l fun z l=>rT l fun w l=>k (.ng x y z w) l
def rPo (l:List Nat) (k:dZ→List Nat→γ):γ:=rN l fun n l=>rL rT l fun F l=>rL rT l fun N l=>rL rE l fun B l=>rX 9 l fun r l=>rL rH l fun H l=>k ⟨n,F,N,B,r,H⟩ l
def rCt (l:List Nat) (k:CtX→List Nat→γ):γ:=rN l fun n l=>rT l fun d l=>rL (rX 9) l fun a l=>rL rH l fun H l=>rL rT l fun F l=>rL rT l fun N l=>rL rE l fun B l=>rL rPo l fun p l=>k ⟨n,d,a,H,F,N,B,p⟩ l
def rAl (l:List Nat) (k:Alt→List Nat→γ):γ:=rN l fun n l=>rL (rP rN (rX 9)) l fun E l=>rO (rL (rO rH)) l fun H l=>rL rT l fun F l=>rL rT l fun N l=>rL rE l fun B l=>rT l fun m l=>k ⟨n,E,H,F,N,B,m⟩ l
def rCv (l:List Nat) (k:CvX→List Nat→γ):γ:=rN l fun t l=>match t with
 | 0=>rN l fun x l=>rN l fun y l=>k (.lit x y) l
 | 1=>rN l fun x l=>k (.frz x) l
 | 2=>rN l fun x l=>rN l fun y l=>rC l fun c l=>k (.slot x y c) l
 | _=>rN l fun x l=>rN l fun y l=>rN l fun z l=>rC l fun c l=>k (.cell x y z c) l
def rAn (l:List Nat) (k:Ann→List Nat→γ):γ:=rB l fun o l=>rL rN l fun ks l=>rL rT l fun sp l=>rL rT l fun se l=>rL (rP rCv rN) l fun cv l=>rL rAl l fun as_ l=>k ⟨o,ks,sp,se,cv,as_⟩ l
end
def fQ {α:Type}:List (Nat×α)→Nat→List α
 | [],_=>[]
 | p::r,f=>bif Nat.beq p.1 f then p.2::fQ r f else fQ r f
def jOb {α:Type}:List (Nat×α)→Nat→Option α
 | [],_=>none
 | p::r,f=>bif Nat.beq p.1 f then some p.2 else jOb r f
def dC (t:TBX) (l:List (Nat×Nat)):CtX:=rCt (exN t l) fun c _=>c
def dA (t:TBX) (l:List (Nat×Nat)):Nat→Option Ann:=jOb (rL (rP rN rAn) (exN t l) fun c _=>c)
def dH (t:TBX) (l:List (Nat×Nat)):Nat→Option (List LT):=jOb (rL (rP rN (rL rT)) (exN t l) fun c _=>c)
def dK (t:TBX) (l:List (Nat×Nat)) (n:Nat):Nat:=match jOb (rL (rP rN rN) (exN t l) fun c _=>c) n with
 | some x=>x
 | none=>0
end
end Go.Proofs.YtdlhiljbhepliaaGreatDoor.Ev.Rf
