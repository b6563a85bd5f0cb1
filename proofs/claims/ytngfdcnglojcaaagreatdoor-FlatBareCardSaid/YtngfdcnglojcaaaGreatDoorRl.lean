/-
A checker of the conditions of runs: regions, code, loops. What they promise is so. No program is named here.
-/
import Derived.Test.YtngfdcnglojcaaaGreatDoorRi
section
set_option linter.all false
namespace Go.Proofs.YtngfdcnglojcaaaGreatDoor.Ev.Rf
noncomputable section
open Go
section
variable {P:PX} {G:Nat→List SV→SV→Prop} {ρ ρ' ρ2 ρ0:Rho} {st st' st2:Sx} {np:Nat}
structure Bs (np:Nat) (ρ0:Rho) (ρ:Rho) (st:Sx):Prop where
 n:np≤st.n
 ag:∀ j,j<np→ρ j=ρ0 j
theorem Bs.ny (b:Bs np ρ0 ρ st) (h:Ny G ρ st ρ' st'):Bs np ρ0 ρ' st':=⟨Nat.le_trans b.n h.n,fun j hj=>(h.ag j (Nat.lt_of_lt_of_le hj b.n)).trans (b.ag j hj)⟩
theorem Bs.nx (b:Bs np ρ0 ρ st) (h:Nx G ρ st ρ' st'):Bs np ρ0 ρ' st':=b.ny h.ny
theorem Bs.lt (b:Bs np ρ0 ρ st) {t:LT} (h:t.sc np=true):t.ev ρ=t.ev ρ0:=jK b.ag h
theorem gU:∀ {l:List LT} {st:Sx} {k:Sx→An},ok (iO l st k)→Inv G ρ st→∃ st',Nx G ρ st ρ st'∧ok (k st')
 | [],st,k,h,hi=>⟨st,Nx.refl hi,h⟩
 | t::r,st,k,h,hi=>by
  obtain ⟨s1,n1,h⟩:=iU (k:=fun _ st=>iO r st k) h hi
  obtain ⟨s2,n2,h⟩:=gU h n1.inv
  exact ⟨s2,n1.trans n2,h⟩
theorem jVo {k:Sx→An}:∀ {n:Nat},ok (jOo st k n)→Inv G ρ st→∃ st',Nx G ρ st ρ st'∧ok (k st')
 | 0,h,hi=>⟨st,Nx.refl hi,h⟩
 | n+1,h,hi=>by
  simp only [jOo] at h
  obtain ⟨c,h⟩:=dD h
  split at h
  ·exact ⟨st,Nx.refl hi,h⟩
  ·rw [jX,jX] at h
   split at h
   ·rename_i a b a' i b' c' i' d' e1 e2
    obtain ⟨h1,h⟩:=jB h
    obtain ⟨h2,h⟩:=qJ h hi
    have k1:=hi.B _ (List.mem_of_getElem? e1)
    have k2:=hi.B _ (List.mem_of_getElem? e2)
    simp only [TE.holds] at k1 k2
    rw [LT.beq_ok h1,h2,k2] at k1
    obtain ⟨s1,n1,h⟩:=qD h hi (by rw [jR]; omega)
    obtain ⟨s2,n2,h⟩:=qD h n1.inv (by rw [jR]; omega)
    exact ⟨s2,n1.trans n2,h⟩
   ·exact (jC h).elim
theorem jXo {k:Sx→An} (h:ok (jXn st k)) (hi:Inv G ρ st):ok (k st):=by
 unfold jXn at h
 obtain ⟨c,h⟩:=dD h
 split at h
 ·exact h
 ·rw [jX] at h
  split at h
  ·rename_i d e
   obtain ⟨h1,h⟩:=jE h hi
   obtain ⟨h2,h⟩:=jE h hi
   rw [qN] at h2
   exact absurd (by omega) (hi.N d (List.mem_of_getElem? e))
  ·exact (jC h).elim
theorem jYo {hs:Nat→Option (List LT)} {d:Option Nat} {k:Sx→An} (h:ok (jYn hs d st k)) (hi:Inv G ρ st):∃ st',Nx G ρ st ρ st'∧ok (k st'):=by
 unfold jYn at h
 split at h
 ·unfold qLg at h
  split at h
  ·exact ⟨st,Nx.refl hi,h⟩
  ·obtain ⟨s1,n1,h⟩:=gU h hi
   obtain ⟨s2,n2,h⟩:=jVo h n1.inv
   exact ⟨s2,n1.trans n2,jXo h n2.inv⟩
 ·exact ⟨st,Nx.refl hi,h⟩
theorem nW {d:Option Nat} {v:SX} {k:Sx→An} (h:ok (jMb st d v k)) (hi:Inv G ρ st):∃ st',Inv G ρ st'∧denE ρ st'.E=pJ (denE ρ st.E) d (v.den ρ)∧st'.H=st.H∧st'.n=st.n∧ok (k st'):=by
 unfold jMb at h
 split at h
 ·rename_i d
  obtain ⟨h1,h⟩:=jB h
  exact ⟨st.setE ((d,v)::st.E),hi.setE (by simp only [scE,Bool.and_eq_true]; exact ⟨h1,hi.e⟩),rfl,rfl,rfl,h⟩
 ·exact ⟨st,hi,rfl,rfl,rfl,h⟩
theorem qGd {g:Option (Nat×Bool)} {p q:Sx→An} {PP QQ:Prop} (h:ok (xG st g p q)) (hi:Inv G ρ st) (hp:∀ st',Nx G ρ st ρ st'→ok (p st')→PP) (hq:∀ st',Nx G ρ st ρ st'→ok (q st')→QQ):wG (denE ρ st.E) g PP QQ:=by
 unfold xG at h
 unfold wG
 split at h
 ·exact hp _ (Nx.refl hi) h
 ·rename_i t w
  simp only [kC,xP]
  split at h
  ·rename_i v e
   rw [e]
   simp only [Option.map]
   split at h
   ·rename_i x
    simp only [SX.den]
    rcases qT h with ⟨e1,h⟩ | ⟨e1,h⟩
    ·have:=hp _ (Nx.refl hi) h
     cases x<;>cases w<;>simp at e1<;>exact this
    ·have:=hq _ (Nx.refl hi) h
     cases x<;>cases w<;>simp at e1<;>exact this
   ·rename_i t'
    simp only [SX.den]
    obtain ⟨s1,n1,h⟩:=iU h hi
    have eb:decide (0≤(t'.addc (-1)).ev ρ)=decide (0<t'.ev ρ):=jAl (by rw [jG]; omega)
    rw [eb] at h
    generalize decide (0<t'.ev ρ)=x at h ⊢
    rcases qT h with ⟨e1,h⟩ | ⟨e1,h⟩
    ·have:=hp _ n1 h
     cases x<;>cases w<;>simp at e1<;>exact this
    ·have:=hq _ n1 h
     cases x<;>cases w<;>simp at e1<;>exact this
   ·exact hq _ (Nx.refl hi) h
   ·exact (jC h).elim
  ·exact (jC h).elim
theorem jEq {α:Type} {x:α}:∀ {n:Nat} {l:List α},x∈jXs n l→x∈l
 | 0,l,h=>h
 | n+1,[],h=>by cases h
 | n+1,a::l,h=>List.mem_cons_of_mem _ (jEq h)
theorem jQv {k f:Nat} {ct:CtX} (h:ct∈(P.drop k).cs f):ct∈P.cs f:=by
 unfold PX.drop at h
 split at h
 ·exact h
 ·exact jEq h
theorem qGo (k:Nat):(P.drop k).C G=P.C G:=by unfold PX.drop; split<;>rfl
theorem iS:iR.den ρ=wA:=rfl
theorem jTt (hG:bB G) (hP:PSc P) {Γ:qE} (hΓ:∀ d f l H Q,Gam P G d f l H Q→Γ d f l H Q) {cur:LT} {c:Ev.C} {k:Nat} {Q':KO} {Q:QO} {d:Nat} (hc:cur.sc st.n=true) (hd:cur.ev ρ≤d+1) (h:ok (xO (P.drop k) cur c st Q')) (hi:Inv G ρ st) (hk:HO G ρ st Q' Q):wO (P.C G) Γ d c (denE ρ st.E) (denH ρ st.H) Q:=by
 have:=qMp (P:=P.drop k) hG (fun f ct h=>hP f ct (jQv h)) (Γ:=Γ) (fun d f l H Q ⟨ct,h1,h2⟩=>hΓ _ _ _ _ _ ⟨ct,jQv h1,h2⟩) hc hd h hi hk
 rwa [qGo] at this
theorem qBn (hG:bB G) (hP:PSc P) {Γ:qE} (hΓ:∀ d f l H Q,Gam P G d f l H Q→Γ d f l H Q) {cur:LT} {hs:Nat→Option (List LT)} {kd:Nat→Nat} {d:Nat} (hc:cur.sc np=true) (hd:cur.ev ρ0≤d+1):∀ {l:List O} {st:Sx} {ρ:Rho} {Q':Sx→An} {Q:QE},ok (xR P cur hs kd l st Q')→Inv G ρ st→Bs np ρ0 ρ st →
  (∀ st' ρ',Bs np ρ0 ρ' st'→Inv G ρ' st'→ok (Q' st')→Q (denE ρ' st'.E) (denH ρ' st'.H))→wR (P.C G) Γ d l (denE ρ st.E) (denH ρ st.H) Q
 | [],st,ρ,Q',Q,h,hi,hb,hk=>hk st ρ hb hi h
 | o::r,st,ρ,Q',Q,h,hi,hb,hk=>by
  simp only [xR] at h
  show wG (denE ρ st.E) o.g (wO (P.C G) Γ d o.c (denE ρ st.E) (denH ρ st.H) fun v H _=>wR (P.C G) Γ d r (pJ (denE ρ st.E) o.d v) H Q) (wR (P.C G) Γ d r (pJ (denE ρ st.E) o.d wA) (denH ρ st.H) Q)
  refine qGd h hi (fun s1 n1 h=>?_) (fun s1 n1 h=>?_)
  ·have b1:=hb.nx n1
   rw [←n1.denE hi,←n1.denH hi]
   refine jTt hG hP hΓ (jF b1.n hc) (by rw [b1.lt hc]; exact hd) h n1.inv fun v s2 t ρ2 n2 h=>?_
   obtain ⟨s3,i3,e3,f3,g3,h⟩:=nW h n2.inv
   obtain ⟨s4,n4,h⟩:=jYo h i3
   have b3:Bs np ρ0 ρ2 s3:=⟨by rw [g3]; exact (b1.ny n2).n,(b1.ny n2).ag⟩
   have:=qBn hG hP hΓ hc hd h n4.inv (b3.nx n4) hk
   rw [n4.denE i3,n4.denH i3,e3,f3,n2.E,yH n2.ag n1.inv.e] at this
   exact this
  ·obtain ⟨s3,i3,e3,f3,g3,h⟩:=nW h n1.inv
   have b3:Bs np ρ0 ρ s3:=⟨by rw [g3]; exact (hb.nx n1).n,hb.ag⟩
   have:=qBn hG hP hΓ hc hd h i3 b3 hk
   rw [e3,f3,iS,n1.denE hi,n1.denH hi] at this
   exact this
theorem qCa {H:List HX} {s:SX} {κ:Key} {Q:Key→Prop} (h:qBz H s=some κ) (hq:Q κ):jVi (denH ρ H) (s.den ρ) Q:=by
 unfold qBz at h
 split at h
 ·simp only [SX.den,jVi]
  split at h
  ·rename_i hb e
   refine yJ e ?_
   split at h
   ·rename_i hc
    simp only [HX.den,hc,HCX.den]
    cases h; exact hq
   ·cases h
  ·cases h
 ·simp only [SX.den,jVi]
  split at h
  ·rename_i hb e
   refine yJ e ?_
   split at h
   ·rename_i hc
    simp only [HX.den,hc,HCX.den]
    cases h; exact hq
   ·cases h
  ·cases h
 ·cases h; exact hq
 ·cases h; exact hq
 ·cases h; exact hq
 ·cases h
theorem qBq {H:List HX} {o:O} {ws:List Tch} {k:Nat} {rs:List Wr} {Q':List Wr→An} {Q:List Wr→Prop} (h:ok (qBp st H o ws k rs Q')) (hi:Inv G ρ st) (hk:∀ rs,ok (Q' rs)→Q rs):jUg (denE ρ st.E) (denH ρ H) o ws k rs Q:=by
 unfold qBp at h
 unfold jUg
 split at h
 ·rename_i e; rw [e]; exact hk _ h
 ·rename_i lo hi' e
  rw [e]
  simp only
  split at h
  ·rename_i n a e2
   rw [e2]
   refine qY h hi fun a ha h=>?_
   split at h
   ·rename_i κ e3
    obtain ⟨h1,h⟩:=jB h
    refine qCa e3 ?_
    rw [h1]
    exact hk _ h
   ·exact (jC h).elim
  ·exact (jC h).elim
theorem oW {b:Bool} {p q:Prop} (e:b=true) (h:p):brn b p q:=by subst e; exact h
theorem aQ {b:Bool} {p q:Prop} (e:b=false) (h:q):brn b p q:=by subst e; exact h
theorem jNl (hG:bB G) (hP:PSc P) {Γ:qE} (hΓ:∀ d f l H Q,Gam P G d f l H Q→Γ d f l H Q) {cur:LT} {kd:Nat→Nat} {d:Nat} (hc:cur.sc np=true) (hd:cur.ev ρ0≤d+1):∀ {l:List O} {st:Sx} {ρ:Rho} {ws:List Tch} {k:Nat} {rs:List Wr} {Q':Sx→An} {Q:QE},ok (xD P cur kd l st ws k rs Q')→Inv G ρ st→Bs np ρ0 ρ st →
  (∀ st' ρ',Bs np ρ0 ρ' st'→Inv G ρ' st'→ok (Q' st')→Q (denE ρ' st'.E) (denH ρ' st'.H))→wD (P.C G) Γ d l (denE ρ st.E) (denH ρ st.H) ws k rs Q
 | [],st,ρ,ws,k,rs,Q',Q,h,hi,hb,hk=>hk st ρ hb hi h
 | o::r,st,ρ,ws,k,rs,Q',Q,h,hi,hb,hk=>by
  simp only [xD] at h
  show wG (denE ρ st.E) o.g
   (brn o.c.acts
    (wO (P.C G) Γ d o.c (denE ρ st.E) (denH ρ st.H) fun v H t=>req (tK t k rs) (wD (P.C G) Γ d r (pJ (denE ρ st.E) o.d v) H (t::ws) (Nat.succ k) rs Q))
    (wO (P.C G) Γ d o.c (denE ρ st.E) (denH ρ st.H) fun v H' t=>req (noT t) (jUg (denE ρ st.E) (denH ρ st.H) o ws k rs fun rs=>wD (P.C G) Γ d r (pJ (denE ρ st.E) o.d v) H' ws k rs Q)))
   (brn o.c.acts
    (wD (P.C G) Γ d r (pJ (denE ρ st.E) o.d wA) (denH ρ st.H) (t0::ws) (Nat.succ k) rs Q)
    (wD (P.C G) Γ d r (pJ (denE ρ st.E) o.d wA) (denH ρ st.H) ws k rs Q))
  have hO:∀ {c:Ev.C} {kk:Nat} {Q':KO} {Q:QO} {s1:Sx},Nx G ρ st ρ s1→ok (xO (P.drop kk) cur c s1 Q')→HO G ρ s1 Q' Q→wO (P.C G) Γ d c (denE ρ s1.E) (denH ρ s1.H) Q:=fun n1 h hk=>
   jTt hG hP hΓ (jF (hb.nx n1).n hc) (by rw [(hb.nx n1).lt hc]; exact hd) h n1.inv hk
  refine qGd h hi (fun s1 n1 h=>?_) (fun s1 n1 h=>?_)
  ·have b1:=hb.nx n1
   rw [←n1.denE hi,←n1.denH hi]
   rcases qT h with ⟨ea,h⟩ | ⟨ea,h⟩
   ·refine oW ea (hO n1 h fun v s2 t ρ2 n2 h=>?_)
    obtain ⟨h1,h⟩:=jB h
    rw [h1]
    obtain ⟨s3,i3,e3,f3,g3,h⟩:=nW h n2.inv
    have b3:Bs np ρ0 ρ2 s3:=⟨by rw [g3]; exact (b1.ny n2).n,(b1.ny n2).ag⟩
    have:=jNl hG hP hΓ hc hd h i3 b3 hk
    rw [e3,f3,n2.E,yH n2.ag n1.inv.e] at this
    exact this
   ·refine aQ ea (hO n1 h fun v s2 t ρ2 n2 h=>?_)
    obtain ⟨h1,h⟩:=jB h
    rw [h1]
    have eE:denE ρ2 s2.E=denE ρ s1.E:=by rw [n2.E]; exact yH n2.ag n1.inv.e
    have eH:denH ρ2 s1.H=denH ρ s1.H:=zM n2.ag n1.inv.h
    have:=qBq (Q:=fun rs=>wD (P.C G) Γ d r (pJ (denE ρ s1.E) o.d (v.den ρ2)) (denH ρ2 s2.H) ws k rs Q) h n2.inv fun rs h=>by
     obtain ⟨s3,i3,e3,f3,g3,h⟩:=nW h n2.inv
     have b3:Bs np ρ0 ρ2 s3:=⟨by rw [g3]; exact (b1.ny n2).n,(b1.ny n2).ag⟩
     have:=jNl hG hP hΓ hc hd h i3 b3 hk
     rw [e3,f3,eE] at this
     exact this
    rw [eE,eH] at this
    exact this
  ·have b1:=hb.nx n1
   rw [←n1.denE hi,←n1.denH hi]
   rcases qT h with ⟨ea,h⟩ | ⟨ea,h⟩
   ·refine oW ea ?_
    obtain ⟨s3,i3,e3,f3,g3,h⟩:=nW h n1.inv
    have b3:Bs np ρ0 ρ s3:=⟨by rw [g3]; exact b1.n,b1.ag⟩
    have:=jNl hG hP hΓ hc hd h i3 b3 hk
    rw [e3,f3,iS] at this
    exact this
   ·refine aQ ea ?_
    obtain ⟨s3,i3,e3,f3,g3,h⟩:=nW h n1.inv
    have b3:Bs np ρ0 ρ s3:=⟨by rw [g3]; exact b1.n,b1.ag⟩
    have:=jNl hG hP hΓ hc hd h i3 b3 hk
    rw [e3,f3,iS] at this
    exact this
end
end
end Go.Proofs.YtngfdcnglojcaaaGreatDoor.Ev.Rf
end
section
set_option linter.all false
namespace Go.Proofs.YtngfdcnglojcaaaGreatDoor.Ev.Rf
noncomputable section
open Go
section
variable {P:PX} {G:Nat→List SV→SV→Prop} {ρ ρ' ρ2 ρ0 ρb ρc:Rho} {st st' st2:Sx} {np n0:Nat}
theorem jAm:∀ (A B:EX),denE ρ (A++B)=denE ρ A++denE ρ B
 | [],B=>rfl
 | p::A,B=>by simp only [List.cons_append,denE,jAm A B]
theorem jGs:∀ {A B E:Env},Sub A E→Sub B E→Sub (A++B) E
 | [],B,E,h,k=>k
 | p::A,B,E,h,k=>⟨h.1,jGs h.2 k⟩
theorem jHn (hi:Inv G ρ st):∀ {F E:EX} {k:An},ok (jXx st F E k)→Sub (denE ρ F) (denE ρ E)∧ok k
 | [],E,k,h=>⟨trivial,h⟩
 | p::r,E,k,h=>by
  simp only [jXx] at h
  split at h
  ·rename_i v e
   obtain ⟨h1,h⟩:=jHr hi h
   obtain ⟨h2,h⟩:=jHn hi h
   exact ⟨⟨⟨v.den ρ,by rw [xP,e]; rfl,h1.symm⟩,h2⟩,h⟩
  ·exact (jC h).elim
theorem iF (E:EX):∀ ks,denE ρ (jCf E ks)=wV (denE ρ E) ks
 | []=>rfl
 | n::r=>by
  simp only [jCf,wV,xP]
  cases e:yK E n with
  | none=>simp only [Option.map]; exact iF E r
  | some v=>simp only [Option.map,denE,iF E r]
theorem jLa (hi:Inv G ρ st):∀ {A B:List HX} {k:An},ok (jYp st A B k)→jVf (denH ρ A) (denH ρ B)∧ok k
 | [],B,k,h=>⟨trivial,h⟩
 | _::_,[],k,h=>(jC h).elim
 | x::l,y::m,k,h=>by
  obtain ⟨h0,h⟩:=jB h
  rw [Bool.and_eq_true] at h0
  obtain ⟨h1,h⟩:=jXw hi h
  obtain ⟨h2,h⟩:=jLa hi h
  refine ⟨⟨?_,h2⟩,h⟩
  simp only [HX.den,h1,Nat.eq_of_beq_eq_true h0.1,Gn.beq_ok h0.2]
theorem nJ:∀ E:EX,bS (denE ρ E)=jKg E
 | []=>rfl
 | p::r=>by simp only [denE,bS,jKg,eZ,nJ r]
theorem jLl (s:Sb) (H:List HX):bZ (kU s H)=yT (denH (subst s ρ) H):=by rw [←gM (ρ:=ρ),yM]
theorem jOn (s:Sb) (H:List HX):jP (kU s H)=jP H:=by
 have:=congrArg jP (yM (ρ:=fun _=>⟨0,[],0⟩) s H)
 rw [uZ,uZ] at this; exact this
theorem qHh (hi:Inv G ρ st) {j:Nat} (h:st.lnZ (.xs j)=true):(ρ j).l=[]:=by
 simp only [Sx.lnZ] at h
 split at h
 ·rename_i n m e
  split at h
  ·rename_i e2
   rw [vC,decide_eq_true_eq] at h
   have:=(tW hi e).1
   simp only [LT.ev,e2,evL,h] at this
   exact List.eq_nil_of_length_eq_zero (by omega)
  ·cases h
 ·cases h
theorem jEr (hi:Inv G ρ st) {sz:Nat} {c:HCX} (h:jHm P sz c=true) (hz:st.lnZ c=true):emp (P.C G) sz (c.den ρ)=true:=by
 unfold jHm at h
 split at h
 ·rename_i T R n
  rw [Bool.and_eq_true] at h
  have en:(n.ev ρ).toNat=0:=by
   have h1:=h.1
   split at h1
   ·rename_i e2
    rw [vC,decide_eq_true_eq] at h1
    simp only [LT.ev,e2,evL,h1]; rfl
   ·cases h1
  simp only [HCX.den,en,emp]
  rw [eQ]; exact h.2
 ·rename_i j
  simp only [HCX.den,qHh hi hz,emp]
  exact h
 ·cases h
theorem qAh {l:List SX} {off:Nat} {v:SX}:jH (jQ ρ l) off (v.den ρ)=jQ ρ (jH l off v):=by rw [zR,zR,jCw]
theorem jSz {n:Nat} {v:SX} (hv:v.sc n=true):∀ {l:List SX} {i:Nat},scs n l=true→scs n (jH l i v)=true
 | [],i,h=>h
 | a::l,0,h=>by simp only [scs,jH,Bool.and_eq_true] at h ⊢; exact ⟨hv,h.2⟩
 | a::l,i+1,h=>by simp only [scs,jH,Bool.and_eq_true] at h ⊢; exact ⟨h.1,jSz hv h.2⟩
theorem jUa {s:Sb} {c:HCX} {Q':HCX→Sx→An} (h:ok (qFk s c st Q')) (hi:Inv G ρ st):∃ c' st' ρ',Nx G ρ st ρ' st'∧ok (Q' c' st'):=by
 unfold qFk at h
 split at h
 ·rename_i m
  obtain ⟨n1,e,h⟩:=zB h hi ⟨0,[],0⟩
  obtain ⟨h1,h⟩:=jB h
  have hb:∀ p:Nat×Nat,p∈([]:List (Nat×Nat))→(p.1:Int)≤(s.t m).ev (ρ.set st.n ⟨0,[],0⟩):=fun p hp=>by cases hp
  have n2:=n1.inv.addB (t:=.ln st.n (.con 0) (s.t m)) (by
   simp only [TE.sc,Bool.and_eq_true]
   exact ⟨Nat.ble_eq_true_of_le (Nat.le_refl _),zQ _,h1⟩) (by
   simp only [TE.holds,e,qH]
   exact ⟨rfl,hb⟩)
  exact ⟨_,_,_,n1.trans n2,h⟩
 ·exact ⟨_,_,_,Nx.refl hi,h⟩
theorem jMx {m:LT}:∀ {l:List SX} {k:An},ok (mR st m l k)→Inv G ρ st→∃ L:List (Nat×Nat),(∀ Q:List (Nat×Nat)→Prop,Q L→yX (jQ ρ l) Q)∧L.length=l.length∧(∀ p,p∈L→(p.1:Int)≤m.ev ρ)∧ok k
 | [],k,h,hi=>⟨[],fun Q q=>q,rfl,fun p hp=>(by cases hp),h⟩
 | x::r,k,h,hi=>by
  cases x<;>try exact (jC h).elim
  rename_i n c
  simp only [mR] at h
  obtain ⟨h0,h⟩:=jE h hi
  obtain ⟨h1,h⟩:=jE h hi
  rw [jR] at h1
  obtain ⟨L,k1,k2,k3,h⟩:=jMx h hi
  refine ⟨((n.ev ρ).toNat,(c.ev ρ).toNat)::L,fun Q q=>?_,by simp [k2],fun p hp=>?_,h⟩
  ·simp only [jQ,SX.den,yX]
   exact k1 _ q
  ·rcases List.mem_cons.1 hp with rfl | hp
   ·show (((n.ev ρ).toNat:Nat):Int)≤m.ev ρ
    omega
   ·exact k3 p hp
theorem jFe {v:SX} (h:jIb v=true):jLe (v.den ρ)=true:=by
 cases v<;>simp only [jIb,Bool.false_eq_true] at h
 rfl
structure Nz (G:Nat→List SV→SV→Prop) (ρ:Rho) (st:Sx) (ρ':Rho) (st':Sx):Prop where
 n:st.n≤st'.n
 ag:∀ k,k<st.n→ρ' k=ρ k
 inv:Inv G ρ' st'
theorem Nz.trans (h:Nz G ρ st ρ' st') (k:Nz G ρ' st' ρ2 st2):Nz G ρ st ρ2 st2:=⟨Nat.le_trans h.n k.n,fun j hj=>(k.ag j (Nat.lt_of_lt_of_le hj h.n)).trans (h.ag j hj),k.inv⟩
theorem Nx.nz (h:Nx G ρ st ρ' st'):Nz G ρ st ρ' st':=⟨h.n,h.ag,h.inv⟩
theorem pI {s:Sb} {Q':Sx→An} {Q:Env→Hp→Prop}:∀ {cv:List (CvX×Nat)} {st:Sx} {ρ:Rho},ok (jEe P s cv st Q')→Inv G ρ st →
  (∀ st' ρ',Nz G ρ st ρ' st'→ok (Q' st')→Q (denE ρ' st'.E) (denH ρ' st'.H))→∃ cvw,cvs (P.C G) (denE ρ st.E) (denH ρ st.H) cvw Q
 | [],st,ρ,h,hi,hk=>⟨[],hk st ρ (Nx.refl hi).nz h⟩
 | (.lit n m,sz)::r,st,ρ,h,hi,hk=>by
  simp only [jEe] at h
  split at h
  ·rename_i i g k z e1
   have hse:=uE hi.e e1
   simp only [SX.sc,Bool.and_eq_true] at hse
   split at h
   ·rename_i hb e2
    split at h
    ·rename_i l hc
     obtain ⟨h1,h⟩:=jB h
     rw [Bool.and_eq_true] at h1
     obtain ⟨L,k1,k2,k3,h⟩:=jMx h hi
     obtain ⟨h2,h⟩:=qJ h hi
     obtain ⟨ρ',n1,e3,h⟩:=eT hi (L:=L) (n:=.con (.ofNat (jP l))) (m:=s.t m) ⟨by rw [qH,qC,k2]; rfl,k3⟩ (zQ _) h1.2 h
     have i2:Inv G ρ' ((((st.up (st.n+1)).addB (.ln st.n (.con (.ofNat (jP l))) (s.t m))).setE ((n,.ts i g.up k z)::st.E)).setH (jH st.H i ⟨hb.e,g.up,.xs st.n⟩)):=by
      refine (n1.inv.setE ?_).setH ?_
      ·simp only [scE,SX.sc,Bool.and_eq_true]
       exact ⟨⟨Gn.mono n1.n (Gn.up_sc hse.1),jF n1.n hse.2⟩,aE n1.n hi.e⟩
      ·exact yS (hb:=⟨hb.e,g.up,.xs st.n⟩) (Gn.mono n1.n (Gn.up_sc hse.1)) (Nat.ble_eq_true_of_le (Nat.le_refl _)) (uH n1.n hi.h)
     have z1:Nz G ρ st ρ' ((((st.up (st.n+1)).addB (.ln st.n (.con (.ofNat (jP l))) (s.t m))).setE ((n,.ts i g.up k z)::st.E)).setH (jH st.H i ⟨hb.e,g.up,.xs st.n⟩)):=⟨n1.n,n1.ag,i2⟩
     obtain ⟨cvw,hcv⟩:=pI h i2 fun st2 ρ2 z2 h=>hk st2 ρ2 (z1.trans z2) h
     refine ⟨(.lit n,sz)::cvw,?_⟩
     simp only [cvs,kC,xP,e1,Option.map,SX.den]
     refine yJ e2 ?_
     simp only [HX.den,hc,HCX.den,h1.1,req]
     refine k1 _ ?_
     change cvs (P.C G) (denE ρ' ((n,.ts i g.up k z)::st.E)) (denH ρ' (jH st.H i ⟨hb.e,g.up,.xs st.n⟩)) cvw Q at hcv
     rw [←yA,zM n1.ag hi.h] at hcv
     simp only [denE,SX.den,HX.den,HCX.den,Gn.up_den,Gn.agree n1.ag hse.1,n1.lt hse.2,e3,yH n1.ag hi.e] at hcv
     exact hcv
    ·exact (jC h).elim
   ·exact (jC h).elim
  ·exact (jC h).elim
 | (.frz n,sz)::r,st,ρ,h,hi,hk=>by
  simp only [jEe] at h
  split at h
  ·rename_i i g k z e1
   split at h
   ·rename_i hb e2
    split at h
    ·rename_i j hc
     obtain ⟨h1,h⟩:=jB h
     have i2:Inv G ρ ((st.setE ((n,.qs j)::st.E)).setH (uB st.H i)):=(hi.setE (by simp only [scE,SX.sc,Bool.and_eq_true]; exact ⟨h1,hi.e⟩)).setH (kY hi.h)
     obtain ⟨cvw,hcv⟩:=pI h i2 fun st2 ρ2 z2 h=>hk st2 ρ2 ⟨z2.n,z2.ag,z2.inv⟩ h
     refine ⟨(.frz n,sz)::cvw,?_⟩
     simp only [cvs,kC,xP,e1,Option.map,SX.den]
     refine yJ e2 ?_
     simp only [HX.den,hc,HCX.den]
     change cvs (P.C G) (denE ρ ((n,.qs j)::st.E)) (denH ρ (uB st.H i)) cvw Q at hcv
     rw [kL] at hcv
     exact hcv
    ·exact (jC h).elim
   ·exact (jC h).elim
  ·exact (jC h).elim
 | (.slot i e c0,sz)::r,st,ρ,h,hi,hk=>by
  simp only [jEe] at h
  obtain ⟨c,s1,ρ1,n1,h⟩:=jUa h hi
  obtain ⟨h1,h⟩:=jB h
  simp only [Bool.and_eq_true] at h1
  split at h
  ·rename_i v e1
   obtain ⟨h2,h⟩:=jB h
   have i2:Inv G ρ1 ((s1.setE ((i,.ts (jP s1.H) g0 (.con 0) sz)::s1.E)).setH (s1.H++[⟨e,g0,c⟩])):=(n1.inv.setE (by simp only [scE,SX.sc,Bool.and_eq_true]; exact ⟨⟨jFa _,zQ _⟩,n1.inv.e⟩)).setH (oM (hb:=⟨e,g0,c⟩) (jFa _) h1.2.1 n1.inv.h)
   obtain ⟨cvw,hcv⟩:=pI h i2 fun st2 ρ2 z2 h=>hk st2 ρ2 (n1.nz.trans ⟨z2.n,z2.ag,z2.inv⟩) h
   refine ⟨(.slot i e (c.den ρ1),sz)::cvw,?_⟩
   rw [←n1.denE hi,←n1.denH hi]
   simp only [cvs,jEr n1.inv h1.1 h1.2.2,req,kC,xP,e1,Option.map,jFe h2]
   change cvs (P.C G) (denE ρ1 ((i,.ts (jP s1.H) g0 (.con 0) sz)::s1.E)) (denH ρ1 (s1.H++[⟨e,g0,c⟩])) cvw Q at hcv
   rw [tE] at hcv
   simp only [denE,SX.den,fU,qH] at hcv
   rw [uZ]
   exact hcv
  ·exact (jC h).elim
 | (.cell i off e c0,sz)::r,st,ρ,h,hi,hk=>by
  simp only [jEe] at h
  obtain ⟨c,s1,ρ1,n1,h⟩:=jUa h hi
  obtain ⟨h1,h⟩:=jB h
  simp only [Bool.and_eq_true] at h1
  split at h
  ·rename_i hb e1
   split at h
   ·rename_i l hc
    split at h
    ·rename_i v e2
     obtain ⟨h2,h⟩:=jB h
     have hs:=vH n1.inv.h e1
     rw [hc] at hs
     have hl2:scs s1.n (jH l off (.ts (jP s1.H) g0 (.con 0) sz))=true:=jSz (by simp only [SX.sc,Bool.and_eq_true]; exact ⟨jFa _,zQ _⟩) hs.2
     have i2:Inv G ρ1 (s1.setH (jH s1.H i ⟨hb.e,hb.g,.l (jH l off (.ts (jP s1.H) g0 (.con 0) sz))⟩++[⟨e,g0,c⟩])):=n1.inv.setH (oM (hb:=⟨e,g0,c⟩) (jFa _) h1.2.1 (yS (hb:=⟨hb.e,hb.g,.l (jH l off (.ts (jP s1.H) g0 (.con 0) sz))⟩) hs.1 hl2 n1.inv.h))
     obtain ⟨cvw,hcv⟩:=pI h i2 fun st2 ρ2 z2 h=>hk st2 ρ2 (n1.nz.trans ⟨z2.n,z2.ag,z2.inv⟩) h
     refine ⟨(.cell i off e (c.den ρ1),sz)::cvw,?_⟩
     rw [←n1.denE hi,←n1.denH hi]
     simp only [cvs,jEr n1.inv h1.1 h1.2.2,req,gE e1]
     simp only [HX.den,hc,HCX.den,mI e2,jFe h2]
     change cvs (P.C G) (denE ρ1 s1.E) (denH ρ1 (jH s1.H i ⟨hb.e,hb.g,.l (jH l off (.ts (jP s1.H) g0 (.con 0) sz))⟩++[⟨e,g0,c⟩])) cvw Q at hcv
     rw [tE,←yA] at hcv
     simp only [HX.den,HCX.den,←qAh,SX.den,fU,qH] at hcv
     rw [uZ]
     exact hcv
    ·exact (jC h).elim
   ·exact (jC h).elim
  ·exact (jC h).elim
end
end
end Go.Proofs.YtngfdcnglojcaaaGreatDoor.Ev.Rf
end
section
set_option linter.all false
namespace Go.Proofs.YtngfdcnglojcaaaGreatDoor.Ev.Rf
noncomputable section
open Go
section
variable {P:PX} {G:Nat→List SV→SV→Prop} {ρ ρ' ρ2 ρ0 ρb ρc:Rho} {st st' st2:Sx} {np n0:Nat}
theorem jMs {n:Nat} {E:EX} (h:scE n E=true) (v:Nat):(jGf E v).sc n=true:=by
 unfold jGf
 have k:∀ {m:Nat} {x:SX},yK E m=some x→x.sc n=true:=fun e=>uE h e
 cases Nat.blt v 300000<;>simp only [cond_true,cond_false]
 ·cases Nat.blt v 400000<;>simp only [cond_true,cond_false]
  ·cases Nat.blt v 500000<;>simp only [cond_true,cond_false]
   ·cases Nat.blt v 1000000<;>simp only [cond_true,cond_false]
    ·rfl
    ·split
     ·rename_i e; have:=k e; simp only [SX.sc,Bool.and_eq_true] at this; exact this.1
     ·rfl
   ·split
    ·rename_i e; have:=k e; simp only [SX.sc,Bool.and_eq_true] at this; exact this.2
    ·rfl
  ·split
   ·rename_i e; have:=k e; simp only [SX.sc,Bool.and_eq_true] at this; exact this.1
   ·rename_i e; have:=k e; simp only [SX.sc,Bool.and_eq_true] at this; exact this.2
   ·rename_i e; have:=k e; simp only [SX.sc,Bool.and_eq_true] at this; exact this.2
   ·rfl
 ·split
  ·rename_i e; exact k e
  ·rename_i e; exact k e
  ·rfl
  ·rfl
theorem jMr {n:Nat} {E:EX} (h:scE n E=true) (hn:0<n) (v:Nat):jGe E v<n:=by
 unfold jGe
 split
 ·rename_i e; exact uJ.1 (uE h e)
 ·exact hn
theorem jMq {n:Nat} {E:EX} (h:scE n E=true) (v:Nat):(jGd E v).sc n=true:=by
 unfold jGd
 split
 ·rename_i e; exact uE h e
 ·rename_i e; have:=uE h e; simp only [SX.sc,Bool.and_eq_true] at this; exact this.1
 ·rename_i e; have:=uE h e; simp only [SX.sc,Bool.and_eq_true] at this; exact this.1
 ·exact jFa _
def Pin (n0:Nat) (E0:EX) (ρb ρc:Rho):Prop:=∀ v,(v<100000∨200000≤v)→ρc v=subst (pK n0 E0 []) ρb v
theorem jDg {E0:EX} {σ:Bd} {v:Nat} (h:v<n0):subst (pK n0 E0 σ) ρ v=ρ v:=by
 have hb:Nat.blt v n0=true:=uJ.2 h
 simp only [subst,pK,hb,cond_true,qA,Gn.den,Nat.add_zero]
theorem iP {E0:EX} {σ:Bd} {v:Nat} (h:¬ v<n0) (k:v<100000):subst (pK n0 E0 σ) ρ v=⟨0,(ρ 0).l,0⟩:=by
 have hb:Nat.blt v n0=false:=xN h
 have hb2:Nat.blt v 100000=true:=uJ.2 k
 simp only [subst,pK,hb,hb2,cond_true,cond_false,qH,fU]
theorem jDf {E0:EX} {σ:Bd} {v:Nat} (h:¬ v<n0) (k:¬ v<100000) (k2:¬ v<200000):subst (pK n0 E0 σ) ρ v=⟨(jGf E0 v).ev ρ,(ρ (jGe E0 v)).l,(jGd E0 v).den ρ⟩:=by
 have hb:Nat.blt v n0=false:=xN h
 have hb2:Nat.blt v 100000=false:=xN k
 have hb3:Nat.blt v 200000=false:=xN k2
 simp only [subst,pK,hb,hb2,hb3,cond_false]
theorem jYk {E0:EX} {v:Nat} (h:v<n0):subst (qV n0 E0) ρ v=ρ v:=by
 have hb:Nat.blt v n0=true:=uJ.2 h
 simp only [subst,qV,hb,cond_true,qA,Gn.den,Nat.add_zero]
theorem jVa {E0:EX} {v:Nat} (h:¬ v<n0) (k:v<100000):subst (qV n0 E0) ρ v=⟨0,(ρ 0).l,0⟩:=by
 have hb:Nat.blt v n0=false:=xN h
 have hb2:Nat.blt v 100000=true:=uJ.2 k
 simp only [subst,qV,hb,hb2,cond_true,cond_false,qH,fU]
theorem jYj {E0:EX} {v:Nat} (h:¬ v<n0) (k:¬ v<100000) (k2:¬ v<200000):subst (qV n0 E0) ρ v=⟨(jGf E0 v).ev ρ,(ρ (jGe E0 v)).l,(jGd E0 v).den ρ⟩:=by
 have hb:Nat.blt v n0=false:=xN h
 have hb2:Nat.blt v 100000=false:=xN k
 have hb3:Nat.blt v 200000=false:=xN k2
 simp only [subst,qV,hb,hb2,hb3,cond_false]
theorem qHp (ρ:Rho) (s:Sb) (v w:Nat) (e1:s.t v = .var w) (e2:s.l v=w) (e3:s.g v=⟨Nat.succ w,0⟩):subst s ρ v=ρ w:=by
 simp only [subst,e1,e2,e3,qA,Gn.den,Nat.add_zero]
theorem jVb {E0:EX} {v:Nat} (h:¬ v<n0) (k:¬ v<100000) (k2:v<200000):subst (qV n0 E0) ρ v=ρ (own n0 v):=by
 have hb:Nat.blt v n0=false:=xN h
 have hb2:Nat.blt v 100000=false:=xN k
 have hb3:Nat.blt v 200000=true:=uJ.2 k2
 refine qHp _ _ _ _ ?_ ?_ ?_
 ·simp only [qV,hb,hb2,hb3,cond_true,cond_false]
 ·simp only [qV,hb,hb2,hb3,cond_true,cond_false]
 ·simp only [qV,hb,hb2,hb3,cond_true,cond_false]
theorem jZs {E0:EX} {σ:Bd} (hE:scE n0 E0=true) (h0:0<n0) (h1:n0≤100000) (ag:∀ j,j<n0→ρ j=ρb j):Pin n0 E0 ρb (subst (pK n0 E0 σ) ρ):=by
 intro v hv
 by_cases q:v<n0
 ·rw [jDg q,jDg q]; exact ag v q
 ·by_cases q2:v<100000
  ·rw [iP q q2,iP q q2,ag 0 h0]
  ·have q3:¬ v<200000:=by omega
   rw [jDf q q2 q3,jDf q q2 q3,jK ag (jMs hE v),ag _ (jMr hE h0 v),Gn.agree ag (jMq hE v)]
def Rho.body (n0:Nat) (ρb ρc:Rho):Rho:=fun j=>if j<n0 then ρb j else ρc (100000+(j - n0))
theorem jWx {v:Nat} (k:¬ v<100000):Rho.body n0 ρb ρc (own n0 v)=ρc v:=by
 have e1:own n0 v=n0+(v - 100000):=by
  cases n0 with
  | zero=>exact (Nat.zero_add _).symm
  | succ k=>rfl
 have e2:100000+(n0+(v - 100000) - n0)=v:=by omega
 simp only [Rho.body,e1,e2]
 rw [if_neg (by omega)]
theorem jKs {E0:EX} (hE:scE n0 E0=true) (h0:0<n0) (h1:n0≤100000) (hp:Pin n0 E0 ρb ρc):subst (qV n0 E0) (Rho.body n0 ρb ρc)=ρc:=by
 funext v
 have ag:∀ j,j<n0→Rho.body n0 ρb ρc j=ρb j:=fun j hj=>by unfold Rho.body; rw [if_pos hj]
 by_cases q1:v<n0
 ·rw [jYk q1,ag v q1,hp v (.inl (by omega)),jDg q1]
 ·by_cases q2:v<100000
  ·rw [jVa q1 q2,hp v (.inl q2),iP q1 q2,ag 0 h0]
  ·by_cases q3:v<200000
   ·rw [jVb q1 q2 q3,jWx q2]
   ·rw [jYj q1 q2 q3,hp v (.inr (by omega)),jDf q1 q2 q3,jK ag (jMs hE v),ag _ (jMr hE h0 v),Gn.agree ag (jMq hE v)]
structure AI (G:Nat→List SV→SV→Prop) (n0:Nat) (E0:EX) (alts:List Alt) (ρb:Rho) (p:Alt×Rho):Prop where
 mem:p.1∈alts
 pin:Pin n0 E0 ρb p.2
 fx:Fx G p.2 p.1.F p.1.N p.1.B
theorem jTg {E0:EX} {H0:List HX} {a:Alt} {k:Sb→An} (h:ok (qId n0 E0 H0 a st k)):∃ σ,ok (k (pK n0 E0 σ)):=mY h
theorem jJo (hi:Inv G ρ st) {E0:EX} {H0:List HX} {a:Alt} {s:Sb} {pre:Bool} {k:An} (h:ok (jPx E0 H0 a st s pre k)) :
  Sub (denE (subst s ρ) a.E) (denE ρ st.E)∧(if pre then jVf (denH (subst s ρ) (yZ H0 a)) (denH ρ st.H) else denH (subst s ρ) (yZ H0 a)=denH ρ st.H)∧Fx G (subst s ρ) a.F a.N a.B∧ok k:=by
 unfold jPx at h
 obtain ⟨h1,h⟩:=jHn hi h
 rw [eK] at h1
 cases pre with
 | true=>
  obtain ⟨h2,h⟩:=jLa hi h
  obtain ⟨h3,h⟩:=tV hi h
  rw [yM] at h2
  exact ⟨h1,h2,Fx.inst.1 h3,h⟩
 | false=>
  obtain ⟨h2,h⟩:=jHo hi h
  obtain ⟨h3,h⟩:=tV hi h
  rw [yM] at h2
  exact ⟨h1,h2,Fx.inst.1 h3,h⟩
theorem jEi {L:Nat} (hL:0<L) (hi:Inv G ρ st) {E0:EX} {H0:List HX} {a:Alt} {alts:List Alt} (hE:scE n0 E0=true) (h0:0<n0) (h1:n0≤100000) (ag:∀ j,j<n0→ρ j=ρb j) (ha:a∈alts) (h:ok (jGz n0 E0 H0 L st a)) :
  ∃ p,AI G n0 E0 alts ρb p∧Sub (denE p.2 p.1.E) (denE ρ st.E)∧denH ρ st.H=denH p.2 (yZ H0 p.1)∧(p.1.m.ev p.2).toNat<L:=by
 obtain ⟨σ,h⟩:=jTg h
 obtain ⟨k1,k2,k3,h⟩:=jJo hi h
 obtain ⟨k4,_⟩:=jE h hi
 rw [jG,qN,qM] at k4
 refine ⟨(a,subst (pK n0 E0 σ) ρ),⟨ha,jZs hE h0 h1 ag,k3⟩,k1,by have:=k2; simp at this; exact this.symm,?_⟩
 have e:(Int.ofNat L:Int)=(L:Int):=rfl
 dsimp only
 omega
theorem oU {E0:EX} {H0:List HX} {L:Nat}:∀ {l:List Alt} {j:Nat} {a:An},(rA n0 E0 H0 L st l)[j]?=some a→∃ t,t∈l∧a=jGz n0 E0 H0 L st t
 | [],j,a,h=>by simp [rA] at h
 | t::r,0,a,h=>by simp [rA] at h; exact ⟨t,List.mem_cons_self .., h.symm⟩
 | t::r,j+1,a,h=>by
  simp [rA] at h
  obtain ⟨t',h1,h2⟩:=oU h
  exact ⟨t',List.mem_cons_of_mem _ h1,h2⟩
theorem iX {L:Nat} (hL:0<L) (hi:Inv G ρ st) {E0:EX} {H0:List HX} {alts:List Alt} (hE:scE n0 E0=true) (h0:0<n0) (h1:n0≤100000) (ag:∀ j,j<n0→ρ j=ρb j) (h:ok (sY n0 E0 H0 L st alts)) :
  ∃ p,AI G n0 E0 alts ρb p∧Sub (denE p.2 p.1.E) (denE ρ st.E)∧denH ρ st.H=denH p.2 (yZ H0 p.1)∧(p.1.m.ev p.2).toNat<L:=by
 unfold sY at h
 split at h
 ·exact jEi hL hi hE h0 h1 ag (List.mem_cons_self ..) h
 ·obtain ⟨j,a,hj,ha,_⟩:=mL h
  obtain ⟨t,ht,rfl⟩:=oU hj
  exact jEi hL hi hE h0 h1 ag ht ha
theorem jAg {E0:EX} {H0:List HX} {Ek:EX} {m0:LT} {h0:Nat}:∀ {l:List Alt} {j:Nat} {a:An},(aT n0 E0 H0 Ek m0 h0 st l)[j]?=some a→∃ t,t∈l∧a=jAf n0 E0 H0 Ek m0 h0 st t
 | [],j,a,h=>by simp [aT] at h
 | t::r,0,a,h=>by simp [aT] at h; exact ⟨t,List.mem_cons_self .., h.symm⟩
 | t::r,j+1,a,h=>by
  simp [aT] at h
  obtain ⟨t',h1,h2⟩:=jAg h
  exact ⟨t',List.mem_cons_of_mem _ h1,h2⟩
theorem jIf {E:EX}:bS (denE ρ E)=bS (denE ρ' E):=by rw [nJ,nJ]
theorem jUp (hi:Inv G ρ st) {E0:EX} {H0:List HX} {Ek:EX} {m0:LT} {hh:Nat} {a:Alt} {alts:List Alt} (hE:scE n0 E0=true) (h0:0<n0) (h1:n0≤100000) (ag:∀ j,j<n0→ρ j=ρb j) (hEk:scE n0 Ek=true) (ha:a∈alts) (h:ok (jAf n0 E0 H0 Ek m0 hh st a)) :
  ∃ p,AI G n0 E0 alts ρb p∧Sub (denE p.2 p.1.E++denE ρb Ek) (denE ρ st.E)∧jVf (denH p.2 (yZ H0 p.1)) (denH ρ st.H) ∧
   (Nat.ble hh (jP (denH p.2 (yZ H0 p.1)))&&Nat.ble (bS (denE p.2 p.1.E++denE ρb Ek)) (jP (denH p.2 (yZ H0 p.1)))&&Nat.ble (yT (denH p.2 (yZ H0 p.1))) (jP (denH p.2 (yZ H0 p.1))))=true∧(p.1.m.ev p.2).toNat<(m0.ev ρ).toNat:=by
 obtain ⟨σ,h⟩:=jTg h
 obtain ⟨k1,k2,k3,h⟩:=jJo hi h
 obtain ⟨k4,h⟩:=jHn hi h
 obtain ⟨k5,h⟩:=jB h
 obtain ⟨k6,h⟩:=jE h hi
 obtain ⟨k7,_⟩:=jE h hi
 rw [jG,jR,qM] at k6
 rw [jG] at k7
 simp only [Bool.and_eq_true] at k5
 rw [jOn,jLl (ρ:=ρ)] at k5
 have eEk:denE ρ Ek=denE ρb Ek:=yH ag hEk
 rw [eEk] at k4
 refine ⟨(a,subst (pK n0 E0 σ) ρ),⟨ha,jZs hE h0 h1 ag,k3⟩,jGs k1 k4,by simpa using k2,?_,by dsimp only; omega⟩
 simp only [Bool.and_eq_true]
 rw [uZ]
 refine ⟨⟨k5.1,?_⟩,k5.2.2⟩
 have:bS (denE (subst (pK n0 E0 σ) ρ) a.E++denE ρb Ek)=jKg (a.E++Ek):=by
  rw [←nJ (ρ:=ρb),jAm]
  have e:∀ a b:Nat,mx a b=max a b:=by
   intro a b
   unfold mx
   cases q:Nat.ble a b with
   | true=>have:=Nat.le_of_ble_eq_true q; simp only [cond_true]; omega
   | false=>
    have:¬ a≤b:=fun z=>by rw [Nat.ble_eq_true_of_le z] at q; cases q
    simp only [cond_false]; omega
  have app:∀ (A B:Env),bS (A++B)=mx (bS A) (bS B):=by
   intro A
   induction A with
   | nil=>intro B; rw [e]; show bS B=max 0 (bS B); omega
   | cons p A ih=>
    intro B
    show mx (uQ p.2) (bS (A++B))=mx (mx (uQ p.2) (bS A)) (bS B)
    rw [ih]
    simp only [e]; omega
  rw [app,app]
  congr 1
  exact jIf
 rw [this]; exact k5.2.1
theorem qDk {E0:EX} {H0:List HX} {Ek:EX} {se:List LT} {alts:List Alt} {m0:LT} {hh:Nat} {Q':KK} {Q:QK} {mv:Nat} (hE:scE n0 E0=true) (h0:0<n0) (h1:n0≤100000) (hEk:scE n0 Ek=true)
  (hQ:∀ e st' ρ',Bs n0 ρb ρ' st'→Inv G ρ' st'→ok (Q' e st')→Q e (denE ρ' st'.E) (denH ρ' st'.H)) (e:Ev.E) (hb:Bs n0 ρb ρ st) (hi:Inv G ρ st) (hm:(m0.ev ρ).toNat=mv) (h:ok (qGs n0 E0 H0 Ek se alts m0 hh Q' e st)) :
  lpQ (fun p:Alt×Rho=>denE p.2 p.1.E++denE ρb Ek) (fun p=>denH p.2 (yZ H0 p.1)) (AI G n0 E0 alts ρb) (fun p=>(p.1.m.ev p.2).toNat) mv hh Q e (denE ρ st.E) (denH ρ st.H):=by
 cases e with
 | exit i=>exact hQ _ _ _ hb hi h
 | ret=>exact hQ _ _ _ hb hi h
 | nrm=>
  simp only [qGs] at h
  obtain ⟨s1,n1,h⟩:=gU h hi
  have b1:=hb.nx n1
  have fin:∀ {a:Alt},a∈alts→ok (jAf n0 E0 H0 Ek m0 hh s1 a)→lpQ (fun p:Alt×Rho=>denE p.2 p.1.E++denE ρb Ek) (fun p=>denH p.2 (yZ H0 p.1)) (AI G n0 E0 alts ρb) (fun p=>(p.1.m.ev p.2).toNat) mv hh Q .nrm (denE ρ st.E) (denH ρ st.H):=fun ha h=>by
   obtain ⟨p,k1,k2,k3,k4,k5⟩:=jUp n1.inv hE h0 h1 b1.ag hEk ha h
   rw [n1.denE hi] at k2
   rw [n1.denH hi] at k3
   refine ⟨p,k2,k3,?_⟩
   show req (Nat.ble hh (jP (denH p.2 (yZ H0 p.1)))&&Nat.ble (bS (denE p.2 p.1.E++denE ρb Ek)) (jP (denH p.2 (yZ H0 p.1)))&&Nat.ble (yT (denH p.2 (yZ H0 p.1))) (jP (denH p.2 (yZ H0 p.1)))) _
   rw [k4]
   exact ⟨k1,by rw [←hm]; exact k5⟩
  split at h
  ·exact fin (List.mem_cons_self ..) h
  ·obtain ⟨j,a,hj,ha,_⟩:=mL h
   obtain ⟨t,ht,rfl⟩:=jAg hj
   exact fin ht ha
theorem jSw {n:Nat}:∀ {A B:EX},scE n A=true→scE n B=true→scE n (A++B)=true
 | [],B,h,k=>k
 | p::A,B,h,k=>by simp only [List.cons_append,scE,Bool.and_eq_true] at h ⊢; exact ⟨h.1,jSw h.2 k⟩
theorem rJ {E0:EX} {H0:List HX} {Ek:EX} {se:List LT} {alts:List Alt} {body:Sx→KK→An} {Q':KK}:∀ {l:List Alt},ok (jHc E0 H0 Ek se alts body st Q' l)→∀ a,a∈l→ok (jEk E0 H0 Ek se alts body st Q' a)
 | [],h,a,ha=>by cases ha
 | q::r,h,a,ha=>by
  obtain ⟨h1,h2⟩:=qW h
  rcases List.mem_cons.1 ha with rfl | ha
  ·exact h1
  ·exact rJ h2 a ha
theorem jEj (hG:bB G) {E0:EX} {H0:List HX} {Ek:EX} {se:List LT} {alts:List Alt} {body:Sx→KK→An} {Q':KK} {wbody:Env→Hp→QK→Prop} {Q:QK} (hi:Inv G ρb st) (hE:scE st.n E0=true) (h0:0<st.n) (h1:st.n≤100000)
  (hbody:∀ {n1:Nat} {ρ1:Rho} {st1:Sx} {Q1:KK} {Q2:QK},(∀ j,j<st.n→ρ1 j=ρb j)→st.n≤n1→ok (body st1 Q1)→Inv G ρ1 st1→Bs n1 ρ1 ρ1 st1→(∀ e st' ρ',Bs n1 ρ1 ρ' st'→Inv G ρ' st'→ok (Q1 e st')→Q2 e (denE ρ' st'.E) (denH ρ' st'.H))→wbody (denE ρ1 st1.E) (denH ρ1 st1.H) Q2)
  (hQ:∀ e st' ρ',Bs st.n ρb ρ' st'→Inv G ρ' st'→ok (Q' e st')→Q e (denE ρ' st'.E) (denH ρ' st'.H))
  (h:∀ a,a∈alts→ok (jEk E0 H0 Ek se alts body st Q' a)) (p:Alt×Rho) (hp:AI G st.n E0 alts ρb p) :
  wbody (denE p.2 p.1.E++denE ρb Ek) (denH p.2 (yZ H0 p.1)) (lpQ (fun p:Alt×Rho=>denE p.2 p.1.E++denE ρb Ek) (fun p=>denH p.2 (yZ H0 p.1)) (AI G st.n E0 alts ρb) (fun p=>(p.1.m.ev p.2).toNat) (p.1.m.ev p.2).toNat (jP (denH p.2 (yZ H0 p.1))) Q):=by
 have h:=h p.1 hp.mem
 unfold jEk at h
 rw [zP] at h
 replace h:=jB h
 obtain ⟨hs,h⟩:=h
 simp only [Bool.and_eq_true] at hs
 obtain ⟨s1,s2,s3,s4⟩:=hs
 have hsub:=jKs hE h0 h1 hp.pin
 let ρ1:=Rho.body st.n ρb p.2
 have ag:∀ j,j<st.n→ρ1 j=ρb j:=fun j hj=>by show (if j<st.n then _ else _)=_; rw [if_pos hj]
 have n1:Nx G ρb st ρ1 (st.up (st.n+p.1.k)):=hi.up (Nat.le_add_right _ _) ag
 have i2:Inv G ρ1 (((st.up (st.n+p.1.k)).setE (lF (qV st.n E0) p.1.E++Ek)).setH (kU (qV st.n E0) (yZ H0 p.1))):=
  (n1.inv.setE (jSw s1 (aE n1.n s3))).setH s2
 have hf:Fx G ρ1 (vB (qV st.n E0) p.1.F) (vB (qV st.n E0) p.1.N) (dN (qV st.n E0) p.1.B):=by
  rw [Fx.inst,hsub]; exact hp.fx
 obtain ⟨st1,n2,h⟩:=jEh hG h i2 hf
 have b2:Bs (st.n+p.1.k) ρ1 ρ1 st1:=⟨n2.n,fun _ _=>rfl⟩
 have eE:denE ρ1 st1.E=denE p.2 p.1.E++denE ρb Ek:=by
  rw [n2.denE i2]
  show denE ρ1 (lF (qV st.n E0) p.1.E++Ek)=_
  rw [jAm,eK,hsub,yH ag s3]
 have eH:denH ρ1 st1.H=denH p.2 (yZ H0 p.1):=by
  rw [n2.denH i2]
  show denH ρ1 (kU (qV st.n E0) (yZ H0 p.1))=_
  rw [yM,hsub]
 have key:=hbody (Q2:=lpQ (fun p:Alt×Rho=>denE p.2 p.1.E++denE ρb Ek) (fun p=>denH p.2 (yZ H0 p.1)) (AI G st.n E0 alts ρb) (fun p=>(p.1.m.ev p.2).toNat) (p.1.m.ev p.2).toNat (jP (denH p.2 (yZ H0 p.1))) Q) ag (Nat.le_add_right _ _) h n2.inv b2 fun e st' ρ' hb hi' h=>by
  have hb':Bs st.n ρb ρ' st':=⟨Nat.le_trans (Nat.le_add_right _ _) hb.n,fun j hj=>(hb.ag j (by omega)).trans (ag j hj)⟩
  rw [uZ]
  refine qDk hE h0 h1 s3 hQ e hb' hi' ?_ h
  rw [jK hb.ag s4,qM,hsub]
 rw [eE,eH] at key
 exact key
def okW (P:PX) (cur:LT) (L np:Nat) (an:Nat→Option Ann) (hs:Nat→Option (List LT)) (kd:Nat→Nat) (b0:Sx) (c:K) (id:Nat) (Q:KK):Prop:=ok (xW 0 P cur L np an hs kd b0 c id Q)∨(ok (xW 1 P cur L np an hs kd b0 c id Q)∧ok (xW 2 P cur L np an hs kd b0 c id Q))
section
variable {P:PX} {cur:LT} {L np:Nat} {an:Nat→Option Ann} {hs:Nat→Option (List LT)} {kd:Nat→Nat} {b0:Sx} {a b c:K} {id:Nat} {Q:KK}
theorem jSk (h:okW P cur L np an hs kd b0 (.seq a b) id Q):okW P cur L np an hs kd b0 a id (jUc (fun st=>xK P cur L np an hs kd b true id st Q) Q)∧okW P cur L np an hs kd b0 b id Q:=by
 rcases h with h | ⟨h,k⟩
 ·exact ⟨.inl (qW h).1,.inl (qW h).2⟩
 ·exact ⟨.inr ⟨(qW h).1,(qW k).1⟩,.inr ⟨(qW h).2,(qW k).2⟩⟩
theorem jLs {x:X} (h:okW P cur L np an hs kd b0 (.cond x a b) id Q):okW P cur L np an hs kd b0 a id Q∧okW P cur L np an hs kd b0 b id Q:=by
 rcases h with h | ⟨h,k⟩
 ·exact ⟨.inl (qW h).1,.inl (qW h).2⟩
 ·exact ⟨.inr ⟨(qW h).1,(qW k).1⟩,.inr ⟨(qW h).2,(qW k).2⟩⟩
theorem jVu {i:Nat} (h:okW P cur L np an hs kd b0 (.block i c) id Q):okW P cur L np an hs kd b0 c i (jTy i Q):=h
theorem jZq {x:Ann} (h:okW P cur L np an hs kd b0 (.loop c) id Q) (e:an id=some x) (ho:x.once=true):(Nat.ble np 100000&&Nat.blt 0 np)=true∧∀ y,y∈x.alts→ok (jEk [] [] [] x.se x.alts (fun st Q=>xK P cur L np an hs kd c false id st Q) b0 Q y):=by
 have key:∀ {n:Nat},ok (xW n P cur L np an hs kd b0 (.loop c) id Q)→(Nat.ble np 100000&&Nat.blt 0 np)=true∧∀ y,y∈qMa n x.alts→ok (jEk [] [] [] x.se x.alts (fun st Q=>xK P cur L np an hs kd c false id st Q) b0 Q y):=fun h=>by
  simp only [xW,e,ho,cond_true] at h
  obtain ⟨q,h⟩:=jB h
  exact ⟨q,rJ h⟩
 rcases h with h | ⟨h,k⟩
 ·exact key h
 ·refine ⟨(key h).1,fun y hy=>?_⟩
  have h1:=(key h).2 y
  have h2:=(key k).2 y
  cases q:x.alts with
  | nil=>rw [q] at hy; cases hy
  | cons z r=>
   rw [q] at hy h1 h2
   rcases List.mem_cons.1 hy with rfl | hy
   ·exact h1 (List.mem_cons_self ..)
   ·exact h2 hy
end
theorem lP (hG:bB G) (hP:PSc P) {Γ:qE} (hΓ:∀ d f l H Q,Gam P G d f l H Q→Γ d f l H Q) {cur:LT} {L:Nat} (hL:0<L) {an:Nat→Option Ann} {hs:Nat→Option (List LT)} {kd:Nat→Nat} {d:Nat} {b0:Sx} {ρ0:Rho} {npf:Nat} (hc:cur.sc npf=true) (hd:cur.ev ρ0≤d+1) (hb0:Inv G ρ0 b0) (hn0:b0.n=npf) :
  ∀ (c:K) {top:Bool} {id:Nat} {np:Nat} {ρn:Rho} {st:Sx} {ρ:Rho} {Q':KK} {Q:QK},npf≤np→(∀ j,j<npf→ρn j=ρ0 j)→(top=true→np=npf∧okW P cur L npf an hs kd b0 c id Q')→ok (xK P cur L npf an hs kd c top id st Q')→Inv G ρ st→Bs np ρn ρ st →
  (∀ e st' ρ',Bs np ρn ρ' st'→Inv G ρ' st'→ok (Q' e st')→Q e (denE ρ' st'.E) (denH ρ' st'.H))→wK (P.C G) Γ L d c (denE ρ st.E) (denH ρ st.H) Q
 | .skip,top,id,np,ρn,st,ρ,Q',Q,hle,hag,hw,h,hi,hb,hQ=>hQ _ _ _ hb hi h
 | .reg ops,top,id,np,ρn,st,ρ,Q',Q,hle,hag,hw,h,hi,hb,hQ=>qBn hG hP hΓ (jF hle hc) (by rw [jK hag hc]; exact hd) h hi hb fun st' ρ' b i h=>hQ .nrm st' ρ' b i h
 | .dreg ops,top,id,np,ρn,st,ρ,Q',Q,hle,hag,hw,h,hi,hb,hQ=>jNl hG hP hΓ (jF hle hc) (by rw [jK hag hc]; exact hd) h hi hb fun st' ρ' b i h=>hQ .nrm st' ρ' b i h
 | .fr ops fa us,top,id,np,ρn,st,ρ,Q',Q,hle,hag,hw,h,hi,hb,hQ=>(jC h).elim
 | .seq a b,top,id,np,ρn,st,ρ,Q',Q,hle,hag,hw,h,hi,hb,hQ=>by
  have hw1:top=true→np=npf∧okW P cur L npf an hs kd b0 a id (jUc (fun st=>xK P cur L npf an hs kd b top id st Q') Q'):=fun e=>by
   obtain ⟨q1,q2⟩:=hw e
   have q3:=(jSk q2).1
   subst e
   exact ⟨q1,q3⟩
  refine lP hG hP hΓ hL hc hd hb0 hn0 a (Q:=qMb (fun E H=>wK (P.C G) Γ L d b E H Q) Q) hle hag hw1 h hi hb fun e st' ρ' hb' hi' h=>?_
  cases e with
  | nrm=>exact lP hG hP hΓ hL hc hd hb0 hn0 b hle hag (fun e=>by obtain ⟨q1,q2⟩:=hw e; exact ⟨q1,(jSk q2).2⟩) h hi' hb' hQ
  | exit i=>exact hQ _ _ _ hb' hi' h
  | ret=>exact hQ _ _ _ hb' hi' h
 | .cond c a b,top,id,np,ρn,st,ρ,Q',Q,hle,hag,hw,h,hi,hb,hQ=>by
  refine qY (P:=fun c=>jTo c (wK (P.C G) Γ L d a (denE ρ st.E) (denH ρ st.H) Q) (wK (P.C G) Γ L d b (denE ρ st.E) (denH ρ st.H) Q)) h hi fun v hv h=>?_
  obtain ⟨x,s1,e,n1,h⟩:=aM h hi
  rw [e]
  have b1:=hb.nx n1
  rw [←n1.denE hi,←n1.denH hi]
  cases x with
  | true=>exact lP hG hP hΓ hL hc hd hb0 hn0 a hle hag (fun e=>by obtain ⟨q1,q2⟩:=hw e; exact ⟨q1,(jLs q2).1⟩) h n1.inv b1 hQ
  | false=>exact lP hG hP hΓ hL hc hd hb0 hn0 b hle hag (fun e=>by obtain ⟨q1,q2⟩:=hw e; exact ⟨q1,(jLs q2).2⟩) h n1.inv b1 hQ
 | .block i c,top,id,np,ρn,st,ρ,Q',Q,hle,hag,hw,h,hi,hb,hQ=>by
  refine lP hG hP hΓ hL hc hd hb0 hn0 c (Q:=qDc i Q) (Q':=jTy i Q') (id:=i) hle hag (fun e=>⟨(hw e).1,jVu (hw e).2⟩) h hi hb fun e st' ρ' hb' hi' h=>?_
  cases e with
  | nrm=>exact hQ _ _ _ hb' hi' h
  | ret=>exact hQ _ _ _ hb' hi' h
  | exit k=>
   rcases qT h with ⟨q,h⟩ | ⟨q,h⟩
   ·exact oW q (hQ _ _ _ hb' hi' h)
   ·exact aQ q (hQ _ _ _ hb' hi' h)
 | .loop c,top,id,np,ρn,st,ρ,Q',Q,hle,hag,hw,h,hi,hb,hQ=>by
  simp only [xK] at h
  unfold qGe at h
  split at h
  ·exact (jC h).elim
  ·rename_i a ea
   show jDo (P.C G) L (fun E H Q=>wK (P.C G) Γ L d c E H Q) (denE ρ st.E) (denH ρ st.H) Q
   unfold jDo
   by_cases ho:(a.once&&top)=true
   ·-- a loop that stands for itself
    obtain ⟨cvw,hcv⟩:=pI (Q:=fun E' H'=>∃ (α:Type) (F:α→Env) (G0:α→Hp) (I:α→Prop) (m:α→Nat),(∃ p,Sub (F p++wV E' []) E'∧H'=G0 p∧I p∧m p<L)∧∀ p,I p→wK (P.C G) Γ L d c (F p++wV E' []) (G0 p) (lpQ (fun p=>F p++wV E' []) G0 I m (m p) (jP (G0 p)) Q)) h hi fun s1 ρ1 z1 h=>by
     obtain ⟨s2,n2,h⟩:=gU h z1.inv
     rw [ho] at h
     simp only [cond_true] at h
     rw [Bool.and_eq_true] at ho
     obtain ⟨enp,hw⟩:=hw ho.2
     subst enp
     obtain ⟨hq,hw⟩:=jZq hw ea ho.1
     rw [Bool.and_eq_true] at hq
     have q1:=Nat.le_of_ble_eq_true hq.1
     have q2:=uJ.1 hq.2
     have b1:Bs np ρn ρ1 s1:=⟨Nat.le_trans hb.n z1.n,fun j hj=>(z1.ag j (Nat.lt_of_lt_of_le hj hb.n)).trans (hb.ag j hj)⟩
     have b2:=b1.nx n2
     have ag0:∀ j,j<np→ρ1 j=ρ0 j:=fun j hj=>(b2.ag j hj).trans (hag j hj)
     obtain ⟨p,k1,k2,k3,k4⟩:=iX hL (ρb:=ρ0) n2.inv (E0:=[]) (H0:=[]) rfl q2 q1 ag0 h
     rw [n2.denE z1.inv] at k2
     rw [n2.denH z1.inv] at k3
     refine ⟨Alt×Rho,fun p=>denE p.2 p.1.E,fun p=>denH p.2 (yZ [] p.1),AI G np [] a.alts ρ0,fun p=>(p.1.m.ev p.2).toNat,⟨p,?_,k3,k1,k4⟩,fun p hp=>?_⟩
     ·show Sub (denE p.2 p.1.E++[]) _
      rw [List.append_nil]; exact k2
     ·have:=jEj hG (ρb:=ρ0) (st:=b0) (Q:=Q) (wbody:=fun E H Q=>wK (P.C G) Γ L d c E H Q) hb0 (E0:=[]) (H0:=[]) (Ek:=[]) rfl (by rw [hn0]; exact q2) (by rw [hn0]; exact q1) (fun {n1 ρ1' st1 Q1 Q2} ag hle1 h hi1 hb1 hQ1=>lP hG hP hΓ hL hc hd hb0 hn0 c (top:=false) (id:=id) (by rw [hn0] at hle1; exact hle1) (fun j hj=>ag j (by rw [hn0]; exact hj)) (fun e=>by cases e) h hi1 hb1 hQ1)
       (fun e st' ρ' hb' hi' h=>hQ e st' ρ' ⟨by rw [hn0] at hb'; exact hb'.n,fun j hj=>by rw [hn0] at hb'; rw [hb'.ag j hj,hag j hj]⟩ hi' h) hw p (by rw [hn0]; exact hp)
      rw [hn0] at this
      exact this
    exact ⟨[],cvw,hcv⟩
   ·obtain ⟨cvw,hcv⟩:=pI (Q:=fun E' H'=>∃ (α:Type) (F:α→Env) (G0:α→Hp) (I:α→Prop) (m:α→Nat),(∃ p,Sub (F p++wV E' a.ks) E'∧H'=G0 p∧I p∧m p<L)∧∀ p,I p→wK (P.C G) Γ L d c (F p++wV E' a.ks) (G0 p) (lpQ (fun p=>F p++wV E' a.ks) G0 I m (m p) (jP (G0 p)) Q)) h hi fun s1 ρ1 z1 h=>by
     obtain ⟨s2,n2,h⟩:=gU h z1.inv
     have ho':(a.once&&top)=false:=by cases q:(a.once&&top); rfl; exact absurd q ho
     rw [ho'] at h
     simp only [cond_false] at h
     obtain ⟨hq,h⟩:=jB h
     rw [Bool.and_eq_true] at hq
     have q1:=Nat.le_of_ble_eq_true hq.1
     have q2:=uJ.1 hq.2
     obtain ⟨h1,h2⟩:=qW h
     have b1:Bs np ρn ρ1 s1:=⟨Nat.le_trans hb.n z1.n,fun j hj=>(z1.ag j (Nat.lt_of_lt_of_le hj hb.n)).trans (hb.ag j hj)⟩
     have b2:=b1.nx n2
     obtain ⟨p,k1,k2,k3,k4⟩:=iX hL (ρb:=ρ1) n2.inv n2.inv.e q2 q1 (fun _ _=>rfl) h1
     rw [←n2.denE z1.inv,←n2.denH z1.inv,←iF]
     refine ⟨Alt×Rho,fun p=>denE p.2 p.1.E,fun p=>denH p.2 (yZ s2.H p.1),AI G s2.n s2.E a.alts ρ1,fun p=>(p.1.m.ev p.2).toNat,⟨p,?_,k3,k1,k4⟩,fun p hp=>?_⟩
     ·refine jGs k2 ?_
      exact pick_sub a.ks
     ·exact jEj hG (ρb:=ρ1) (st:=s2) (Q:=Q) (wbody:=fun E H Q=>wK (P.C G) Γ L d c E H Q) n2.inv n2.inv.e q2 q1 (fun {n1 ρ1' st1 Q1 Q2} ag hle1 h hi1 hb1 hQ1=>lP hG hP hΓ hL hc hd hb0 hn0 c (top:=false) (id:=id) (Nat.le_trans hle (Nat.le_trans b2.n hle1)) (fun j hj=>by rw [ag j (Nat.lt_of_lt_of_le hj (Nat.le_trans hle b2.n)),b2.ag j (Nat.lt_of_lt_of_le hj hle),hag j hj]) (fun e=>by cases e) h hi1 hb1 hQ1)
       (fun e st' ρ' hb' hi' h=>hQ e st' ρ' ⟨Nat.le_trans b2.n hb'.n,fun j hj=>(hb'.ag j (Nat.lt_of_lt_of_le hj b2.n)).trans (b2.ag j hj)⟩ hi' h) (rJ h2) p hp
    exact ⟨a.ks,cvw,hcv⟩
 | .exit i,top,id,np,ρn,st,ρ,Q',Q,hle,hag,hw,h,hi,hb,hQ=>hQ _ _ _ hb hi h
 | .ret,top,id,np,ρn,st,ρ,Q',Q,hle,hag,hw,h,hi,hb,hQ=>hQ _ _ _ hb hi h
 | .no,top,id,np,ρn,st,ρ,Q',Q,hle,hag,hw,h,hi,hb,hQ=>(jC h).elim
 where
 pick_sub {E:EX} {ρ:Rho}:∀ (ks:List Nat),Sub (denE ρ (jCf E ks)) (denE ρ E)
  | []=>trivial
  | n::r=>by
   simp only [jCf]
   split
   ·rename_i v e
    exact ⟨⟨v.den ρ,by rw [xP,e]; rfl,rfl⟩,pick_sub r⟩
   ·exact pick_sub r
end
end
end Go.Proofs.YtngfdcnglojcaaaGreatDoor.Ev.Rf
end
section
set_option linter.all false
namespace Go.Proofs.YtngfdcnglojcaaaGreatDoor.Ev.Rf
noncomputable section
open Go
section
variable {P:PX} {G:Nat→List SV→SV→Prop} {ρ ρ' ρ2 ρ0 ρb ρc:Rho} {st st' st2:Sx} {np n0:Nat}
theorem jJa:∀ {res:List RV0} {st:Sx} {ρ:Rho} {Q':List SX→Sx→An} {Q:List SV→Prop},ok (jPt P res st Q')→Inv G ρ st →
  (∀ v st' ρ',Nx G ρ st ρ' st'→scs st'.n v=true→ok (Q' v st')→Q (jQ ρ' v))→jDp (P.C G) (denE ρ st.E) (denH ρ st.H) res Q
 | [],st,ρ,Q',Q,h,hi,hk=>hk [] st ρ (Nx.refl hi) rfl h
 | .t n::r,st,ρ,Q',Q,h,hi,hk=>by
  simp only [jPt] at h
  simp only [jDp,kC,xP]
  split at h
  ·rename_i v e
   have hv:=uE hi.e e
   rw [e]
   simp only [Option.map]
   exact jJa (Q:=fun l=>Q (v.den ρ::l)) h hi fun l st' ρ' n hs h=>by
    have:=hk (v::l) st' ρ' n (by simp only [scs,Bool.and_eq_true]; exact ⟨SX.mono n.n hv,hs⟩) h
    simp only [jQ,n.sx hv] at this
    exact this
  ·exact (jC h).elim
 | .c a n::r,st,ρ,Q',Q,h,hi,hk=>by
  simp only [jPt] at h
  simp only [jDp,kC,xP]
  split at h
  ·rename_i a e
   have ha:=uE hi.e e
   rw [e]
   simp only [Option.map]
   refine qBk h hi ha fun v s1 ρ1 n1 h=>?_
   ·obtain ⟨hv,h⟩:=jB h
    rw [←n1.denE hi,←n1.denH hi]
    exact jJa (Q:=fun l=>Q (v.den ρ1::l)) h n1.inv fun l st' ρ' n hs h=>by
     have:=hk (v::l) st' ρ' (n1.trans n) (by simp only [scs,Bool.and_eq_true]; exact ⟨SX.mono n.n hv,hs⟩) h
     simp only [jQ,n.sx hv] at this
     exact this
  ·exact (jC h).elim
theorem qAr (l:List SX):(qEx l).den ρ=qAq (jQ ρ l):=by
 match l with
 | []=>rfl
 | [v]=>rfl
 | _::_::_=>rfl
theorem qEy {n:Nat} {l:List SX} (h:scs n l=true):(qEx l).sc n=true:=by
 match l,h with
 | [],h=>rfl
 | [v],h=>simp only [scs,Bool.and_eq_true] at h; exact h.1
 | _::_::_,h=>exact h
theorem qBs {k:Nat} {hb:HX} {Q':HX→Sx→An} {Q:HB→Prop} (h:ok (qBr P k hb st Q')) (hi:Inv G ρ st) (hc:hb.g.sc st.n=true∧hb.c.sc st.n=true)
  (hk:∀ h' st' ρ',Nx G ρ st ρ' st'→h'.g.sc st'.n=true→h'.c.sc st'.n=true→ok (Q' h' st')→Q (h'.den ρ')):jUn (P.C G) k (denH ρ st.H) (hb.den ρ) Q:=by
 unfold qBr at h
 unfold jUn
 split at h
 ·rename_i l ts e1 e2
  show (match (hb.c.den ρ),P.bt hb.e with | .l l,some ts=>_ | .l l,none=>_ | _,_=>_)
  rw [e1] at hc
  simp only [HX.den,e1,HCX.den,e2]
  refine mV ts h hi hc.2 fun v fr s1 ρ1 n1 hs h=>?_
  obtain ⟨h1,h⟩:=jB h
  simp only [Bool.and_eq_true] at h1
  rw [h1.1,mM,h1.2.1]
  have:=hk ⟨hb.e,hb.g,.l v⟩ s1 ρ1 n1 (Gn.mono n1.n hc.1) h1.2.2 h
  simp only [HX.den,HCX.den,Gn.agree n1.ag hc.1] at this
  exact this
 ·rename_i l e1 e2
  rw [e1] at hc
  have:=hk ⟨hb.e,hb.g,.l l⟩ st ρ (Nx.refl hi) hc.1 hc.2 h
  simp only [HX.den,HCX.den] at this
  show (match (hb.c.den ρ),P.bt hb.e with | .l l,some ts=>_ | .l l,none=>_ | _,_=>_)
  simp only [HX.den,e1,HCX.den,e2]
  exact this
 ·rename_i h1 h2
  have:=hk hb st ρ (Nx.refl hi) hc.1 hc.2 h
  show (match (hb.c.den ρ),P.bt hb.e with | .l l,some ts=>_ | .l l,none=>_ | _,_=>_)
  cases e1:hb.c with
  | l l=>
   cases e2:P.bt hb.e with
   | none=>exact absurd e2 (h2 l e1)
   | some ts=>exact absurd e2 (h1 l ts e1)
  | r T R n=>simp only [e1,HCX.den]; exact this
  | xs j=>simp only [e1,HCX.den]; exact this
  | rl T R n l=>simp only [e1,HCX.den]; exact this
  | dead=>simp only [e1,HCX.den]; exact this
theorem jGo {k:Nat}:∀ {n:Nat} {l:List HX} {st:Sx} {ρ:Rho} {Q':List HX→Sx→An} {Q:Hp→Prop},ok (sR P k n l st Q')→Inv G ρ st→scH st.n l=true →
  (∀ v st' ρ',Nx G ρ st ρ' st'→scH st'.n v=true→ok (Q' v st')→Q (denH ρ' v))→dS (P.C G) k (denH ρ st.H) n (denH ρ l) Q
 | 0,l,st,ρ,Q',Q,h,hi,hl,hk=>by
  simp only [sR] at h
  simp only [dS]
  exact hk [] st ρ (Nx.refl hi) rfl h
 | n+1,[],st,ρ,Q',Q,h,hi,hl,hk=>by simp only [sR] at h; exact (jC h).elim
 | n+1,hb::r,st,ρ,Q',Q,h,hi,hl,hk=>by
  simp only [sR] at h
  simp only [scH,Bool.and_eq_true] at hl
  show jUn (P.C G) k (denH ρ st.H) (hb.den ρ) fun hb=>dS (P.C G) k (denH ρ st.H) n (denH ρ r) fun r=>Q (hb::r)
  refine qBs h hi ⟨hl.1,hl.2.1⟩ fun h' s1 ρ1 n1 hg hc h=>?_
  rw [←n1.denH hi,←zM n1.ag hl.2.2]
  exact jGo (Q:=fun r=>Q (h'.den ρ1::r)) h n1.inv (uH n1.n hl.2.2) fun v s2 ρ2 n2 hs h=>by
   have:=hk (h'::v) s2 ρ2 (n1.trans n2) (by simp only [scH,Bool.and_eq_true]; exact ⟨Gn.mono n2.n hg,HCX.mono n2.n hc,hs⟩) h
   simp only [denH,List.map_cons,HX.den,Gn.agree n2.ag hg,HCX.agree n2.ag hc] at this
   exact this
theorem lL {v:SX} {H:List HX}:∀ {l:List bF} {j:Nat} {a:An},(nU np st v H l)[j]?=some a→∃ p,p∈l∧a=jCh np st v H p
 | [],j,a,h=>by simp [nU] at h
 | t::r,0,a,h=>by simp [nU] at h; exact ⟨t,List.mem_cons_self .., h.symm⟩
 | t::r,j+1,a,h=>by
  simp [nU] at h
  obtain ⟨t',h1,h2⟩:=lL h
  exact ⟨t',List.mem_cons_of_mem _ h1,h2⟩
theorem jWb {v:SX} {H:List HX} {p:bF} (h:ok (jCh np st v H p)) (hi:Inv G ρ st):∃ ρc:Rho,(∀ j,j<np→ρc j=ρ j)∧Fx G ρc p.F p.N p.B∧p.r.den ρc=v.den ρ∧denH ρc p.H=denH ρ H:=by
 obtain ⟨σ,h⟩:=mY h
 obtain ⟨h1,h⟩:=jHr hi h
 obtain ⟨h2,h⟩:=jHo hi h
 obtain ⟨h3,_⟩:=tV hi h
 rw [SX.inst_den] at h1
 rw [yM] at h2
 refine ⟨subst (qEv np σ) ρ,fun j hj=>?_,Fx.inst.1 h3,h1,h2⟩
 have hb:Nat.blt j np=true:=uJ.2 hj
 simp only [subst,qEv,hb,cond_true,qA,Gn.den,Nat.add_zero]
theorem qFh {f k:Nat} {posts:List bF} {res:List RV0} {Q:Q2} (e:Ev.E) (hb:Bs np ρ0 ρ st) (hi:Inv G ρ st) (h:ok (jNm P f k np posts res e st))
  (hp:∀ p,p∈posts→∀ ρ':Rho,(∀ j,j<np→ρ' j=ρ0 j)→Fx G ρ' p.F p.N p.B→Q (p.r.den ρ') (denH ρ' p.H)):qAb (P.C G) f k res Q e (denE ρ st.E) (denH ρ st.H):=by
 have key:∀ {A:An},A=(jPt P res st fun l st=>jJb P (P.sg f).2 (qEx l) st fun v fr st=>sR P k k st.H st fun H' st=>jL (Nat.ble (mH v) k&&(Nat.ble (bZ H') k&&pM k fr)) 174 (st.setE [(0,v)]) [] (jCp np ((st.setE [(0,v)]).setH H') v H' posts))→ok A →
   jDp (P.C G) (denE ρ st.E) (denH ρ st.H) res fun l=>can (P.C G) (denH ρ st.H) ((P.C G).sg f).2 (qAq l) fun v fr=>dS (P.C G) k (denH ρ st.H) k (denH ρ st.H) fun H'=>req (Nat.ble (uQ v) k&&Nat.ble (yT H') k&&pM k fr) (Q v H'):=by
  intro A hA h
  subst hA
  refine jJa h hi fun l s1 ρ1 n1 hl h=>?_
  rw [←qAr,←n1.denH hi]
  refine jTz _ h n1.inv (qEy hl) fun v fr s2 ρ2 n2 hv h=>?_
  rw [←n2.denH n1.inv]
  refine jGo h n2.inv n2.inv.h fun H' s3 ρ3 n3 hH h=>?_
  obtain ⟨h1,h⟩:=jB h
  simp only [Bool.and_eq_true] at h1
  rw [eZ,gM,h1.1,h1.2.1,h1.2.2]
  have i4:Inv G ρ3 ((s3.setE [(0,v)]).setH H'):=(n3.inv.setE (by simp only [scE,Bool.and_eq_true]; exact ⟨SX.mono n3.n hv,trivial⟩)).setH hH
  have b3:Bs np ρ0 ρ3 s3:=((hb.nx n1).nx n2).nx n3
  have fin:∀ {p:bF},p∈posts→ok (jCh np ((s3.setE [(0,v)]).setH H') v H' p)→Q (v.den ρ2) (denH ρ3 H'):=fun hpm h=>by
   obtain ⟨ρc,c1,c2,c3,c4⟩:=jWb h i4
   have:=hp _ hpm ρc (fun j hj=>(c1 j hj).trans (b3.ag j hj)) c2
   rw [c3,c4,n3.sx hv] at this
   exact this
  show Q (v.den ρ2) (denH ρ3 H')
  unfold jCp at h
  split at h
  ·exact fin (List.mem_cons_self ..) h
  ·obtain ⟨j,a,hj,ha,_⟩:=mL h
   obtain ⟨t,ht,rfl⟩:=lL hj
   exact fin ht ha
 cases e with
 | exit i=>exact (jC h).elim
 | nrm=>exact key rfl h
 | ret=>exact key rfl h
theorem jJq:∀ (l:List SX) (k:Nat),denE ρ (oT l k)=jGy (jQ ρ l) k
 | [],k=>rfl
 | v::r,k=>by simp only [oT,denE,jQ,jGy,jJq r (k+1)]
theorem jQa {n:Nat}:∀ {l:List SX} {k:Nat},scs n l=true→scE n (oT l k)=true
 | [],k,h=>rfl
 | v::r,k,h=>by simp only [scs,Bool.and_eq_true] at h; simp only [oT,scE,Bool.and_eq_true]; exact ⟨h.1,jQa h.2⟩
def okF (P:PX) (L:Nat) (f:Nat) (g:F) (ct:CtX) (an:Nat→Option Ann) (hs:Nat→Option (List LT)) (kd:Nat→Nat):Prop:=ok (xF P L f g ct an hs kd)∨(ok (xF1 P L f g ct an hs kd)∧ok (xF2 P L f g ct an hs kd))
theorem qMn (hG:bB G) (hP:PSc P) {Γ:qE} (hΓ:∀ d f l H Q,Gam P G d f l H Q→Γ d f l H Q) {L:Nat} (hL:0<L) {f:Nat} {g:F} {ct:CtX} {an:Nat→Option Ann} {hs:Nat→Option (List LT)} {kd:Nat→Nat} (h:okF P L f g ct an hs kd) {d:Nat} {l:List SV} {H:Hp} {Q:Q2} (hc:qFn G ct d l H Q):∃ d',d=d'+1∧wF (P.C G) Γ L d' f g l H Q:=by
 obtain ⟨ρ,c1,rfl,rfl,c4,c5⟩:=hc
 have h0:(Nat.ble (jP ct.args) g.nt&&jOc ct)=true:=by
  rcases h with h | ⟨h,_⟩
  ·unfold xF at h; exact (jB h).1
  ·unfold xF1 at h; exact (jB h).1
 rw [Bool.and_eq_true] at h0
 have hsc:=h0.2
 simp only [jOc,Bool.and_eq_true] at hsc
 obtain ⟨s1,s2,s3,s4,s5,s6,s7⟩:=hsc
 have hi:Inv G ρ ⟨ct.np,oT ct.args 0,ct.H,ct.F,ct.N,ct.B⟩:=⟨jQa s2,s3,aF.1 s4,aF.1 s5,oL.1 s6,c4.F,c4.N,c4.B⟩
 obtain ⟨hdep,h1,h2⟩:0≤(ct.dep.addc (-1)).ev ρ∧ok (xK P ct.dep L ct.np an hs kd g.body true 0 ⟨ct.np,oT ct.args 0,ct.H,ct.F,ct.N,ct.B⟩ (jNm P f (jP ct.H) ct.np ct.posts g.res))∧okW P ct.dep L ct.np an hs kd ⟨ct.np,oT ct.args 0,ct.H,ct.F,ct.N,ct.B⟩ g.body 0 (jNm P f (jP ct.H) ct.np ct.posts g.res):=by
  rcases h with h | ⟨h,h'⟩
  ·unfold xF at h
   obtain ⟨k1,k2⟩:=jE (jB h).2 hi
   exact ⟨k1,(qW k2).1,.inl (qW k2).2⟩
  ·unfold xF1 at h
   obtain ⟨k1,k2⟩:=jE (jB h).2 hi
   exact ⟨k1,(qW k2).1,.inr ⟨(qW k2).2,h'⟩⟩
 rw [jG] at hdep
 obtain ⟨d,rfl⟩:∃ d',d=d'+1:=⟨d - 1,by omega⟩
 refine ⟨d,rfl,?_⟩
 unfold wF
 have hl:Nat.ble (jP (jQ ρ ct.args)) g.nt=true:=by
  rw [zR,jBp]; exact h0.1
 rw [hl]
 show wK (P.C G) Γ L d g.body (jGy (jQ ρ ct.args) 0) (denH ρ ct.H) (qAb (P.C G) f (jP (denH ρ ct.H)) g.res Q)
 rw [←jJq,uZ]
 exact lP hG hP hΓ hL (npf:=ct.np) s7 (by have:=c1; omega) hi rfl g.body (top:=true) (id:=0) (np:=ct.np) (ρn:=ρ) (Nat.le_refl _) (fun _ _=>rfl) (fun _=>⟨rfl,h2⟩) h1 hi ⟨Nat.le_refl _,fun _ _=>rfl⟩
  (fun e st' ρ' hb' hi' h=>qFh e hb' hi' h c5)
def jD (a:An) (l:List Nat):Bool:=match a ⟨none,l⟩ with
 | .ok _=>true
 | .bad _ _ _=>false
theorem jA {a:An} {l:List Nat} (h:jD a l=true):ok a:=by
 unfold jD at h
 split at h
 ·rename_i s e; exact ⟨_,_,e⟩
 ·cases h
end
end
end Go.Proofs.YtngfdcnglojcaaaGreatDoor.Ev.Rf
end
section
set_option linter.all false
namespace Go.Proofs.YtngfdcnglojcaaaGreatDoor.Ev.Rf
noncomputable section
open Go Ev
inductive TBX where
 | l (n:Nat)
 | b (x y:TBX)
def TBX.get:TBX→Nat→Nat
 | .l n,i=>Nat.mod (Nat.shiftRight n (Nat.mul 28 i)) 268435456
 | .b x y,i=>jY (Nat.div i 2) fun j=>bif Nat.beq (Nat.mod i 2) 0 then x.get j else y.get j
def dig:Nat→Nat→Nat→List Nat→List Nat
 | 0,_,v,r=>v::r
 | k+1,m,v,r=>match r with
  | []=>[v]
  | x::r=>jY (Nat.add v (Nat.mul x m)) fun v=>jY (Nat.mul m 1024) fun m=>dig k m v r
def exS (t:TBX):Nat→Nat→List Nat→List Nat
 | 0,_,r=>r
 | f+1,s,r=>jY (t.get s) fun e=>jY (Nat.mod e 16384) fun a=>jY (Nat.div e 16384) fun b=>
  bif Nat.blt a 16382 then exS t f a (exS t f b r) else bif Nat.beq a 16383 then b::r else dig b 1 0 r
def rdS {α:Type} (n:Nat) (k:Nat→Nat→α):α:=
 jY (Nat.mod n 16) fun a=>jY (Nat.div n 16) fun n=>
 bif Nat.blt a 6 then jY (Nat.add (Nat.mul a 16) (Nat.mod n 16)) fun s=>jY (Nat.div n 16) fun n=>k s n
 else bif Nat.blt a 14 then jY (Nat.add (Nat.add 96 (Nat.mul (Nat.sub a 6) 256)) (Nat.mod n 256)) fun s=>jY (Nat.div n 256) fun n=>k s n
 else jY (Nat.add (Nat.add 2144 (Nat.mul (Nat.sub a 14) 4096)) (Nat.mod n 4096)) fun s=>jY (Nat.div n 4096) fun n=>k s n
def ex1 (t:TBX):Nat→Nat→List Nat→List Nat
 | 0,_,r=>r
 | k+1,n,r=>rdS n fun s n=>exS t 64 s (ex1 t k n r)
def exN (t:TBX):List (Nat×Nat)→List Nat
 | []=>[]
 | p::r=>ex1 t p.1 p.2 (exN t r)
section
variable {γ α β:Type}
def rN (l:List Nat) (k:Nat→List Nat→γ):γ:=match l with
 | []=>k 0 []
 | x::r=>jY x fun x=>k x r
def rI (l:List Nat) (k:Int→List Nat→γ):γ:=rN l fun n l=>bif Nat.beq (Nat.mod n 2) 0 then jY (Nat.div n 2) fun m=>k (.ofNat m) l else jY (Nat.div n 2) fun m=>k (.negSucc m) l
def rLs (f:List Nat→(α→List Nat→γ)→γ):Nat→List Nat→(List α→List Nat→γ)→γ
 | 0,l,k=>k [] l
 | n+1,l,k=>f l fun x l=>rLs f n l fun xs l=>k (x::xs) l
def rL (f:List Nat→(α→List Nat→γ)→γ) (l:List Nat) (k:List α→List Nat→γ):γ:=rN l fun n l=>rLs f n l k
def rP (f:List Nat→(α→List Nat→γ)→γ) (g:List Nat→(β→List Nat→γ)→γ) (l:List Nat) (k:α×β→List Nat→γ):γ:=f l fun x l=>g l fun y l=>k (x,y) l
def rO (f:List Nat→(α→List Nat→γ)→γ) (l:List Nat) (k:Option α→List Nat→γ):γ:=rN l fun n l=>bif Nat.beq n 0 then k none l else f l fun x l=>k (some x) l
def rB (l:List Nat) (k:Bool→List Nat→γ):γ:=rN l fun n l=>bif Nat.beq n 0 then k false l else k true l
def rT (l:List Nat) (k:LT→List Nat→γ):γ:=rI l fun c l=>rL (rP rN rI) l fun m l=>k ⟨c,m⟩ l
def rK (l:List Nat) (k:IntKind→List Nat→γ):γ:=rN l fun n l=>match n with
 | 0=>k .i64 l
 | 1=>k .u8 l
 | _=>k .i32 l
def rG (l:List Nat) (k:Gn→List Nat→γ):γ:=rN l fun v l=>rN l fun o l=>k ⟨v,o⟩ l
def rX:Nat→List Nat→(SX→List Nat→γ)→γ
 | 0,l,k=>k .p0 l
 | f+1,l,k=>rN l fun t l=>match t with
  | 0=>rB l fun x l=>k (.b x) l
  | 1=>rT l fun x l=>k (.bv x) l
  | 2=>rK l fun i l=>rT l fun x l=>k (.i i x) l
  | 3=>rT l fun x l=>rT l fun y l=>k (.s x y) l
  | 4=>k .p0 l
  | 5=>k .sl0 l
  | 6=>rN l fun i l=>rG l fun g l=>rN l fun o l=>k (.tp i g o) l
  | 7=>rN l fun i l=>rG l fun g l=>rT l fun x l=>rN l fun o l=>k (.te i g x o) l
  | 8=>rN l fun i l=>rG l fun g l=>rT l fun x l=>rN l fun o l=>k (.ts i g x o) l
  | 9=>rN l fun i l=>rT l fun x l=>rT l fun y l=>k (.q i x y) l
  | 10=>rN l fun i l=>rT l fun x l=>rN l fun o l=>k (.qp i x o) l
  | 11=>rN l fun i l=>k (.qs i) l
  | 12=>rT l fun x l=>rT l fun y l=>k (.xs x y) l
  | 13=>rN l fun i l=>rL (rX f) l fun x l=>rL (rX f) l fun y l=>k (.f i x y) l
  | 14=>rL (rX f) l fun x l=>k (.agg x) l
  | 15=>rL (rX f) l fun x l=>k (.tup x) l
  | 16=>rT l fun x l=>k (.fis x) l
  | _=>k .fqs l
def rC (l:List Nat) (k:HCX→List Nat→γ):γ:=rN l fun t l=>match t with
 | 0=>rL (rX 9) l fun x l=>k (.l x) l
 | 1=>rN l fun i l=>rT l fun x l=>rT l fun y l=>k (.r i x y) l
 | 2=>rN l fun i l=>k (.xs i) l
 | 3=>rN l fun i l=>rT l fun x l=>rT l fun y l=>rL (rX 9) l fun m l=>k (.rl i x y m) l
 | _=>k .dead l
def rH (l:List Nat) (k:HX→List Nat→γ):γ:=rN l fun e l=>rG l fun g l=>rC l fun c l=>k ⟨e,g,c⟩ l
def rE (l:List Nat) (k:TE→List Nat→γ):γ:=rN l fun t l=>match t with
 | 0=>rT l fun x l=>rT l fun y l=>rT l fun z l=>k (.by_ x y z) l
 | 1=>rN l fun i l=>rT l fun x l=>rT l fun y l=>rT l fun z l=>k (.el i x y z) l
 | 2=>rN l fun i l=>rT l fun x l=>rT l fun y l=>k (.ln i x y) l
 | 3=>rN l fun i l=>rL (rX 9) l fun x l=>rX 9 l fun y l=>k (.ca i x y) l
 | 4=>rT l fun x l=>rI l fun y l=>rT l fun z l=>k (.dv x y z) l
 | _=>rT l fun x l=>rT l fun y l=>rT l fun z l=>rT l fun w l=>k (.ng x y z w) l
def rPo (l:List Nat) (k:bF→List Nat→γ):γ:=rN l fun n l=>rL rT l fun F l=>rL rT l fun N l=>rL rE l fun B l=>rX 9 l fun r l=>rL rH l fun H l=>k ⟨n,F,N,B,r,H⟩ l
def rCt (l:List Nat) (k:CtX→List Nat→γ):γ:=rN l fun n l=>rT l fun d l=>rL (rX 9) l fun a l=>rL rH l fun H l=>rL rT l fun F l=>rL rT l fun N l=>rL rE l fun B l=>rL rPo l fun p l=>k ⟨n,d,a,H,F,N,B,p⟩ l
def rAl (l:List Nat) (k:Alt→List Nat→γ):γ:=rN l fun n l=>rL (rP rN (rX 9)) l fun E l=>rO (rL (rO rH)) l fun H l=>rL rT l fun F l=>rL rT l fun N l=>rL rE l fun B l=>rT l fun m l=>k ⟨n,E,H,F,N,B,m⟩ l
def rCv (l:List Nat) (k:CvX→List Nat→γ):γ:=rN l fun t l=>match t with
 | 0=>rN l fun x l=>rN l fun y l=>k (.lit x y) l
 | 1=>rN l fun x l=>k (.frz x) l
 | 2=>rN l fun x l=>rN l fun y l=>rC l fun c l=>k (.slot x y c) l
 | _=>rN l fun x l=>rN l fun y l=>rN l fun z l=>rC l fun c l=>k (.cell x y z c) l
def rAn (l:List Nat) (k:Ann→List Nat→γ):γ:=rB l fun o l=>rL rN l fun ks l=>rL rT l fun sp l=>rL rT l fun se l=>rL (rP rCv rN) l fun cv l=>rL rAl l fun as_ l=>k ⟨o,ks,sp,se,cv,as_⟩ l
end
def kH {α:Type}:List (Nat×α)→Nat→List α
 | [],_=>[]
 | p::r,f=>bif Nat.beq p.1 f then p.2::kH r f else kH r f
def jLg {α:Type}:List (Nat×α)→Nat→Option α
 | [],_=>none
 | p::r,f=>bif Nat.beq p.1 f then some p.2 else jLg r f
def dC (t:TBX) (l:List (Nat×Nat)):CtX:=rCt (exN t l) fun c _=>c
def dA (t:TBX) (l:List (Nat×Nat)):Nat→Option Ann:=jLg (rL (rP rN rAn) (exN t l) fun c _=>c)
def dH (t:TBX) (l:List (Nat×Nat)):Nat→Option (List LT):=jLg (rL (rP rN (rL rT)) (exN t l) fun c _=>c)
def dK (t:TBX) (l:List (Nat×Nat)) (n:Nat):Nat:=match jLg (rL (rP rN rN) (exN t l) fun c _=>c) n with
 | some x=>x
 | none=>0
end
end Go.Proofs.YtngfdcnglojcaaaGreatDoor.Ev.Rf
end
