/-
Moves of memory, further: a block is laid anew, a row of nothing tM, a block is shared. No program is named here.
-/
import Derived.Test.YtdlhiljbhepliaaGreatDoorWa
namespace Go.Proofs.YtdlhiljbhepliaaGreatDoor.Ev
noncomputable section
set_option linter.all false
open Go
section
variable {C:Cx} {W W':Wd} {H H':Hp} {σ σ':Mem}
theorem uE {i:Nat} {hb hb':HB} (hi:H[i]?=some hb):(jG H i hb')[i]?=some hb':=by rw [kC,if_pos ⟨rfl,(List.getElem?_eq_some_iff.1 hi).1⟩]
theorem uF {i j:Nat} {hb':HB} (h:j≠i):(jG H i hb')[j]?=H[j]?:=by rw [kC,if_neg (fun q=>h q.1)]
theorem yQ {i j:Nat} {hb hb' x:HB} (hi:H[i]?=some hb) (hx:(jG H i hb')[j]?=some x):(j=i∧x=hb')∨(j≠i∧H[j]?=some x):=by
 by_cases e:j=i
 ·subst e; rw [uE hi] at hx; cases hx; exact .inl ⟨rfl,rfl⟩
 ·rw [uF e] at hx; exact .inr ⟨e,hx⟩
theorem qDr (h:Rl C W H σ) {i:Nat} {hb hb':HB} (hi:H[i]?=some hb) (hg:hb'.g=hb.g+1) (hl:qB hb'.c)
  {blk:xY} (he:blk.elem=hb'.e) (hpl:blk.plain=true)
  (hnew:σ'.t.get σ.nx=some blk) (hold:∀ b,b<σ.nx→(qB hb.c→b≠W.as i)→σ'.t.get b=σ.t.get b) (hnx:σ'.nx=σ.nx+1)
  (hc:∀ W',On C W H σ W' (jG H i hb') σ'→zD C W' (jG H i hb') σ' hb'.c blk.cells) :
  ∃ W',Rl C W' (jG H i hb') σ'∧Mv W H σ W' (jG H i hb') σ'∧Tc ⟨false,[i]⟩ W H σ W' (jG H i hb') σ'∧W'.as i=σ.nx:=by
 let W':Wd:=⟨W.A,W.K,fun j=>if j=i then σ.nx else W.as j⟩
 have hi':W'.as i=σ.nx:=if_pos rfl;have has:∀ j,j≠i→W'.as j=W.as j:=fun j hj=>if_neg hj;have hAi:qB hb.c→¬ W.A (W.as i)∧W.K (W.as i)=none:=fun q=>h.nA i hb hi q;have oldA:∀ b,W.A b→σ'.t.get b=σ.t.get b:=fun b hb'=>hold b (h.A b hb').1 fun q e=>(hAi q).1 (by rw [←e]; exact hb')
 have oldK:∀ b x,W.K b=some x→σ'.t.get b=σ.t.get b:=fun b x hx=>hold b (h.K b x hx).1 fun q e=>by rw [e,(hAi q).2] at hx; cases hx
 have oldH:∀ (j:Nat) (x:HB),j≠i→H[j]?=some x→qB x.c→σ'.t.get (W.as j)=σ.t.get (W.as j):=fun j x hj hx hlx=>hold _ (h.lt j x hx hlx) fun q e=>hj (h.inj j i x hb hx hi hlx q e);have go:Go' W σ W' σ':=⟨fun _ h=>h,fun _ _ h=>h,fun b hbA x hx=>⟨x,by rw [oldA b hbA]; exact hx,Shp.rfl' x⟩,fun b x hx hgx=>by rw [oldK b x hx]; exact hgx⟩
 have hp:kY W H W' (jG H i hb'):=by
  intro j x hx;by_cases e:j=i
  ·subst e;rw [hi] at hx; cases hx;exact ⟨hb',uE hi,by omega,fun q=>by omega⟩
  ·exact ⟨x,by rw [uF e]; exact hx,Nat.le_refl _,fun _=>⟨has j e,zV.refl _⟩⟩
 have on:On C W H σ W' (jG H i hb') σ':=⟨go,hp,h.kok⟩;refine ⟨W',⟨?_,?_,?_,?_,?_,?_⟩,⟨go,hp,by omega,?_,fun b _ q=>.inl q,fun b _ q=>.inl q,?_⟩,?_,hi'⟩
 ·intro j k x y hx hy hlx hly q;rcases yQ hi hx with ⟨ej,ex⟩ | ⟨hj,hx2⟩<;>rcases yQ hi hy with ⟨ek,ey⟩ | ⟨hk,hy2⟩
  ·rw [ej,ek]
  ·rw [ej,hi',has k hk] at q; have:=h.lt k y hy2 hly; omega
  ·rw [ek,hi',has j hj] at q; have:=h.lt j x hx2 hlx; omega
  ·rw [has j hj,has k hk] at q; exact h.inj j k x y hx2 hy2 hlx hly q
 ·intro j x hx hlx;rcases yQ hi hx with ⟨rfl,rfl⟩ | ⟨hj,hx⟩
  ·exact ⟨blk,by rw [hi']; exact hnew,he,hpl,hc W' on⟩
  ·obtain ⟨b0,g1,g2,g3,g4⟩:=h.blk j x hx hlx;exact ⟨b0,by rw [has j hj,oldH j x hj hx hlx]; exact g1,g2,g3,g4.on on⟩
 ·intro j x hx hlx;rcases yQ hi hx with ⟨rfl,rfl⟩ | ⟨hj,hx⟩
  ·rw [hi']; omega
  ·have:=h.lt j x hx hlx; rw [has j hj]; omega
 ·intro j x hx hlx;rcases yQ hi hx with ⟨rfl,rfl⟩ | ⟨hj,hx⟩
  ·rw [hi'];refine ⟨fun q=>by have:=(h.A _ q).1; omega,?_⟩
   show W.K σ.nx=none;cases q:W.K σ.nx with
   | none=>rfl
   | some x=>have:=(h.K _ _ q).1; omega
  ·rw [has j hj]; exact h.nA j x hx hlx
 ·intro b hb;obtain ⟨g1,⟨x,g2⟩,g3⟩:=h.A b hb;exact ⟨by omega,⟨x,by rw [oldA b hb]; exact g2⟩,g3⟩
 ·intro b x hx;obtain ⟨g1,g2⟩:=h.K b x hx;exact ⟨by omega,go.kk b x hx g2⟩
 ·intro b hlt h1 h2;exact hold b hlt fun q e=>h2 ⟨i,hb,hi,q,e.symm⟩
 ·rintro b hlt ⟨j,x,hx,hlx,q⟩;rcases yQ hi hx with ⟨rfl,rfl⟩ | ⟨hj,hx⟩
  ·rw [hi'] at q; omega
  ·rw [has j hj] at q; exact ⟨j,x,hx,hlx,q⟩
 ·intro κ hκ b;cases κ with
  | h j=>
   have hj:j≠i:=by have:=uW hκ; simpa using this
   refine ⟨by simp only [vS,uF hj,has j hj],fun hk=>?_⟩
   obtain ⟨x,hx,hlx,rfl⟩:=hk;exact oldH j x hj hx hlx
  | a=>
   refine ⟨Iff.rfl,fun hk=>?_⟩;rcases hk with hk | hk
   ·exact oldA b hk
   ·obtain ⟨x,hx⟩:=Option.isSome_iff_exists.1 hk;exact oldK b x hx
  | c=>
   refine ⟨Iff.rfl,fun hk=>?_⟩;obtain ⟨x,hx⟩:=Option.isSome_iff_exists.1 hk;exact oldK b x hx
theorem jBk (h:Rl C W H σ) {hb':HB} (hl:¬ qB hb'.c):Rl C W (H++[hb']) σ∧Mv W H σ W (H++[hb']) σ∧Tc ⟨false,[H.length]⟩ W H σ W (H++[hb']) σ:=by
 have hgetl:∀ (j:Nat) (x:HB),H[j]?=some x→(H++[hb'])[j]?=some x:=fun j x hx=>by rw [List.getElem?_append_left (List.getElem?_eq_some_iff.1 hx).1]; exact hx
 have old:∀ (j:Nat) (x:HB),(H++[hb'])[j]?=some x→qB x.c→H[j]?=some x:=by
  intro j x hx hlx;by_cases hj:j<H.length
  ·rw [List.getElem?_append_left hj] at hx; exact hx
  ·rw [List.getElem?_append_right (by omega)] at hx
   cases q:j - H.length with
   | zero=>rw [q] at hx; simp at hx; subst hx; exact (hl hlx).elim
   | succ n=>rw [q] at hx; simp at hx
 have hp:kY W H W (H++[hb']):=fun j x hx=>⟨x,hgetl j x hx,Nat.le_refl _,fun _=>⟨rfl,zV.refl _⟩⟩;have on:On C W H σ W (H++[hb']) σ:=⟨Go'.refl,hp,h.kok⟩;have own:∀ b,Own W (H++[hb']) b→Own W H b:=fun b ⟨j,x,hx,hlx,e⟩=>⟨j,x,old j x hx hlx,hlx,e⟩;refine ⟨⟨fun j k x y hx hy hlx hly q=>h.inj j k x y (old j x hx hlx) (old k y hy hly) hlx hly q,fun j x hx hlx=>?_,fun j x hx hlx=>h.lt j x (old j x hx hlx) hlx,fun j x hx hlx=>h.nA j x (old j x hx hlx) hlx,h.A,h.K⟩,⟨Go'.refl,hp,Nat.le_refl _,fun _ _ _ _=>rfl,fun _ _ q=>.inl q,fun _ _ q=>.inl q,fun b _ q=>own b q⟩,?_⟩
 ·obtain ⟨b0,g1,g2,g3,g4⟩:=h.blk j x (old j x hx hlx) hlx;exact ⟨b0,g1,g2,g3,g4.on on⟩
 ·intro κ hκ b;refine ⟨?_,fun _=>rfl⟩;cases κ with
  | h j=>exact ⟨fun ⟨x,hx,hlx,e⟩=>⟨x,hgetl j x hx,hlx,e⟩,fun ⟨x,hx,hlx,e⟩=>⟨x,old j x hx hlx,hlx,e⟩⟩
  | a=>exact Iff.rfl
  | c=>exact Iff.rfl
theorem qDu (h:Rl C W H σ) {i:Nat} {hb hb':HB} (hi:H[i]?=some hb) (hg:hb.g<hb'.g) (hl:¬ qB hb'.c) :
  Rl C W (jG H i hb') σ∧Mv W H σ W (jG H i hb') σ∧Tc ⟨false,[i]⟩ W H σ W (jG H i hb') σ:=by
 have old:∀ (j:Nat) (x:HB),(jG H i hb')[j]?=some x→qB x.c→H[j]?=some x:=by
  intro j x hx hlx;rcases yQ hi hx with ⟨rfl,rfl⟩ | ⟨hj,hx⟩
  ·exact absurd hlx hl
  ·exact hx
 have hp:kY W H W (jG H i hb'):=by
  intro j x hx;by_cases e:j=i
  ·subst e;rw [hi] at hx; cases hx;exact ⟨hb',uE hi,by omega,fun q=>by omega⟩
  ·exact ⟨x,by rw [uF e]; exact hx,Nat.le_refl _,fun _=>⟨rfl,zV.refl _⟩⟩
 have on:On C W H σ W (jG H i hb') σ:=⟨Go'.refl,hp,h.kok⟩;have own:∀ b,Own W (jG H i hb') b→Own W H b:=by
  rintro b ⟨j,x,hx,hlx,e⟩;exact ⟨j,x,old j x hx hlx,hlx,e⟩
 refine ⟨⟨fun j k x y hx hy hlx hly q=>h.inj j k x y (old j x hx hlx) (old k y hy hly) hlx hly q,fun j x hx hlx=>?_,fun j x hx hlx=>h.lt j x (old j x hx hlx) hlx,fun j x hx hlx=>h.nA j x (old j x hx hlx) hlx,h.A,h.K⟩,⟨Go'.refl,hp,Nat.le_refl _,fun _ _ _ _=>rfl,fun _ _ q=>.inl q,fun _ _ q=>.inl q,fun b _ q=>own b q⟩,?_⟩
 ·obtain ⟨b0,g1,g2,g3,g4⟩:=h.blk j x (old j x hx hlx) hlx;exact ⟨b0,g1,g2,g3,g4.on on⟩
 ·intro κ hκ b;refine ⟨?_,fun _=>rfl⟩;cases κ with
  | h j=>
   have hj:j≠i:=by
    intro q; subst q;simp [hM,sU] at hκ
   simp only [vS,uF hj]
  | a=>exact Iff.rfl
  | c=>exact Iff.rfl
theorem qGv (h:Rl C W H σ) {i:Nat} {hb hb':HB} (hi:H[i]?=some hb) (hg:hb.g<hb'.g) (he:hb'.e=hb.e) (hc:(qB hb'.c↔qB hb.c)∧∀ (W':Wd) (H':Hp) (σ':Mem) (cs:List AV),zD C W' H' σ' hb.c cs→zD C W' H' σ' hb'.c cs) :
  Rl C W (jG H i hb') σ∧Mv W H σ W (jG H i hb') σ∧Tc ⟨false,[i]⟩ W H σ W (jG H i hb') σ:=by
 have old:∀ (j:Nat) (x:HB),(jG H i hb')[j]?=some x→∃ y:HB,H[j]?=some y∧((qB x.c↔qB y.c)∧∀ (W':Wd) (H':Hp) (σ':Mem) (cs:List AV),zD C W' H' σ' y.c cs→zD C W' H' σ' x.c cs)∧y.e=x.e:=by
  intro j x hx;rcases yQ hi hx with ⟨rfl,rfl⟩ | ⟨hj,hx⟩
  ·exact ⟨hb,hi,hc,he.symm⟩
  ·exact ⟨x,hx,⟨Iff.rfl,fun _ _ _ _ q=>q⟩,rfl⟩
 have hp:kY W H W (jG H i hb'):=by
  intro j x hx;by_cases e:j=i
  ·subst e;rw [hi] at hx; cases hx;exact ⟨hb',uE hi,by omega,fun q=>by omega⟩
  ·exact ⟨x,by rw [uF e]; exact hx,Nat.le_refl _,fun _=>⟨rfl,zV.refl _⟩⟩
 have on:On C W H σ W (jG H i hb') σ:=⟨Go'.refl,hp,h.kok⟩;have own:∀ b,Own W (jG H i hb') b→Own W H b:=by
  rintro b ⟨j,x,hx,hlx,e⟩;obtain ⟨y,hy,e1,_⟩:=old j x hx;exact ⟨j,y,hy,e1.1.1 hlx,e⟩
 refine ⟨⟨fun j k x y hx hy hlx hly q=>?_,fun j x hx hlx=>?_,fun j x hx hlx=>?_,fun j x hx hlx=>?_,h.A,h.K⟩,⟨Go'.refl,hp,Nat.le_refl _,fun _ _ _ _=>rfl,fun _ _ q=>.inl q,fun _ _ q=>.inl q,fun b _ q=>own b q⟩,?_⟩
 ·obtain ⟨x',hx',e1,_⟩:=old j x hx;obtain ⟨y',hy',e2,_⟩:=old k y hy;exact h.inj j k x' y' hx' hy' (e1.1.1 hlx) (e2.1.1 hly) q
 ·obtain ⟨x',hx',e1,e2⟩:=old j x hx;obtain ⟨b0,g1,g2,g3,g4⟩:=h.blk j x' hx' (e1.1.1 hlx);refine ⟨b0,g1,by rw [g2,e2],g3,?_⟩
  exact e1.2 _ _ _ _ (g4.on on)
 ·obtain ⟨x',hx',e1,_⟩:=old j x hx;exact h.lt j x' hx' (e1.1.1 hlx)
 ·obtain ⟨x',hx',e1,_⟩:=old j x hx;exact h.nA j x' hx' (e1.1.1 hlx)
 ·intro κ hκ b;refine ⟨?_,fun _=>rfl⟩;cases κ with
  | h j=>
   have hj:j≠i:=by have:=uW hκ; simpa using this
   simp only [vS,uF hj]
  | a=>exact Iff.rfl
  | c=>exact Iff.rfl
theorem jUf (h:Rl C W H σ) {i:Nat} {hb hb':HB} (hi:H[i]?=some hb) (hg:hb.g<hb'.g) (he:hb'.e=hb.e) (hl:qB hb'.c↔qB hb.c)
  (hcell:∀ blk,σ.t.get (W.as i)=some blk→zD C W H σ hb.c blk.cells→zD C W H σ hb'.c blk.cells) :
  Rl C W (jG H i hb') σ∧Mv W H σ W (jG H i hb') σ∧Tc ⟨false,[i]⟩ W H σ W (jG H i hb') σ:=by
 have old:∀ (j:Nat) (x:HB),(jG H i hb')[j]?=some x→∃ y:HB,H[j]?=some y∧(qB x.c↔qB y.c)∧y.e=x.e∧(∀ blk,σ.t.get (W.as j)=some blk→zD C W H σ y.c blk.cells→zD C W H σ x.c blk.cells):=by
  intro j x hx;rcases yQ hi hx with ⟨rfl,rfl⟩ | ⟨hj,hx⟩
  ·exact ⟨hb,hi,hl,he.symm,hcell⟩
  ·exact ⟨x,hx,Iff.rfl,rfl,fun _ _ q=>q⟩
 have hp:kY W H W (jG H i hb'):=by
  intro j x hx;by_cases e:j=i
  ·subst e;rw [hi] at hx; cases hx;exact ⟨hb',uE hi,by omega,fun q=>by omega⟩
  ·exact ⟨x,by rw [uF e]; exact hx,Nat.le_refl _,fun _=>⟨rfl,zV.refl _⟩⟩
 have on:On C W H σ W (jG H i hb') σ:=⟨Go'.refl,hp,h.kok⟩;have own:∀ b,Own W (jG H i hb') b→Own W H b:=by
  rintro b ⟨j,x,hx,hlx,e⟩;obtain ⟨y,hy,e1,_⟩:=old j x hx;exact ⟨j,y,hy,e1.1 hlx,e⟩
 refine ⟨⟨fun j k x y hx hy hlx hly q=>?_,fun j x hx hlx=>?_,fun j x hx hlx=>?_,fun j x hx hlx=>?_,h.A,h.K⟩,⟨Go'.refl,hp,Nat.le_refl _,fun _ _ _ _=>rfl,fun _ _ q=>.inl q,fun _ _ q=>.inl q,fun b _ q=>own b q⟩,?_⟩
 ·obtain ⟨x',hx',e1,_⟩:=old j x hx;obtain ⟨y',hy',e2,_⟩:=old k y hy;exact h.inj j k x' y' hx' hy' (e1.1 hlx) (e2.1 hly) q
 ·obtain ⟨x',hx',e1,e2,e3⟩:=old j x hx;obtain ⟨b0,g1,g2,g3,g4⟩:=h.blk j x' hx' (e1.1 hlx);refine ⟨b0,g1,by rw [g2,e2],g3,?_⟩
  exact (e3 b0 g1 g4).on on
 ·obtain ⟨x',hx',e1,_⟩:=old j x hx;exact h.lt j x' hx' (e1.1 hlx)
 ·obtain ⟨x',hx',e1,_⟩:=old j x hx;exact h.nA j x' hx' (e1.1 hlx)
 ·intro κ hκ b;refine ⟨?_,fun _=>rfl⟩;cases κ with
  | h j=>
   have hj:j≠i:=by have:=uW hκ; simpa using this
   simp only [vS,uF hj]
  | a=>exact Iff.rfl
  | c=>exact Iff.rfl
def isX:HC→Bool
 | .xs _=>true
 | .xr _ _=>true
 | _=>false
def kX (W:Wd) (H:Hp) (σ:Mem) (Wf:Wd) (i:Nat):Prop:=∀ hb:HB,H[i]?=some hb→qB hb.c→(isX hb.c=true→∃ blk,σ.t.get (W.as i)=some blk∧Wf.K (W.as i)=some blk)∧(isX hb.c=false→Wf.A (W.as i))
theorem lK {i:Nat} {hb:HB} (hi:H[i]?=some hb):dead H i=jG H i ⟨hb.e,Nat.succ hb.g,.dead⟩:=by
 unfold dead; rw [jZ,hi]
theorem lJ {i:Nat} (hi:H[i]?=none):dead H i=H:=by
 unfold dead; rw [jZ,hi]
theorem eJ (h:Rl C W H σ) (i:Nat):∃ Wf:Wd,Rl C Wf (dead H i) σ∧Mv W H σ Wf (dead H i) σ∧Tc ⟨true,[i]⟩ W H σ Wf (dead H i) σ∧kX W H σ Wf i∧Wf.as=W.as ∧
  (∀ b,Wf.A b→W.A b∨∃ hb:HB,H[i]?=some hb∧qB hb.c∧isX hb.c=false∧W.as i=b)∧(∀ b x,Wf.K b=some x→W.K b=some x∨∃ hb:HB,H[i]?=some hb∧qB hb.c∧isX hb.c=true∧W.as i=b):=by
 cases hi:H[i]? with
 | none=>
  rw [lJ hi];exact ⟨W,h,Mv.refl,Tc.refl _ _ _ _,fun hb e=>(by rw [hi] at e; cases e),rfl,fun b q=>.inl q,fun b x q=>.inl q⟩
 | some hb=>
  rw [lK hi];have hsub:∀ (Wf:Wd),Wf.as=W.as→(∀ b,W.A b→Wf.A b)→(∀ b x,W.K b=some x→Wf.K b=some x)→(∀ b,Wf.A b→W.A b∨(qB hb.c∧isX hb.c=false∧W.as i=b))→(∀ b x,Wf.K b=some x→W.K b=some x∨(qB hb.c∧isX hb.c=true∧W.as i=b∧σ.t.get b=some x)) →
    Rl C Wf (jG H i ⟨hb.e,Nat.succ hb.g,.dead⟩) σ∧Mv W H σ Wf (jG H i ⟨hb.e,Nat.succ hb.g,.dead⟩) σ∧Tc ⟨true,[i]⟩ W H σ Wf (jG H i ⟨hb.e,Nat.succ hb.g,.dead⟩) σ:=by
   intro Wf eas hA hK hA' hK';have go:Go' W σ Wf σ:=⟨hA,hK,fun b _ x hx=>⟨x,hx,Shp.rfl' x⟩,fun b x _ hx=>hx⟩;have hp:kY W H Wf (jG H i ⟨hb.e,Nat.succ hb.g,.dead⟩):=by
    intro j x hx;by_cases e:j=i
    ·subst e;rw [hi] at hx; cases hx;exact ⟨_,uE hi,Nat.le_succ _,fun q=>absurd q (Nat.succ_ne_self _)⟩
    ·exact ⟨x,by rw [uF e]; exact hx,Nat.le_refl _,fun _=>⟨by rw [eas],zV.refl _⟩⟩
   have on:On C W H σ Wf (jG H i ⟨hb.e,Nat.succ hb.g,.dead⟩) σ:=⟨go,hp,h.kok⟩;have old:∀ (j:Nat) (x:HB),(jG H i ⟨hb.e,Nat.succ hb.g,.dead⟩)[j]?=some x→qB x.c→j≠i∧H[j]?=some x:=by
    intro j x hx hlx;rcases yQ hi hx with ⟨rfl,rfl⟩ | ⟨hj,hx⟩
    ·exact hlx.elim
    ·exact ⟨hj,hx⟩
   refine ⟨⟨?_,?_,?_,?_,?_,?_⟩,⟨go,hp,Nat.le_refl _,fun _ _ _ _=>rfl,?_,?_,?_⟩,?_⟩
   ·intro j k x y hx hy hlx hly q;rw [eas] at q;exact h.inj j k x y (old j x hx hlx).2 (old k y hy hly).2 hlx hly q
   ·intro j x hx hlx;obtain ⟨b0,g1,g2,g3,g4⟩:=h.blk j x (old j x hx hlx).2 hlx;exact ⟨b0,by rw [eas]; exact g1,g2,g3,g4.on on⟩
   ·intro j x hx hlx; rw [eas]; exact h.lt j x (old j x hx hlx).2 hlx
   ·intro j x hx hlx;obtain ⟨hj,hx'⟩:=old j x hx hlx;obtain ⟨n1,n2⟩:=h.nA j x hx' hlx;rw [eas];refine ⟨fun q=>?_,?_⟩
    ·rcases hA' _ q with q | ⟨q1,_,q3⟩
     ·exact n1 q
     ·exact hj (h.inj j i x hb hx' hi hlx q1 q3.symm)
    ·cases q:Wf.K (W.as j) with
     | none=>rfl
     | some z=>
      rcases hK' _ _ q with q | ⟨q1,_,q3,_⟩
      ·rw [n2] at q; cases q
      ·exact absurd (h.inj j i x hb hx' hi hlx q1 q3.symm) hj
   ·intro b hb2;rcases hA' _ hb2 with q | ⟨q1,q2,rfl⟩
    ·obtain ⟨g1,g2,g3⟩:=h.A b q;refine ⟨g1,g2,?_⟩;cases z:Wf.K b with
     | none=>rfl
     | some x=>
      rcases hK' _ _ z with z | ⟨z1,_,rfl,_⟩
      ·rw [g3] at z; cases z
      ·exact absurd q (h.nA i hb hi z1).1
    ·obtain ⟨b0,g1,_⟩:=h.blk i hb hi q1;refine ⟨h.lt i hb hi q1,⟨b0,g1⟩,?_⟩;cases z:Wf.K (W.as i) with
     | none=>rfl
     | some x=>
      rcases hK' _ _ z with z | ⟨_,z2,_⟩
      ·rw [(h.nA i hb hi q1).2] at z; cases z
      ·rw [q2] at z2; cases z2
   ·intro b x hx;rcases hK' _ _ hx with q | ⟨q1,_,rfl,q4⟩
    ·exact h.K b x q
    ·exact ⟨h.lt i hb hi q1,q4⟩
   ·intro b _ q;rcases hA' _ q with q | ⟨q1,_,q3⟩
    ·exact .inl q
    ·exact .inr ⟨i,hb,hi,q1,q3⟩
   ·intro b _ q;obtain ⟨x,hx⟩:=Option.isSome_iff_exists.1 q;rcases hK' _ _ hx with q | ⟨q1,_,q3,_⟩
    ·left; rw [q]; rfl
    ·exact .inr ⟨i,hb,hi,q1,q3⟩
   ·rintro b _ ⟨j,x,hx,hlx,e⟩;rw [eas] at e;exact ⟨j,x,(old j x hx hlx).2,hlx,e⟩
   ·intro κ hκ b;refine ⟨?_,fun _=>rfl⟩;cases κ with
    | h j=>
     have hj:j≠i:=by have:=uW hκ; simpa using this
     simp only [vS,uF hj,eas]
    | a=>cases hκ
    | c=>cases hκ
  by_cases hl:qB hb.c
  ·obtain ⟨b0,g1,g2,g3,g4⟩:=h.blk i hb hi hl;by_cases hx:isX hb.c=true
   ·have hKi:=(h.nA i hb hi hl).2;have:=hsub ⟨W.A,fun b=>if b=W.as i then some b0 else W.K b,W.as⟩ rfl (fun _ q=>q) (fun b x q=>by
      show (if b=W.as i then some b0 else W.K b)=some x
      rw [if_neg (by rintro rfl; rw [hKi] at q; cases q)]; exact q) (fun _ q=>.inl q) (fun b x q=>by
      by_cases e:b=W.as i
      ·subst e;have q':(if W.as i=W.as i then some b0 else W.K (W.as i))=some x:=q
       rw [if_pos rfl] at q'; cases q';exact .inr ⟨hl,hx,rfl,g1⟩
      ·have q':(if b=W.as i then some b0 else W.K b)=some x:=q
       rw [if_neg e] at q'; exact .inl q')
    refine ⟨_,this.1,this.2.1,this.2.2,?_,rfl,fun b q=>.inl q,?_⟩
    ·intro hb2 e1 hl2;rw [hi] at e1; cases e1;exact ⟨fun _=>⟨b0,g1,if_pos rfl⟩,fun q=>(by rw [hx] at q; cases q)⟩
    ·intro b x q;by_cases e:b=W.as i
     ·exact .inr ⟨hb,rfl,hl,hx,e.symm⟩
     ·have q':(if b=W.as i then some b0 else W.K b)=some x:=q
      rw [if_neg e] at q'; exact .inl q'
   ·have hx':isX hb.c=false:=by cases q:isX hb.c; rfl; exact absurd q hx
    have:=hsub ⟨fun b=>W.A b∨W.as i=b,W.K,W.as⟩ rfl (fun _ q=>.inl q) (fun _ _ q=>q) (fun b q=>by
      rcases q with q | q
      ·exact .inl q
      ·exact .inr ⟨hl,hx',q⟩) (fun _ _ q=>.inl q)
    refine ⟨_,this.1,this.2.1,this.2.2,?_,rfl,?_,fun b x q=>.inl q⟩
    ·intro hb2 e1 hl2;rw [hi] at e1; cases e1;exact ⟨fun e=>(by rw [hx'] at e; cases e),fun _=>.inr rfl⟩
    ·intro b q;rcases q with q | q
     ·exact .inl q
     ·exact .inr ⟨hb,rfl,hl,hx',q⟩
  ·have:=hsub W rfl (fun _ q=>q) (fun _ _ q=>q) (fun _ q=>.inl q) (fun _ _ q=>.inl q);refine ⟨W,this.1,this.2.1,this.2.2,?_,rfl,fun b q=>.inl q,fun b x q=>.inl q⟩;intro hb2 e1 hl2;rw [hi] at e1; cases e1;exact absurd hl2 hl
end
end
noncomputable section
set_option linter.all false
open Go
theorem qCg {L k k' j j':Nat} (h:j<L) (h':j'<L) (e:k*L+j=k'*L+j'):k=k'∧j=j':=by
 have h1:(k*L+j) / L=k:=by rw [Nat.mul_comm,Nat.mul_add_div (by omega),Nat.div_eq_of_lt h,Nat.add_zero]
 have h2:(k'*L+j') / L=k':=by rw [Nat.mul_comm,Nat.mul_add_div (by omega),Nat.div_eq_of_lt h',Nat.add_zero]
 have:k=k':=by rw [←h1,←h2,e]
 subst this;exact ⟨rfl,by omega⟩
theorem lW {L n k j:Nat} (hk:k<n) (hj:j<L):k*L+j<n*L:=by
 calc k*L+j<k*L+L:=by omega
  _=(k+1)*L:=by rw [Nat.add_mul,Nat.one_mul]
  _≤n*L:=Nat.mul_le_mul_right _ hk
theorem jIs {α:Type}:∀ (l:List α) (i:Nat) (x:α),l[i]?=some x→jG l i x=l
 | [],i,x,h=>by simp at h
 | a::l,0,x,h=>by simp at h; simp [jG,h]
 | a::l,i+1,x,h=>by simp at h; simp [jG,jIs l i x h]
theorem gU:∀ {l:List SV},qF l=true↔∀ (i:Nat) (x:SV),l[i]?=some x→qZ x=true
 | []=>by simp [qF]
 | a::l=>by
  simp only [qF,Bool.and_eq_true,gU (l:=l)];constructor
  ·rintro ⟨h1,h2⟩ i x e;cases i with
   | zero=>simp at e; subst e; exact h1
   | succ i=>exact h2 i x (by simpa using e)
  ·intro h;exact ⟨h 0 a rfl,fun i x e=>h (i+1) x (by simpa using e)⟩
theorem kG:∀ {l:List AV},jS l=true↔∀ (i:Nat) (x:AV),l[i]?=some x→x.one=true
 | []=>by simp [jS]
 | a::l=>by
  simp only [jS,Bool.and_eq_true,kG (l:=l)];constructor
  ·rintro ⟨h1,h2⟩ i x e;cases i with
   | zero=>simp at e; subst e; exact h1
   | succ i=>exact h2 i x (by simpa using e)
  ·intro h;exact ⟨h 0 a rfl,fun i x e=>h (i+1) x (by simpa using e)⟩
theorem jBq {σ:Mem} {e:Nat} {pl:Bool} {cells:List AV} {k:Nat→AV} (h:jS cells=true):pC σ e pl cells k=some (k σ.nx,⟨Tr.put σ.t σ.nx (some ⟨e,pl,cells⟩),σ.nx+1,σ.it⟩):=by
 simp [pC,h,Mem.new]
theorem kW (t:Tr xY) (k:Nat) (x:Option xY) (b:Nat):(Tr.put t k x).get b=if b=k then x else t.get b:=Tr.get_set30 x t k b (Nat.zero_le _)
theorem jDv {σ:Mem} {b o:Nat} {blk:xY} {v:AV} (hg:σ.t.get b=some blk) (hv:blk.cells[o]?=some v):ldA σ b o none=some v:=by
 obtain ⟨ho,hv'⟩:=List.getElem?_eq_some_iff.1 hv;have:yG 1 (yB o blk.cells)=some [v]:=by
  rw [xA,gO (by simp; omega),List.drop_eq_getElem_cons ho,hv']
  rfl
 simp only [ldA,Mem.load,hg,this]
theorem jKl {σ:Mem} {b o n:Nat} {blk:xY} (hg:σ.t.get b=some blk) (h:n≤(blk.cells.drop o).length):ldA σ b o (some n)=some (.agg ((blk.cells.drop o).take n)):=by
 simp only [ldA,Mem.load,hg,xA,gO h]
section
variable {C:Cx} {W W':Wd} {H H':Hp} {σ σ':Mem}
theorem jVw {ty:Ty} {v:AV} {Q:P1} (t:TV C W σ ty v) (h:qIt ty Q):∃ s,Q s∧sv C W H σ s v:=by
 cases t with
 | i k n=>exact ⟨_,h n,rfl⟩
 | b x=>exact ⟨_,h x,rfl⟩
 | s m n v h1 h2=>exact ⟨_,h n v h1 h2,rfl,h2⟩
 | t m n v h1 h2=>exact ⟨_,h n v h1 h2,rfl,h2⟩
 | q0 T r=>exact ⟨_,h 0 (Nat.zero_le _),.q0 _ _,.inl ⟨rfl,rfl⟩⟩
 | qe T r b o=>exact ⟨_,h 0 (Nat.zero_le _),.qe _ _ _ _,.inr ⟨_,_,rfl⟩⟩
 | q T r b o n hn blk hb hg κ hs hp cs hc ht hq=>exact ⟨_,h n hn,.q T r b o n hn blk hb hg κ hs hp cs hc ht hq,.inr ⟨_,_,rfl⟩⟩
theorem jOx:∀ {tys:List Ty} {cs:List AV} {Q:List SV→Prop},cs.length=tys.length→(∀ (j:Nat) (ty:Ty),tys[j]?=some ty→∃ c:AV,cs[j]?=some c∧TV C W σ ty c)→jIp tys Q→∃ l,Q l∧svs C W H σ l cs
 | [],cs,Q,hl,_,h=>by simp at hl; subst hl; exact ⟨[],h,rfl⟩
 | t::r,[],Q,hl,_,h=>by simp at hl
 | t::r,c::cs,Q,hl,ht,h=>by
  obtain ⟨c',e,h1⟩:=ht 0 t rfl;simp at e; subst e;obtain ⟨s,h2,h3⟩:=jVw (H:=H) h1 h;obtain ⟨l,h4,h5⟩:=jOx (by simpa using hl) (fun j ty e=>by simpa using ht (j+1) ty (by simpa using e)) h2
  exact ⟨s::l,h4,_,_,rfl,h3,h5⟩
theorem qAq {x:SV} {c:AV} (h:sv C W H σ x c):jMs x c:=by
 refine ⟨fun k z e=>?_,fun n u e=>?_⟩
 ·subst e; simp only [sv] at h; exact h
 ·subst e; simp only [sv] at h; exact h.1
theorem qKk {f:Nat→AV} {b o off:Nat} {n:Option Nat} {blk:xY} {c:AV} {s:SV} (hg:σ.t.get b=some blk) (hf:∀ j x,blk.cells[o+j]?=some x→f j=x) (e:ldA σ b (o+off) n=some c) (hs:sv C W H σ s c):rdC f off n s:=by
 cases n with
 | none=>
  show jMs s (f off);have:blk.cells[o+off]?=some c:=by
   simp only [ldA,Mem.load,hg] at e;split at e
   ·rename_i v l hl;cases e;obtain ⟨h1,h2⟩:=yY _ _ _ hl;rw [xA] at h1;have h3:((blk.cells.drop (o+off)).take 1)[0]?=some c:=by rw [←h1]; rfl
    rw [List.getElem?_take,if_pos (by omega),List.getElem?_drop] at h3
    exact h3
   ·cases e
  rw [hf off c this];exact qAq hs
 | some n=>
  intro l hl j x hx;subst hl;simp only [sv] at hs;obtain ⟨cs,rfl,hs⟩:=hs;obtain ⟨y,hy,hxy⟩:=hs.nth j x hx;have:blk.cells[o+(off+j)]?=some y:=by
   simp only [ldA,Mem.load,hg] at e;split at e
   ·rename_i l' hl';cases e;obtain ⟨h1,h2⟩:=yY _ _ _ hl';rw [xA] at h1;rw [h1,List.getElem?_take] at hy;split at hy
    ·rw [List.getElem?_drop,Nat.add_assoc] at hy; exact hy
    ·cases hy
   ·cases e
  rw [hf _ y this];exact qAq hxy
theorem jWl {tys:List Ty} {b o off:Nat} {n:Option Nat} {blk:xY} {Q:P1} (hg:σ.t.get b=some blk)
  (hc:∀ (j:Nat) (ty:Ty),tys[j]?=some ty→∃ c:AV,blk.cells[o+j]?=some c∧TV C W σ ty c) (h:jQb tys off n Q):PO C W H σ (ldA σ b (o+off) n) Q:=by
 unfold jQb at h;split at h
 ·split at h
  ·rename_i t ht;rw [jZ] at ht;obtain ⟨c,h1,h2⟩:=hc off t ht;obtain ⟨s,h3,h4⟩:=jVw (H:=H) h2 h;exact ⟨c,s,jDv hg h1,h3,h4⟩
  ·exact h.elim
 ·rename_i n;split at h
  ·rename_i l hl;obtain ⟨rfl,hn⟩:=yY _ _ _ hl;rw [xA] at h hn;have hlen:n≤(blk.cells.drop (o+off)).length:=by
    cases n with
    | zero=>simp
    | succ n=>
     simp at hn;obtain ⟨t,ht⟩:∃ t,tys[off+n]?=some t:=⟨_,List.getElem?_eq_some_iff.2 ⟨by omega,rfl⟩⟩
     obtain ⟨c,h1,_⟩:=hc _ t ht;have:=(List.getElem?_eq_some_iff.1 h1).1;simp; omega
   obtain ⟨l,h3,h4⟩:=jOx (C:=C) (W:=W) (H:=H) (σ:=σ) (cs:=(blk.cells.drop (o+off)).take n) (by simp at hn hlen ⊢; omega) (fun j ty e=>by
    rw [List.getElem?_take] at e ⊢;split at e
    ·rename_i hj;rw [if_pos hj,List.getElem?_drop,Nat.add_assoc];rw [List.getElem?_drop] at e;exact hc _ ty e
    ·cases e) h
   exact ⟨_,_,jKl hg hlen,h3,_,rfl,h4⟩
  ·exact h.elim
theorem qDd {c:Nd} {v:AV} (h:nd W.K c v):sv C W H σ (ofN c) v:=by
 cases c with
 | i k n=>exact h
 | b x=>exact h
 | s n u=>exact h
 | q w l=>exact h
theorem nds.get:∀ {l:List Nd} {f:Nat→Option AV},nds W.K l f→∀ (i:Nat) (c:Nd),l[i]?=some c→∃ x,f i=some x∧nd W.K c x
 | [],f,h,i,c,e=>by simp at e
 | a::l,f,h,0,c,e=>by simp only [nds] at h; simp at e; subst e; exact h.1
 | a::l,f,h,i+1,c,e=>by
  simp only [nds] at h;exact nds.get h.2 i c (by simpa using e)
theorem nds.drop:∀ {l:List Nd} {f:Nat→Option AV} (k:Nat),nds W.K l f→nds W.K (l.drop k) fun m=>f (k+m)
 | l,f,0,h=>by simpa using h
 | [],f,k+1,h=>by simp [nds]
 | a::l,f,k+1,h=>by
  simp only [nds] at h;have:=nds.drop k h.2;rw [List.drop_succ_cons];have e:(fun m=>f (k+1+m))=fun m=>f (k+m+1):=by funext m; congr 1; omega
  rw [e]; exact this
theorem ndR.get:∀ {l:List (List Nd)} {w:Nat} {f:Nat→Option AV},ndR W.K l w f→∀ (i:Nat) (c:List Nd),l[i]?=some c→c.length=w∧nds W.K c fun m=>f (i*w+m)
 | [],w,f,h,i,c,e=>by simp at e
 | a::l,w,f,h,0,c,e=>by simp only [ndR] at h; simp at e; subst e; simpa using h.1
 | a::l,w,f,h,i+1,c,e=>by
  simp only [ndR] at h;have:=ndR.get h.2 i c (by simpa using e)
  refine ⟨this.1,?_⟩;have e:(fun m=>f ((i+1)*w+m))=fun m=>f (i*w+m+w):=by funext m; rw [Nat.add_mul,Nat.one_mul]; congr 1; omega
  rw [e]; exact this.2
theorem qLp {l:List Nd} {b o:Nat} {n:Option Nat} {blk:xY} {Q:P1} (hg:σ.t.get b=some blk) (hc:nds W.K l fun m=>blk.cells[o+m]?) (h:ldN l n Q):PO C W H σ (ldA σ b o n) Q:=by
 unfold ldN at h;split at h
 ·split at h
  ·rename_i c r;obtain ⟨x,e,h1⟩:=nds.get hc 0 c rfl;exact ⟨x,_,jDv hg e,h,qDd h1⟩
  ·exact h.elim
 ·rename_i n;split at h
  ·rename_i l' hl;obtain ⟨rfl,hn⟩:=yY _ _ _ hl;have hlen:n≤(blk.cells.drop o).length:=by
    cases n with
    | zero=>simp
    | succ n=>
     obtain ⟨c,e⟩:∃ c,l[n]?=some c:=⟨_,List.getElem?_eq_some_iff.2 ⟨by omega,rfl⟩⟩
     obtain ⟨x,e2,_⟩:=nds.get hc n c e;have:=(List.getElem?_eq_some_iff.1 e2).1;simp; omega
   refine ⟨_,_,jKl hg hlen,h,_,rfl,svs.of (by simp at hlen ⊢; omega) fun i x e=>?_⟩
   rw [List.getElem?_map,Option.map_eq_some_iff] at e;obtain ⟨c,e1,rfl⟩:=e;rw [List.getElem?_take] at e1;split at e1
   ·rename_i hi;obtain ⟨y,e2,h2⟩:=nds.get hc i c e1;exact ⟨y,by rw [List.getElem?_take,if_pos hi,List.getElem?_drop]; exact e2,qDd h2⟩
   ·cases e1
  ·exact h.elim
theorem qEs (hC:wP C) (hr:Rl C W H σ) {n:Option Nat} {s:SV} {a:X} {τ:T} {Q:P1} (hx:sv C W H σ s (a.ev τ)) (h:wLd C H n s Q):PO C W H σ (xLd n a τ σ) Q:=by
 unfold wLd at h;split at h
 ·rename_i i g off;obtain ⟨hb,hi,hg,h⟩:=qU h;have hv:=qS hx.2 hi hg;split at h
  ·rename_i l hl;obtain ⟨blk,g1,g2,g3,g4⟩:=hr.blk i hb hi (by rw [hl]; trivial)
   rw [hl] at g4;have e:xLd n a τ σ=ldA σ (W.as i) off n:=by simp only [xLd,hv]
   rw [e];cases n with
   | none=>
    simp only [ldS,jZ] at h;split at h
    ·rename_i s hs;obtain ⟨c,h1,h2⟩:=g4.1.nth _ _ hs;exact ⟨c,s,jDv g1 h1,h,h2⟩
    ·exact h.elim
   | some n=>
    simp only [ldS] at h;split at h
    ·rename_i l' hl';obtain ⟨rfl,hn⟩:=yY _ _ _ hl';rw [xA] at h hn;have hlen:n≤(blk.cells.drop off).length:=by rw [(g4.1.drop off).len]; exact hn
     exact ⟨_,_,jKl g1 hlen,h,_,rfl,(g4.1.drop off).take n⟩
    ·exact h.elim
  ·exact h.elim
 ·rename_i i g k off;obtain ⟨hb,hi,hg,h⟩:=qU h;have hv:=qS hx.2 hi hg;split at h
  ·rename_i T r m hc;rw [hc] at hv;obtain ⟨hk,hv⟩:=hv;obtain ⟨blk,g1,g2,g3,g4⟩:=hr.blk i hb hi (by rw [hc]; show m≠0; omega)
   rw [hc] at g4;have e:xLd n a τ σ=ldA σ (W.as i) (k*(C.ct T 0).length+off) n:=by simp only [xLd,hv]
   rw [e];obtain ⟨c,s,k1,k2,k3⟩:=jWl g1 (fun j ty e=>(zM.cell g4 hk).2 j ty e) h;exact ⟨c,s,k1,k2 (hC.rd _ _ _ _ _ (zM.rp g4 hk) (qKk g1 (fun j x e=>by show (blk.cells[_+j]?).getD .ni=x; rw [e]; rfl) k1 k3)),k3⟩
  ·rename_i T r m l hc;rw [hc] at hv;obtain ⟨hk,hv⟩:=hv;obtain ⟨blk,g1,g2,g3,g4⟩:=hr.blk i hb hi (by rw [hc]; show m≠0; omega)
   rw [hc] at g4;obtain ⟨hkm,h⟩:=jH h;have hkm:=Nat.eq_of_beq_eq_true hkm;have e:xLd n a τ σ=ldA σ (W.as i) (k*(C.ct T 0).length+off) n:=by simp only [xLd,hv]
   rw [e];have hkm':m - 1=k:=by omega
   have g5:=g4.2.1;rw [hkm'] at g5;cases n with
   | none=>
    simp only [ldS,jZ] at h;split at h
    ·rename_i s hs;obtain ⟨c,h1,h2⟩:=g5.nth _ _ hs;rw [List.getElem?_drop] at h1;exact ⟨c,s,jDv g1 h1,h,h2⟩
    ·exact h.elim
   | some n=>
    simp only [ldS] at h;split at h
    ·rename_i l' hl';obtain ⟨rfl,hn⟩:=yY _ _ _ hl';rw [xA] at h hn;have g6:=g5.drop off;rw [List.drop_drop] at g6;have hlen:n≤(blk.cells.drop (k*(C.ct T 0).length+off)).length:=by rw [g6.len]; exact hn
     exact ⟨_,_,jKl g1 hlen,h,_,rfl,g6.take n⟩
    ·exact h.elim
  ·exact h.elim
 ·rename_i T r off;obtain ⟨b,o,blk,hv,h1,h2,h3,⟨_,hrp⟩,h4⟩:=hx;have e:xLd n a τ σ=ldA σ b (o+off) n:=by simp only [xLd,hv]
  rw [e];obtain ⟨c,s,k1,k2,k3⟩:=jWl h2 h4 h;exact ⟨c,s,k1,k2 (hC.rd _ _ _ _ _ hrp (qKk h2 (fun j x e=>by show (blk.cells[o+j]?).getD .ni=x; rw [e]; rfl) k1 k3)),k3⟩
 ·rename_i p;obtain ⟨h0,b,o,blk,hv,h1,h2⟩:=hx;split at h
  ·have e:xLd none a τ σ=ldA σ b o none:=by simp only [xLd,hv]
   rw [e];exact ⟨_,_,jDv (hr.K _ _ h1).2 h2,h h0,rfl,h0⟩
  ·exact h.elim
 ·obtain ⟨z,hv⟩:=hx;split at h
  ·exact ⟨.i .i64 z,.i .i64 z,by simp only [xLd,hv],h z,rfl⟩
  ·exact h.elim
 ·rename_i l;obtain ⟨b,o,blk,hv,h1,h2⟩:=hx;have e:xLd n a τ σ=ldA σ b o n:=by simp only [xLd,hv]
  rw [e];exact qLp (hr.K _ _ h1).2 h2 h
 ·exact h.elim
theorem qNr (hr:Rl C W H σ) {s:SV} {x:X} {τ:T} {Q:P1} (hx:sv C W H σ s (x.ev τ)) (h:wNc H s Q):PO C W H σ (xNc x τ) Q:=by
 unfold wNc at h;split at h
 ·obtain ⟨hb,hi,hg,h⟩:=qU h;have hv:=qS hx.2 hi hg;exact ⟨x.ev τ,_,by simp only [xNc,hv],h,hx⟩
 ·obtain ⟨hb,hi,hg,h⟩:=qU h;have hv:=qS hx.2 hi hg;split at h
  ·rename_i hc;rw [hc] at hv;exact ⟨x.ev τ,_,by simp only [xNc,hv.2],h,hx⟩
  ·rename_i hc;rw [hc] at hv;exact ⟨x.ev τ,_,by simp only [xNc,hv.2],h,hx⟩
  ·exact h.elim
 ·have hx':=hx;obtain ⟨b,o,blk,hv,_⟩:=hx;exact ⟨x.ev τ,_,by simp only [xNc,hv],h,hx'⟩
 ·have hx':=hx;obtain ⟨a,c,hv,_⟩:=hx;exact ⟨x.ev τ,_,by simp only [xNc,hv],h,hx'⟩
 ·have hx':=hx;obtain ⟨b,o,blk,hv,_⟩:=hx;exact ⟨x.ev τ,_,by simp only [xNc,hv],h,hx'⟩
 ·exact h.elim
theorem qNk (hr:Rl C W H σ) {off:Nat} {s:SV} {x:X} {τ:T} {Q:P1} (hx:sv C W H σ s (x.ev τ)) (h:wFa H off s Q):PO C W H σ (xFa off x τ) Q:=by
 unfold wFa at h;split at h
 ·rename_i i g o;obtain ⟨hb,hi,hg,h⟩:=qU h;have hv:=qS hx.2 hi hg;exact ⟨.p (W.as i) (o+off),_,by simp only [xFa,hv,qI],h,rfl,hb,hi,by omega,fun _=>rfl⟩
 ·rename_i i g k o;obtain ⟨hb,hi,hg,h⟩:=qU h;have hv:=qS hx.2 hi hg;split at h
  ·rename_i T r m hc;rw [hc] at hv;exact ⟨_,_,by simp only [xFa,hv.2,qI]; rfl,h,rfl,hb,hi,by omega,fun _=>by show jLi C _ _ _ _ hb.c; rw [hc]; exact ⟨hv.1,by rw [show Nat.add o off=o+off from rfl,Nat.add_assoc]⟩⟩
  ·rename_i T r m l hc;rw [hc] at hv;exact ⟨_,_,by simp only [xFa,hv.2,qI]; rfl,h,rfl,hb,hi,by omega,fun _=>by show jLi C _ _ _ _ hb.c; rw [hc]; exact ⟨hv.1,by rw [show Nat.add o off=o+off from rfl,Nat.add_assoc]⟩⟩
  ·exact h.elim
 ·rename_i T r o;obtain ⟨b,o',blk,hv,h1⟩:=hx;exact ⟨_,_,by simp only [xFa,hv,qI]; rfl,h,b,o',blk,by rw [show Nat.add o off=o+off from rfl,Nat.add_assoc],h1⟩
 ·obtain ⟨ho,h⟩:=jH h;cases Nat.eq_of_beq_eq_true ho;have hx':=hx;obtain ⟨h0,b,o,blk,hv,h1⟩:=hx;exact ⟨x.ev τ,_,by simp only [xFa,hv,qI]; rfl,h,hx'⟩
 ·rename_i l;obtain ⟨b,o,blk,hv,h1,h2⟩:=hx;refine ⟨.p b (o+off),_,by simp only [xFa,hv,qI],h,b,o+off,blk,rfl,h1,?_⟩
  rw [xA];have:=h2.drop off;have e:(fun m=>blk.cells[o+(off+m)]?)=fun m=>blk.cells[o+off+m]?:=by funext m; rw [Nat.add_assoc]
  rw [e] at this; exact this
 ·exact h.elim
theorem qNn (hr:Rl C W H σ) {s:SV} {x:X} {τ:T} {Q:P1} (hx:sv C W H σ s (x.ev τ)) (h:wLm H s Q):PO C W H σ (xLm x τ) Q:=by
 unfold wLm at h;split at h
 ·have hv:x.ev τ = .sl0:=hx;exact ⟨_,_,by simp only [xLm,hv],h,rfl⟩
 ·rename_i i g n sz;obtain ⟨hb,hi,hg,h⟩:=qU h;have hv:=qS hx.2 hi hg;have key:hb.c ≠ .dead→x.ev τ=(if n=0 then .sl0 else .sl (W.as i) 0 n sz)∨x.ev τ = .sl (W.as i) 0 n sz:=by
   intro hd;cases hc:hb.c with
   | l l=>rw [hc] at hv; exact .inr hv.1
   | r T r m=>rw [hc] at hv; exact .inl hv.2.2
   | xs l=>rw [hc] at hv; exact .inl hv.2.2
   | xr w l=>rw [hc] at hv; exact .inr hv.2.2.2
   | rl T r m l=>rw [hc] at hv; exact .inl hv.2.2
   | dead=>exact absurd hc hd
  have fin:hb.c ≠ .dead→xLm x τ=some (.i .i64 (n:Int)):=by
   intro hd;rcases key hd with e | e
   ·split at e
    ·rename_i e0; subst e0; simp only [xLm,e]; rfl
    ·simp only [xLm,e]; rfl
   ·simp only [xLm,e]; rfl
  split at h
  ·exact h.elim
  ·rename_i hd;exact ⟨_,_,fin (fun e=>hd e),h,rfl⟩
 ·rename_i T r n;rcases hx.2 with ⟨hv,rfl⟩ | ⟨b,o,hv⟩
  ·exact ⟨_,_,by simp only [xLm,hv]; rfl,h,rfl⟩
  ·exact ⟨_,_,by simp only [xLm,hv]; rfl,h,rfl⟩
 ·rename_i l;rcases hx.2 with ⟨hv,rfl⟩ | ⟨b,o,hv,_⟩
  ·exact ⟨_,_,by simp only [xLm,hv]; rfl,h,rfl⟩
  ·exact ⟨_,_,by simp only [xLm,hv]; rfl,h,rfl⟩
 ·obtain ⟨l,hv,rfl⟩:=hx;exact ⟨.i .i64 (l.length:Int),_,by simp only [xLm,hv,sA,Nat.add_zero]; rfl,h,rfl⟩
 ·rename_i w l;rcases hx with ⟨hv,rfl⟩ | ⟨b,o,hv,_⟩
  ·exact ⟨_,_,by simp only [xLm,hv]; rfl,h,rfl⟩
  ·exact ⟨_,_,by simp only [xLm,hv]; rfl,h,rfl⟩
 ·exact h.elim
theorem qNl (hC:wP C) (hr:Rl C W H σ) {sz:Nat} {s t:SV} {x y:X} {τ:T} {Q:P1} (hx:sv C W H σ s (x.ev τ)) (hy:sv C W H σ t (y.ev τ)) (h0:wIa C H sz s t Q):PO C W H σ (xIa sz x y τ) Q:=by
 obtain ⟨kk,k,hk,h⟩:=qCf hy h0;clear h0;have run:∀ {b o n sz':Nat},x.ev τ = .sl b o n sz'→0≤k→k<(n:Int)→xIa sz x y τ=some (.p b (o+k.toNat*sz)):=by
  intro b o n sz' hv h1 h2;obtain ⟨m,rfl⟩:=Int.eq_ofNat_of_zero_le h1;have h3:Nat.blt m n=true:=by simp [Nat.blt_eq]; omega
  have h4:asN (y.ev τ)=some m:=by rw [hk]; rfl
  simp only [xIa,hv,h4,h3,if_true,qI];simp
 split at h
 ·rename_i i g n sz';obtain ⟨hs,⟨h1,h2⟩,h3⟩:=jH h;clear h;cases Nat.eq_of_beq_eq_true hs;obtain ⟨hb,hi,hg,h⟩:=qU h3;have hv:=qS hx.2 hi hg;split at h
  ·rename_i l hc;rw [hc] at hv;unfold qKg at h;split at h
   ·rename_i m;exact ⟨_,_,run hv.1 h1 h2,h,rfl,hb,hi,by omega,fun _=>by simp⟩
   ·exact h.elim
  ·rename_i T r m hc;rw [hc] at hv;obtain ⟨e,h⟩:=jH h;have e':sz=(C.ct T 0).length:=by rw [Nat.eq_of_beq_eq_true e,qG]
   obtain ⟨hm,_,hv⟩:=hv;have hn:n≠0:=by omega
   rw [if_neg hn] at hv;exact ⟨_,_,run hv h1 h2,h,rfl,hb,hi,by omega,fun _=>by show jLi C _ _ _ _ hb.c; rw [hc]; exact ⟨by omega,by rw [e']; simp⟩⟩
  ·rename_i T r m l hc;rw [hc] at hv;obtain ⟨e,h⟩:=jH h;have e':sz=(C.ct T 0).length:=by rw [Nat.eq_of_beq_eq_true e,qG]
   obtain ⟨hm,_,hv⟩:=hv;have hn:n≠0:=by omega
   rw [if_neg hn] at hv;exact ⟨_,_,run hv h1 h2,h,rfl,hb,hi,by omega,fun _=>by show jLi C _ _ _ _ hb.c; rw [hc]; exact ⟨by omega,by rw [e']; simp⟩⟩
  ·exact h.elim
 ·rename_i T r n;obtain ⟨e,⟨h1,h2⟩,h⟩:=jH h;have e':sz=(C.ct T 0).length:=by rw [Nat.eq_of_beq_eq_true e,qG]
  rcases hx.2 with ⟨hv,rfl⟩ | ⟨b,o,hv⟩
  ·omega
  ·have ht:=hx.1;rw [hv] at ht;cases ht with
   | qe=>omega
   | q _ _ _ _ _ _ blk hb hg κ hs hp cs hc ht hq=>
    have hkn:k.toNat<n:=by omega
    have hr:oS C T (κ k.toNat)≤r:=Nat.le_trans (jLf (ρ:=fun k=>oS C T (κ k)) hkn) hs;have hpr:=hp.cp r (Nat.le_trans (Nat.le_add_right _ _) hr);refine ⟨_,_,run hv h1 h2,h hpr,b,o+k.toNat*sz,blk,by simp,hb,hg,hpr,⟨hp,hp.rp _ _ (fun j hj=>?_) (hq k.toNat hkn)⟩,TV.up hp hr fun j ty hj=>?_⟩
    ·rw [e',Nat.add_assoc,hc _ (lW hkn hj)];exact Pc.rfl' _
    have hj':=(List.getElem?_eq_some_iff.1 hj).1;rw [hp.len] at hj';refine ⟨_,?_,ht k.toNat j ty hkn hj⟩;rw [e',Nat.add_assoc];exact hc _ (lW hkn hj')
 ·rename_i l;obtain ⟨e,⟨h1,h2⟩,h3⟩:=jH h;clear h;cases Nat.eq_of_beq_eq_true e;obtain ⟨p,hp⟩:∃ p,l[k.toNat]?=some p:=⟨_,List.getElem?_eq_some_iff.2 ⟨by omega,rfl⟩⟩
  rcases hx.2 with ⟨hv,rfl⟩ | ⟨b,o,hv,hl⟩
  ·simp at h2; omega
  ·rcases hl with rfl | ⟨blk,hK,hl⟩
   ·simp at h2; omega
   ·exact ⟨_,_,run hv h1 h2,h3 p hp,hx.1 p (List.mem_of_getElem? hp),b,_,blk,rfl,hK,by simpa using hl _ p hp⟩
 ·rename_i n;obtain ⟨e,⟨h1,h2⟩,h3⟩:=jH h;obtain ⟨l,hv,rfl⟩:=hx;obtain ⟨m,rfl⟩:=Int.eq_ofNat_of_zero_le h1;have h4:asN (y.ev τ)=some m:=by rw [hk]; rfl
  obtain ⟨z,hz⟩:∃ z,l[m]?=some z:=⟨_,List.getElem?_eq_some_iff.2 ⟨by omega,rfl⟩⟩
  exact ⟨.fq z,_,by simp only [xIa,hv,h4,e,if_true,iD,hz],h3,z,rfl⟩
 ·rename_i w l;obtain ⟨e,⟨h1,h2⟩,h3⟩:=jH h;cases Nat.eq_of_beq_eq_true e;obtain ⟨p,hp⟩:∃ p,l[k.toNat]?=some p:=⟨_,List.getElem?_eq_some_iff.2 ⟨by omega,rfl⟩⟩
  rcases hx with ⟨hv,rfl⟩ | ⟨b,o,hv,hl⟩
  ·simp at h2; omega
  ·rcases hl with rfl | ⟨blk,hK,hl⟩
   ·simp at h2; omega
   ·refine ⟨_,_,run hv h1 h2,h3 p hp,b,_,blk,rfl,hK,?_⟩;have:=(hl.get _ p hp).2;have e:(fun m=>blk.cells[o+(k.toNat*sz+m)]?)=fun m=>blk.cells[o+k.toNat*sz+m]?:=by funext m; rw [Nat.add_assoc]
    rw [e] at this; exact this
 ·exact h.elim
end
end
noncomputable section
set_option linter.all false
open Go
def OO (C:Cx) (W:Wd) (H:Hp) (σ:Mem) (r:Option (AV×Mem)) (Q:QO):Prop:=∃ (v:AV) (σ':Mem) (s:SV) (W':Wd) (H':Hp) (t:Tch),r=some (v,σ')∧Q s H' t∧Rl C W' H' σ'∧Mv W H σ W' H' σ'∧sv C W' H' σ' s v∧Tc t W H σ W' H' σ'
section
variable {C:Cx} {W W':Wd} {H H':Hp} {σ σ':Mem}
theorem PO.oo (hr:Rl C W H σ) {r:Option AV} {Q:QO} (h:PO C W H σ r fun v=>Q v H t0):OO C W H σ (eP σ r) Q:=by
 obtain ⟨v,s,rfl,h1,h2⟩:=h;exact ⟨v,σ,s,W,H,t0,rfl,h1,hr,Mv.refl,h2,Tc.refl _ _ _ _⟩
theorem jJc:∀ {n:Nat} {ρ:Nat→Nat},(∀ k,k<n→ρ k=0)→wN ρ n=0:=by
 intro n
 induction n with
 | zero=>intro _ _; rfl
 | succ n ih=>intro ρ h; show ρ 0+wN (fun k=>ρ (k+1)) n=0; rw [h 0 (Nat.succ_pos _),ih fun k hk=>h (k+1) (by omega)]
theorem jUn (hC:wP C) (hK:KOK W σ) {t:Ty} {s:SV} {v:AV} (hx:sv C W H σ s v) (h:jGo C t s):TV C W σ t v:=by
 unfold jGo at h;split at h
 ·obtain ⟨e,_⟩:=jH h;cases jJy e; cases hx; exact .i _ _
 ·cases hx; exact .b _
 ·obtain ⟨rfl,h0⟩:=hx; exact .s _ _ _ h h0
 ·obtain ⟨rfl,h0⟩:=hx; exact .t _ _ _ h h0
 ·cases hx; exact .q0 _ _
 ·obtain ⟨e,h⟩:=jH h;have e':=Nat.eq_of_beq_eq_true e;exact hx.1.rank _ ⟨e'.symm,h⟩
 ·rename_i T r l;obtain ⟨e,h1,h2⟩:=jH h;obtain ⟨mm,hl⟩:∃ mm,C.ct T 0=[.s mm]:=by
   revert e;cases hct:C.ct T 0 with
   | nil=>intro e; simp [nL] at e
   | cons a m=>cases a<;>cases m<;>intro e<;>first | exact ⟨_,rfl⟩ | simp [nL] at e
  obtain ⟨hcn,hv⟩:=hx;rcases hv with ⟨rfl,_⟩ | ⟨b,o,rfl,hv⟩
  ·exact .q0 _ _
  ·have hl1:(C.ct T 0).length=1:=by rw [hl]; rfl
   rcases hv with rfl | ⟨blk,hKb,hv⟩
   ·have:=TV.qe (C:=C) (W:=W) (σ:=σ) T r b o;rw [hl1] at this; exact this
   ·have:=TV.q (C:=C) (W:=W) (σ:=σ) T r b o l.length h2.1 blk (.inr ⟨e,by rw [hKb]; rfl⟩) (hK _ _ hKb) (fun _ _=>0) (by rw [jJc fun k _=>by show C.co T+_=0; rw [h1,jJc fun _ _=>rfl]]; exact Nat.zero_le _) (cpl.of hC T) (fun m=>(blk.cells[o+m]?).getD .ni) ?_ ?_ (fun k _=>hC.rstr T _ e)
    ·rw [hl1] at this; exact this
    ·intro m hm;rw [hl1,Nat.mul_one] at hm;rw [hv m _ (List.getElem?_eq_getElem hm)]; rfl
    ·intro k j ty hk hj;rw [h1,Nat.add_zero,hl] at hj;cases j with
     | succ j=>simp at hj
     | zero=>
      simp at hj; subst hj;rw [hl1,Nat.mul_one,Nat.add_zero];show TV C W σ (.s mm) ((blk.cells[o+k]?).getD .ni);rw [hv k _ (List.getElem?_eq_getElem hk)];exact .s _ _ _ (by have:=h2.2 _ (List.getElem_mem hk); rw [hl] at this; exact this) (hcn _ (List.getElem_mem hk))
 ·exact h.elim
theorem jDc (hC:wP C) (hK:KOK W σ):∀ {t:List Ty} {s:List SV} {v:List AV},svs C W H σ s v→jHn C t s→v.length=t.length∧∀ (j:Nat) (ty:Ty),t[j]?=some ty→∃ c:AV,v[j]?=some c∧TV C W σ ty c
 | [],[],v,h,_=>by simp only [svs] at h; subst h; simp
 | [],x::s,v,h,k=>k.elim
 | t::r,[],v,h,k=>k.elim
 | t::r,x::s,v,h,k=>by
  obtain ⟨y,l,rfl,h1,h2⟩:=h;obtain ⟨h3,h4⟩:=jDc hC hK h2 k.2;refine ⟨by simp [h3],fun j ty e=>?_⟩
  cases j with
  | zero=>simp at e; subst e; exact ⟨y,rfl,jUn hC hK h1 k.1⟩
  | succ j=>simpa using h4 j ty (by simpa using e)
def nT:SV→Prop
 | .i _ _=>True
 | .b _=>True
 | .s _ _=>True
 | .sl0=>True
 | .q _ _ _=>True
 | .qs _=>True
 | _=>False
theorem qBu {t:Ty} {x:SV} (h:jGo C t x):nT x:=by
 unfold jGo at h;split at h<;>first | trivial | exact h.elim
theorem jKc:∀ {t:List Ty} {s:List SV},jHn C t s→∀ x,x∈s→nT x
 | [],[],_,x,hx=>by cases hx
 | [],_::_,h,_,_=>h.elim
 | _::_,[],h,_,_=>h.elim
 | t::r,y::s,h,x,hx=>by
  rcases List.mem_cons.1 hx with rfl | hx
  ·exact qBu h.1
  ·exact jKc h.2 x hx
theorem jUm {T:Nat}:∀ {j:Nat} {s:List SV} {Q:Nat→Prop},jNi C T j s Q→∀ x,x∈s→nT x
 | _,[],_,_,x,hx=>by cases hx
 | j,y::s,Q,h,x,hx=>by
  obtain ⟨x0,k1,k2⟩:=h;rcases List.mem_cons.1 hx with rfl | hx
  ·split at k1
   ·exact qBu k1
   ·exact k1.elim
  ·exact jUm k2 x hx
theorem qQm {x:SV} {kk:IntKind} {z:Int} (hc:nT x) (h:sv C W H σ x (.i kk z)):x = .i kk z:=by
 cases x with
 | i k n=>simp only [sv] at h; cases h; rfl
 | b n=>simp only [sv] at h; cases h
 | s n u=>simp only [sv] at h; cases h.1
 | sl0=>simp only [sv] at h; cases h
 | q T r n=>simp only [sv] at h; obtain ⟨t,_⟩:=h; cases t
 | qs l=>simp only [sv] at h; obtain ⟨_,h | ⟨b,o,h,_⟩⟩:=h<;>first | cases h.1 | cases h
 | _=>exact hc.elim
theorem qQo {x:SV} {n v:Nat} (hc:nT x) (h:sv C W H σ x (.s n v)):x = .s n v:=by
 cases x with
 | i k n=>simp only [sv] at h; cases h
 | b n=>simp only [sv] at h; cases h
 | s n u=>simp only [sv] at h; cases h.1; rfl
 | sl0=>simp only [sv] at h; cases h
 | q T r n=>simp only [sv] at h; obtain ⟨t,_⟩:=h; cases t
 | qs l=>simp only [sv] at h; obtain ⟨_,h | ⟨b,o,h,_⟩⟩:=h<;>first | cases h.1 | cases h
 | _=>exact hc.elim
theorem qQn {x:SV} {y:AV} (hc:nT x) (h:sv C W H σ x y):Pc (toR x) y:=by
 refine ⟨fun k e=>?_,fun n v e=>?_⟩
 ·subst e; rw [qQm hc h]; exact ⟨_,rfl⟩
 ·subst e; rw [qQo hc h]; exact .inr ⟨_,_,rfl,id⟩
theorem qIf {x:SV} {y:AV} (hc:nT x) (h:sv C W H σ x y) (k:qPs x):jYt y:=by
 cases y with
 | i kk z=>rw [qQm hc h] at k; exact k
 | s n v=>rw [qQo hc h] at k; exact k
 | _=>trivial
theorem jNj (hC:wP C) (hK:KOK W σ) {T:Nat}:∀ {j:Nat} {s:List SV} {v:List AV} {Q:Nat→Prop},svs C W H σ s v→jNi C T j s Q→∃ (κ:Nat→Nat),Q (wN κ v.length)∧∀ (i:Nat) (c:AV),v[i]?=some c→∃ ty,(C.ct T (C.co T+κ i))[j+i]?=some ty∧TV C W σ ty c
 | j,[],v,Q,h,k=>by simp only [svs] at h; subst h; exact ⟨fun _=>0,k,fun i c e=>by simp at e⟩
 | j,x::s,v,Q,h,k=>by
  obtain ⟨y,l,rfl,h1,h2⟩:=h;obtain ⟨x0,k1,k2⟩:=k;obtain ⟨κ,a1,a2⟩:=jNj hC hK h2 k2;split at k1
  ·rename_i t ht;rw [jZ] at ht;refine ⟨fun i=>match i with | 0=>x0 | i+1=>κ i,a1,fun i c e=>?_⟩
   cases i with
   | zero=>simp at e; subst e; exact ⟨t,ht,jUn hC hK h1 k1⟩
   | succ i=>
    obtain ⟨ty,b1,b2⟩:=a2 i c (by simpa using e)
    exact ⟨ty,by rw [show j+(i+1)=Nat.succ j+i by omega]; exact b1,b2⟩
  ·exact k1.elim
theorem tX (hC:wP C) (hK:KOK W σ) {T:Nat}:∀ {n:Nat} {s:List SV} {v:List AV} {Q:Nat→Prop},svs C W H σ s v→gZ C T n s Q→∃ R,Q R∧zM C W σ T R n v
 | 0,s,v,Q,h,k=>by
  unfold gZ at k;split at k
  ·simp only [svs] at h; subst h; exact ⟨0,k,zM.nil (cpl.of hC T)⟩
  ·exact k.elim
 | n+1,s,v,Q,h,k=>by
  unfold gZ at k;split at k
  ·rename_i row hr;obtain ⟨rfl,hn⟩:=yY _ _ _ hr;rw [qG] at k hn;rw [xA] at k;have hlen:=h.len;have hv:(v.take (C.ct T 0).length).length=(C.ct T 0).length:=by rw [List.length_take]; omega
   obtain ⟨krs,k⟩:=k;obtain ⟨κ,k1,k2⟩:=jNj hC hK (h.take (C.ct T 0).length) k;obtain ⟨R,h3,h4⟩:=tX hC hK (h.drop (C.ct T 0).length) k1;rw [hv] at h3;refine ⟨_,h3,?_⟩;have one:zM C W σ T (C.co T+wN κ (C.ct T 0).length) 1 (v.take (C.ct T 0).length):=⟨fun _=>κ,by show oS C T κ+0≤_; rw [Nat.add_zero]; exact Nat.le_refl _,cpl.of hC T,by rw [hv,Nat.one_mul],fun k j ty hk e=>by
    obtain rfl:k=0:=by omega
    have hj:=(List.getElem?_eq_some_iff.1 e).1;rw [hC.len T _ 0] at hj;obtain ⟨c,hc⟩:∃ c,(v.take (C.ct T 0).length)[j]?=some c:=⟨_,List.getElem?_eq_some_iff.2 ⟨by rw [hv]; exact hj,rfl⟩⟩
    obtain ⟨ty',e1,e2⟩:=k2 j c hc;rw [Nat.zero_add] at e1;rw [e] at e1; cases e1;exact ⟨c,by rw [Nat.zero_mul,Nat.zero_add]; exact hc,e2⟩,fun k hk=>by
    obtain rfl:k=0:=by omega
    refine hC.rp T _ _ (fun j hj=>?_) (hC.rs T _ krs);rw [Nat.zero_mul,Nat.zero_add];have hsl:=(h.take (C.ct T 0).length).len;obtain ⟨x,hx⟩:∃ x,(s.take (C.ct T 0).length)[j]?=some x:=⟨_,List.getElem?_eq_some_iff.2 ⟨by rw [←hsl,hv]; exact hj,rfl⟩⟩
    obtain ⟨c,hc,hs⟩:=(h.take (C.ct T 0).length).nth j x hx;rw [List.getElem?_map,hx,hc];exact qQn (jUm k x (List.mem_of_getElem? hx)) hs⟩
   have:=one.app h4;rw [List.take_append_drop,Nat.add_comm 1 n] at this;exact this
  ·exact k.elim
theorem TV.one {ty:Ty} {v:AV} (h:TV C W σ ty v):v.one=true:=by cases h<;>rfl
theorem zM.one {T r n:Nat} {cs:List AV} (h:zM C W σ T r n cs):jS cs=true:=by
 obtain ⟨κ,_,h2,h3,h4,_⟩:=h;rw [kG];intro i x e;have hi:=(List.getElem?_eq_some_iff.1 e).1;rw [h3] at hi;have hL:0<(C.ct T 0).length:=by
  rcases Nat.eq_zero_or_pos (C.ct T 0).length with h0 | h0
  ·rw [h0] at hi; simp at hi
  ·exact h0
 have hk:i / (C.ct T 0).length<n:=Nat.div_lt_of_lt_mul (by rw [Nat.mul_comm]; exact hi)
 have hj:i % (C.ct T 0).length<(C.ct T (C.co T+κ (i / (C.ct T 0).length) (i % (C.ct T 0).length))).length:=by rw [h2.len (C.co T+κ (i / (C.ct T 0).length) (i % (C.ct T 0).length))]; exact Nat.mod_lt _ hL
 obtain ⟨ty,hty⟩:∃ ty,(C.ct T (C.co T+κ (i / (C.ct T 0).length) (i % (C.ct T 0).length)))[i % (C.ct T 0).length]?=some ty:=⟨_,List.getElem?_eq_some_iff.2 ⟨hj,rfl⟩⟩;obtain ⟨c,e1,e2⟩:=h4 _ _ ty hk hty;rw [Nat.mul_comm,Nat.div_add_mod] at e1;rw [e] at e1; cases e1;exact e2.one
theorem jOu {n:Nat} {vs l r:List SV} {us m:List AV} (h:yF n vs l=some r) (hv:svs C W H σ vs us) (hl:svs C W H σ l m):∃ r',yF n us m=some r'∧svs C W H σ r r':=by
 obtain ⟨_,hle⟩:=dP _ _ _ _ h;obtain ⟨r',hr'⟩:=mU n us m (by rw [hv.len,hl.len]; exact hle)
 refine ⟨r',hr',svs.of (by rw [vF hr',vF h,hl.len]) fun i x e=>?_⟩
 rw [uK h] at e;rw [uK hr',hv.len];split at e
 ·rename_i hi; rw [if_pos hi]; exact hv.nth _ x e
 ·rename_i hi; rw [if_neg hi]; exact hl.nth _ x e
theorem jEw {n:Nat} {vs l r:List SV} (h:yF n vs l=some r) (hv:qF vs=true) (hl:qF l=true):qF r=true:=by
 rw [gU] at *;intro i x e;rw [uK h] at e;split at e
 ·exact hv _ x e
 ·exact hl _ x e
theorem jIb {z:List AV} (h:gJ z=true) (k:jS z=true):qF (ofAs z)=true:=by
 induction z with
 | nil=>rfl
 | cons a z ih=>
  simp only [gJ,jS,Bool.and_eq_true] at h k;simp only [ofAs,qF,ih h.2 k.2,Bool.and_true];have:=k.1;cases a<;>simp [okA] at h<;>first | rfl | simp [AV.one] at this
theorem jDa {E:Env} {τ:T} (he:zY C W H σ E τ):∀ {ps:List (Nat×Nat×X)} {z:List SV} {m:List AV} {Q:List SV→Prop},svs C W H σ z m→tD E ps z Q→∃ l r,kZ τ ps m=some r∧Q l∧svs C W H σ l r∧(qF z=true→qF l=true)∧l.length=z.length
 | [],z,m,Q,hz,h=>⟨z,m,rfl,h,hz,fun q=>q,rfl⟩
 | (off,n,x)::ps,z,m,Q,hz,h=>by
  obtain ⟨s,h1,hs⟩:=zH he (x:=x) (Q:=fun v=>req (xL n (yK v)&&qF (yK v)) (match yF off (yK v) z with | some z=>tD E ps z Q | none=>False)) h
  obtain ⟨e,h1⟩:=jH h1;simp only [Bool.and_eq_true] at e;split at h1
  ·rename_i z' hz';have hc:=hs.cells;obtain ⟨m',hm',hz2⟩:=jOu hz' hc hz;obtain ⟨l,r,g1,g2,g3,g4,g5⟩:=jDa he hz2 h1;have hsz:xL n (x.ev τ).cells=true:=by
    have:=vB _ _ e.1;rw [←hc.len] at this;rw [←this]; exact jFl _
   have hone:=hc.ones e.2;refine ⟨l,r,?_,g2,g3,fun q=>g4 (jEw hz' e.2 q),by rw [g5,vF hz']⟩
   simp only [kZ,hsz,hone,Bool.and_self,if_true,hm',g1]
  ·exact h1.elim
theorem jLm (hr:Rl C W H σ) {e:Nat} {l:List SV} {cs:List AV} (hl:svs C W H σ l cs) (h1:qF l=true) {k:Nat→AV} {ks:Nat→SV} {Q:QO} (h:bO H e (.l l) fun i H t=>Q (ks i) H t)
  (hk:∀ W' H' σ',W'.as H.length=σ.nx→H'[H.length]?=some ⟨e,0,.l l⟩→sv C W' H' σ' (ks H.length) (k σ.nx)):OO C W H σ (pC σ e true cs k) Q:=by
 unfold bO at h;rw [qG] at h;rw [jBq (hl.ones h1)];obtain ⟨W',g1,g2,g3,g4⟩:=qCx (σ':=⟨Tr.put σ.t σ.nx (some ⟨e,true,cs⟩),σ.nx+1,σ.it⟩) hr (e:=e) (c:=.l l) (blk:=⟨e,true,cs⟩) trivial rfl rfl (fun b=>kW _ _ _ _) rfl (fun W' on=>⟨svs.on on _ _ hl,h1⟩);exact ⟨_,_,_,W',_,_,rfl,h,g1,g2,hk _ _ _ g4 (by simp),g3⟩
theorem qEn (hr:Rl C W H σ) {e:Nat} {z:List AV} {Q:QO} (h:req (gJ z&&jS z) (bO H e (.l (ofAs z)) fun i H t=>Q (.tp i 0 0) H t)):OO C W H σ (pC σ e true z fun b=>.p b 0) Q:=by
 obtain ⟨hz,h⟩:=jH h;simp only [Bool.and_eq_true] at hz;exact jLm hr (svs.ofAs z hz.1) (jIb hz.1 hz.2) (ks:=fun i=>.tp i 0 0) h fun W' H' σ' e1 e2=>⟨rfl,_,e2,Nat.le_refl _,fun _=>by rw [e1]⟩
theorem qNc (hr:Rl C W H σ) {e:Nat} {s:SV} {x:X} {τ:T} (hx:sv C W H σ s (x.ev τ)) {Q:QO} (h:req (qF (yK s)) (bO H e (.l (yK s)) fun i H t=>Q (.tp i 0 0) H t)):OO C W H σ (eBx e (x.ev τ).cells σ) Q:=by
 obtain ⟨hz,h⟩:=jH h;have:eBx e (x.ev τ).cells σ=pC σ e true (x.ev τ).cells fun b=>.p b 0:=by simp only [eBx,hx.cells.ones hz,if_true]
 rw [this];exact jLm hr hx.cells hz (ks:=fun i=>.tp i 0 0) h fun W' H' σ' e1 e2=>⟨rfl,_,e2,Nat.le_refl _,fun _=>by rw [e1]⟩
theorem qEp (hr:Rl C W H σ) {E:Env} {τ:T} (he:zY C W H σ E τ) {e sz len:Nat} {z:List AV} {ps:List (Nat×Nat×X)} {Q:QO}
  (h:req (gJ z&&jS z&&xL (Nat.mul len sz) z&&Nat.blt 0 len) (tD E ps (ofAs z) fun l=>bO H e (.l l) fun i H t=>Q (.ts i 0 len sz) H t)):OO C W H σ (eBs e sz len (kZ τ ps z) σ) Q:=by
 obtain ⟨hz,h⟩:=jH h;simp only [Bool.and_eq_true] at hz;obtain ⟨⟨⟨z1,z2⟩,z3⟩,z4⟩:=hz;obtain ⟨l,r,g1,g2,g3,g4,g5⟩:=jDa he (svs.ofAs z z1) h;rw [g1];have hlen:l.length=len*sz:=by
  rw [g5,←(svs.ofAs (C:=C) (W:=W) (H:=H) (σ:=σ) z z1).len]; exact vB _ _ z3
 have hpos:0<len:=by simpa [Nat.blt_eq] using z4
 exact jLm hr g3 (g4 (jIb z1 z2)) (k:=fun b=>.sl b 0 len sz) (ks:=fun i=>.ts i 0 len sz) g2 fun W' H' σ' e1 e2=>⟨rfl,_,e2,Nat.le_refl _,fun _=>⟨by rw [e1],hlen,hpos⟩⟩
theorem qMy (hr:Rl C W H σ) {E:Env} {τ:T} (he:zY C W H σ E τ) {z:List AV} {ps:List (Nat×Nat×X)} {Q:QO}
  (h:req (gJ z) (tD E ps (ofAs z) fun l=>Q (.agg l) H t0)):OO C W H σ (eP σ (xBd z ps τ)) Q:=by
 obtain ⟨hz,h⟩:=jH h;obtain ⟨l,r,g1,g2,g3,_,_⟩:=jDa he (svs.ofAs z hz) h;exact PO.oo hr ⟨.agg r,.agg l,by simp only [xBd,g1],g2,r,rfl,g3⟩
theorem qMl (hr:Rl C W H σ) {a:Nat} (hA:W.A a) {blk blk':xY} (hblk:σ.t.get a=some blk) (hs:Shp blk blk')
  (hget:∀ b,σ'.t.get b=if b=a then some blk' else σ.t.get b) (hnx:σ'.nx=σ.nx):Rl C W H σ'∧Mv W H σ W H σ'∧Tc ⟨true,[]⟩ W H σ W H σ':=by
 have oldH:∀ (j:Nat) (x:HB),H[j]?=some x→qB x.c→σ'.t.get (W.as j)=σ.t.get (W.as j):=fun j x hx hlx=>by
  rw [hget,if_neg]; intro e; exact (hr.nA j x hx hlx).1 (by rw [e]; exact hA)
 have go:Go' W σ W σ':=by
  refine ⟨fun _ h=>h,fun _ _ h=>h,fun b hb x hx=>?_,fun b x hx hg=>?_⟩
  ·by_cases e:b=a
   ·subst e; rw [hblk] at hx; cases hx; exact ⟨blk',by rw [hget,if_pos rfl],hs⟩
   ·exact ⟨x,by rw [hget,if_neg e]; exact hx,Shp.rfl' x⟩
  ·rw [hget,if_neg]; exact hg;rintro rfl; rw [(hr.A b hA).2.2] at hx; cases hx
 have on:On C W H σ W H σ':=⟨go,kY.refl _ _,hr.kok⟩;refine ⟨⟨hr.inj,fun i hb hi hl=>?_,fun i hb hi hl=>by rw [hnx]; exact hr.lt i hb hi hl,hr.nA,fun b hb=>?_,fun b x hx=>?_⟩,⟨go,kY.refl _ _,by omega,fun b _ h1 _=>?_,fun _ _ q=>.inl q,fun _ _ q=>.inl q,fun _ _ q=>q⟩,?_⟩
 ·obtain ⟨b0,g1,g2,g3,g4⟩:=hr.blk i hb hi hl;exact ⟨b0,by rw [oldH i hb hi hl]; exact g1,g2,g3,g4.on on⟩
 ·obtain ⟨g1,⟨x,g2⟩,g3⟩:=hr.A b hb;obtain ⟨x',hx',_⟩:=go.sh b hb x g2;exact ⟨by omega,⟨x',hx'⟩,g3⟩
 ·obtain ⟨g1,g2⟩:=hr.K b x hx;exact ⟨by omega,go.kk b x hx g2⟩
 ·rw [hget,if_neg]; rintro rfl; exact h1 hA
 ·intro κ hκ b;refine ⟨Iff.rfl,fun hk=>?_⟩;cases κ with
  | h i=>obtain ⟨x,hx,hlx,rfl⟩:=hk; exact oldH i x hx hlx
  | a=>cases hκ
  | c=>
   rw [hget,if_neg];intro e;have h0:(W.K b).isSome=true:=hk;rw [e,(hr.A a hA).2.2] at h0;cases h0
theorem qEe {b o:Nat} {vs cs:List AV} {blk:xY} (hg:σ.t.get b=some blk) (hp:yF o vs blk.cells=some cs):σ.store b o vs=some ⟨Tr.put σ.t b (some ⟨blk.elem,blk.plain,cs⟩),σ.nx,σ.it⟩:=by
 simp only [Mem.store,hg,hp]
theorem zM.put (hC:wP C) {T R m off n k:Nat} {cs vs r:List AV} (h:zM C W σ T R m cs) (hk:k<m) (hn:n≤((C.ct T 0).drop off).length) (hvl:vs.length=n) (hv:∀ (j:Nat) (ty:Ty),(((C.ct T 0).drop off).take n)[j]?=some ty→∃ c:AV,vs[j]?=some c∧TV C W σ ty c) (hok:∀ c,c∈vs→jYt c)
  (hp:yF (k*(C.ct T 0).length+off) vs cs=some r):zM C W σ T R m r:=by
 obtain ⟨κ,a1,a2,a3,a4,a5⟩:=h;refine ⟨κ,a1,a2,by rw [vF hp,a3],fun a j ty ha e=>?_,fun a ha=>?_⟩
 rotate_left
 ·refine a2.rp _ _ (fun j hj=>?_) (a5 a ha);show Pc _ ((r[a*(C.ct T 0).length+j]?).getD .ni);rw [uK hp];split
  ·rename_i q;obtain ⟨c,hc⟩:∃ c,vs[a*(C.ct T 0).length+j - (k*(C.ct T 0).length+off)]?=some c:=⟨_,List.getElem?_eq_some_iff.2 ⟨by omega,rfl⟩⟩
   rw [hc];exact (hok c (List.mem_of_getElem? hc)).pc
  ·exact Pc.rfl' _
 have hj:=(List.getElem?_eq_some_iff.1 e).1;rw [a2.len] at hj;rw [uK hp];simp at hn;by_cases q:k*(C.ct T 0).length+off≤a*(C.ct T 0).length+j∧a*(C.ct T 0).length+j<k*(C.ct T 0).length+off+vs.length
 ·rw [if_pos q];obtain ⟨d,hd⟩:∃ d,a*(C.ct T 0).length+j=k*(C.ct T 0).length+(off+d):=⟨a*(C.ct T 0).length+j - (k*(C.ct T 0).length+off),by omega⟩
  have hdn:d<n:=by omega
  obtain ⟨rfl,rfl⟩:=qCg hj (show off+d<(C.ct T 0).length by omega) hd
  obtain ⟨t0,ht0⟩:∃ t0,(C.ct T 0)[off+d]?=some t0:=⟨_,List.getElem?_eq_some_iff.2 ⟨hj,rfl⟩⟩;obtain ⟨c,h1,h2⟩:=hv d t0 (by rw [List.getElem?_take,if_pos hdn,List.getElem?_drop]; exact ht0)
  exact ⟨c,by rw [show a*(C.ct T 0).length+(off+d) - (a*(C.ct T 0).length+off)=d by omega]; exact h1,h2.rank ty (hC.sub _ _ _ _ _ _ (Nat.zero_le _) ht0 e)⟩
 ·rw [if_neg q]; exact a4 a j ty ha e
theorem jOp {s:List SV}:∀ {v:List AV},svs C W H σ s v→jOo s→(∀ x,x∈s→nT x)→∀ c,c∈v→jYt c:=by
 induction s with
 | nil=>intro v h _ _ c hc; simp only [svs] at h; subst h; cases hc
 | cons x r ih=>
  intro v h k q c hc;obtain ⟨y,l,rfl,h1,h2⟩:=h;rcases List.mem_cons.1 hc with rfl | hc
  ·exact qIf (q x (List.mem_cons_self ..)) h1 k.1
  ·exact ih h2 k.2 (fun x hx=>q x (List.mem_cons_of_mem _ hx)) c hc
theorem TV.shape {ty:Ty} {c c':AV} (hf:jDe ty=true) (h:TV C W σ ty c) (h':TV C W σ ty c') (hok:jYt c'):ShC c c':=by
 cases h<;>cases h'<;>first | (simp [jDe] at hf; done) | skip
 ·exact .inr (.inl ⟨_,_,_,rfl,rfl,fun q=>absurd q hok⟩)
 ·exact .inr (.inr (.inl ⟨_,_,rfl,rfl⟩))
 ·rename_i h1 h2 _ _ h3 h4; simp only [jDe] at hf; exact .inr (.inr (.inr ⟨_,_,_,_,rfl,rfl,by rw [Nat.eq_of_beq_eq_true hf] at h4; exact h4,by assumption,fun _=>hok⟩))
theorem jOl:∀ {l:List Ty},jRy l=true→∀ (j q:Nat),l[j]?≠some (.s q)
 | [],_,j,q=>by simp
 | t::r,h,j,q=>by
  cases j with
  | zero=>
   intro e;simp at e; subst e;simp [jRy] at h
  | succ j=>
   have h':jRy r=true:=by cases t<;>first | exact h | simp [jRy] at h
   simpa using jOl h' j q
theorem qIg {ct:List Ty} {off:Nat} {l:List Ty} {j q:Nat} (h:jYu ct off l=true) (e:l[j]?=some (.s q)):∃ k,off=k+1∧l.length=1∧ct[k]?=some .b:=by
 unfold jYu at h;rcases Bool.or_eq_true_iff.1 h with h | h
 ·exact absurd e (jOl h j q)
 ·cases off with
  | zero=>cases h
  | succ k=>
   match l,h with
   | [t],h=>
    refine ⟨k,rfl,rfl,?_⟩;rw [←jZ];cases q:zO ct k with
    | none=>simp [q] at h
    | some z=>cases z<;>simp [q] at h; rfl
theorem tZ:∀ {l:List Ty},tY l=true→∀ (j:Nat) (ty:Ty),l[j]?=some ty→jDe ty=true
 | [],_,j,ty,e=>by simp at e
 | t::r,h,j,ty,e=>by
  simp only [tY,Bool.and_eq_true] at h;cases j with
  | zero=>simp at e; subst e; exact h.1
  | succ j=>exact tZ h.2 j ty (by simpa using e)
theorem qNu (hC:wP C) (hr:Rl C W H σ) {n:Nat} {s u:SV} {a x:X} {τ:T} (ha:sv C W H σ s (a.ev τ)) (hx:sv C W H σ u (x.ev τ)) {Q:QO} (h0:wSt C H n s u fun H t=>Q kS H t):OO C W H σ (eSt n a x τ σ) Q:=by
 unfold wSt at h0;obtain ⟨e,h⟩:=jH h0;clear h0;simp only [Bool.and_eq_true] at e;have hc:=hx.cells;have hlen:(x.ev τ).cells.length=n:=by rw [hc.len]; exact vB _ _ e.1
 have hsz:xL n (x.ev τ).cells=true:=by rw [←hlen]; exact jFl _
 have hone:=hc.ones e.2;have run:∀ {b o:Nat} {blk:xY} {cs:List AV},a.ev τ = .p b o→σ.t.get b=some blk→yF o (x.ev τ).cells blk.cells=some cs→eSt n a x τ σ=some (wE,⟨Tr.put σ.t b (some ⟨blk.elem,blk.plain,cs⟩),σ.nx,σ.it⟩):=by
  intro b o blk cs e1 e2 e3;simp only [eSt,e1,qLb,hsz,hone,Bool.and_self,if_true,qEe e2 e3]
 split at h
 ·rename_i i g off;obtain ⟨hb,hi,hg,h2⟩:=qU h;have hv:=qS ha.2 hi hg;split at h2
  ·rename_i l hl;have hlive:qB hb.c:=by rw [hl]; trivial
   obtain ⟨blk,g1,g2,g3,g4⟩:=hr.blk i hb hi hlive;rw [hl] at g4;split at h2
   ·rename_i l' hl';obtain ⟨cs,hp,hcs⟩:=jOu hl' hc g4.1;have hone':=jEw hl' e.2 g4.2;obtain ⟨k1,k2,k3⟩:=jLl (σ':=⟨Tr.put σ.t (W.as i) (some ⟨blk.elem,blk.plain,cs⟩),σ.nx,σ.it⟩) (hb':=⟨hb.e,hb.g,.l l'⟩) hr hi hlive rfl rfl (by rw [hl]; exact (vF hl').symm) g1 rfl rfl (fun b=>kW _ _ _ _) rfl (fun on=>⟨svs.on on _ _ hcs,hone'⟩) (blk':=⟨blk.elem,blk.plain,cs⟩)
    exact ⟨_,_,kS,W,_,_,run hv g1 hp,h2,k1,k2,⟨[],rfl,rfl⟩,k3⟩
   ·exact h2.elim
  ·exact h2.elim
 ·rename_i i g k off;obtain ⟨hb,hi,hg,h2⟩:=qU h;have hv:=qS ha.2 hi hg;split at h2
  ·rename_i T r m hcc;rw [hcc] at hv;obtain ⟨hkm,hv⟩:=hv;have hlive:qB hb.c:=by rw [hcc]; show m≠0; omega
   obtain ⟨blk,g1,g2,g3,g4⟩:=hr.blk i hb hi hlive;rw [hcc] at g4;split at h2
   ·rename_i l hl;obtain ⟨rfl,hn⟩:=yY _ _ _ hl;rw [xA] at h2 hn;obtain ⟨hoff,h2⟩:=jH h2;have hoff:=Nat.le_of_ble_eq_true hoff;rw [qG] at hoff;obtain ⟨f1,f2⟩:=jDc hC hr.kok hc h2.1.1;obtain ⟨cs,hp⟩:=mU (k*(C.ct T 0).length+off) (x.ev τ).cells blk.cells (by
     rw [zM.len g4,hlen];simp at hn;have:(k+1)*(C.ct T 0).length≤m*(C.ct T 0).length:=Nat.mul_le_mul_right _ hkm;rw [Nat.add_mul,Nat.one_mul] at this;have hpos:=hC.pos T 0;omega)
    have hrows':=zM.put hC g4 hkm hn hlen f2 (jOp hc h2.1.2 (jKc h2.1.1)) hp;obtain ⟨k1,k2,k3⟩:=jLl (σ':=⟨Tr.put σ.t (W.as i) (some ⟨blk.elem,blk.plain,cs⟩),σ.nx,σ.it⟩) (hb':=hb) hr hi hlive rfl rfl (zV.refl _) g1 rfl rfl (fun b=>kW _ _ _ _) rfl (fun on=>by
     rw [hcc];exact hrows'.go on.go on.k) (blk':=⟨blk.elem,blk.plain,cs⟩)
    rw [jIs _ _ _ hi] at k1 k2 k3;exact ⟨_,_,kS,W,_,_,run hv g1 hp,h2.2,k1,k2,⟨[],rfl,rfl⟩,k3⟩
   ·exact h2.elim
  ·exact h2.elim
 ·rename_i T r off;obtain ⟨b,o,blk,hv,p1,p2,p3,_,p4⟩:=ha;split at h
  ·rename_i l hl;obtain ⟨rfl,hn⟩:=yY _ _ _ hl;rw [xA] at h hn;obtain ⟨fe,f0,h2⟩:=jH h;simp only [Bool.and_eq_true,Bool.not_eq_true'] at fe;obtain ⟨fe,hoff⟩:=fe;have hoff:=Nat.le_of_ble_eq_true hoff;rw [qG] at hoff;obtain ⟨f0,f00⟩:=f0;obtain ⟨f1,f2⟩:=jDc hC hr.kok hc f0;have hA:W.A b:=by
    rcases p1 with p1 | ⟨p1,_⟩
    ·exact p1
    ·rw [hC.str T 0 r,fe.2] at p1; cases p1
   simp at hn;have hpos:=hC.pos T r;have hlr:=hC.len T r 0;obtain ⟨cs,hp⟩:=mU (o+off) (x.ev τ).cells blk.cells (by
    obtain ⟨ty,hty⟩:∃ ty,(C.ct T r)[(C.ct T 0).length - 1]?=some ty:=⟨_,List.getElem?_eq_some_iff.2 ⟨by omega,rfl⟩⟩
    obtain ⟨c,e1,_⟩:=p4 _ ty hty;have:=(List.getElem?_eq_some_iff.1 e1).1;rw [hlen]; omega)
   obtain ⟨k1,k2,k3⟩:=qMl (σ':=⟨Tr.put σ.t b (some ⟨blk.elem,blk.plain,cs⟩),σ.nx,σ.it⟩) hr hA p2 (blk':=⟨blk.elem,blk.plain,cs⟩) ⟨vF hp,rfl,rfl,fun m c e1=>by
    show ∃ c',cs[m]?=some c'∧_;rw [uK hp];split
    ·rename_i hm;rw [hlen] at hm;obtain ⟨ty,hty⟩:∃ ty,(C.ct T r)[m - o]?=some ty:=⟨_,List.getElem?_eq_some_iff.2 ⟨by omega,rfl⟩⟩
     have hty2:((List.drop off (C.ct T r)).take n)[m - (o+off)]?=some ty:=by
      rw [List.getElem?_take,if_pos (by omega),List.getElem?_drop,show off+(m - (o+off))=m - o by omega]; exact hty
     obtain ⟨c',e2,t2⟩:=f2 _ ty hty2;obtain ⟨c0,e3,t3⟩:=p4 _ ty hty;rw [show o+(m - o)=m by omega,e1] at e3; cases e3
     exact ⟨c',e2,t3.shape (tZ fe.1.1 _ _ hty2) t2 (jOp hc f00 (jKc f0) _ (List.mem_of_getElem? e2))⟩
    ·exact ⟨c,e1,.inl rfl⟩,fun m n0 v0 e1 hb=>by
    show cs[m+1]?=_;rw [uK hp];split
    ·rename_i hm;rw [hlen] at hm;exfalso;obtain ⟨ty,hty⟩:∃ ty,(C.ct T r)[m+1 - o]?=some ty:=⟨_,List.getElem?_eq_some_iff.2 ⟨by omega,rfl⟩⟩
     have hty2:((List.drop off (C.ct T r)).take n)[m+1 - (o+off)]?=some ty:=by
      rw [List.getElem?_take,if_pos (by omega),List.getElem?_drop,show off+(m+1 - (o+off))=m+1 - o by omega]; exact hty
     obtain ⟨c0,e3,t3⟩:=p4 _ ty hty;rw [show o+(m+1 - o)=m+1 by omega,e1] at e3; cases e3
     have hfl:=tZ fe.1.1 _ _ hty2;cases t3 with
     | t=>simp [jDe] at hfl
     | s q _ _ _ _=>
      obtain ⟨k,rfl,el,eb⟩:=qIg fe.1.2 hty2;have e0:m+1 - (o+(k+1))=0:=by
       have:=(List.getElem?_eq_some_iff.1 hty2).1; omega
      obtain ⟨c0,e4,t4⟩:=p4 _ _ eb;cases t4;exact hb _ (by rw [←e4]; congr 1; omega)
    ·exact e1⟩ (fun b=>kW _ _ _ _) rfl
   exact ⟨_,_,kS,W,_,_,run hv p2 hp,h2,k1,k2,⟨[],rfl,rfl⟩,k3⟩
  ·exact h.elim
 ·exact h.elim
end
end
noncomputable section
set_option linter.all false
open Go
section
variable {C:Cx} {W W':Wd} {H H':Hp} {σ σ':Mem}
theorem gB.sub {l l':List (Nat×Nat)} (h:gB l) (k:∀ p,p∈l'→p∈l):gB l':=fun p hp=>h p (k p hp)
theorem qFz {sz b o n n0 p q:Nat} {x:X} {lo hi:Option X} {τ:T} (hv:x.ev τ = .sl b o n sz) (hb:fE n (X.evO τ lo) (X.evO τ hi)=some (p,q)) (hpq:p≤q) :
  ∃ b' o',xSl sz x lo hi τ=some (.sl b' o' (q - p) sz)∧(p<q→b'=b∧o'=o+p*sz):=by
 have e0:Nat.beq sz sz=true:=by simp
 simp only [xSl,hv,e0,if_true,hb,pV,uL];by_cases e:p=q
 ·subst e;by_cases e1:p=0
  ·exact ⟨b,o,by simp [e1],fun h=>absurd h (Nat.lt_irrefl _)⟩
  ·exact ⟨0,0,by simp [e1],fun h=>absurd h (Nat.lt_irrefl _)⟩
 ·exact ⟨b,o+p*sz,by simp [e,qI],fun _=>⟨rfl,rfl⟩⟩
theorem jLu {sz p q:Nat} {x:X} {lo hi:Option X} {τ:T} (hv:x.ev τ = .sl0) (hb:fE 0 (X.evO τ lo) (X.evO τ hi)=some (p,q)):xSl sz x lo hi τ=some .sl0:=by
 simp only [xSl,hv,hb]
theorem XV.cut {l:List (Nat×Nat)} {p q:Nat} {x:X} {lo hi:Option X} {τ:T} (h:XV W l (x.ev τ)) (hb:fE l.length (X.evO τ lo) (X.evO τ hi)=some (p,q)) (hpq:p≤q) (hq:q≤l.length) :
  ∃ v,xSl 1 x lo hi τ=some v∧XV W ((l.drop p).take (q - p)) v:=by
 obtain ⟨h0,h⟩:=h;have h0':gB ((l.drop p).take (q - p)):=h0.sub fun a ha=>List.mem_of_mem_drop (List.mem_of_mem_take ha);rcases h with ⟨hv,rfl⟩ | ⟨b,o,hv,h⟩
 ·exact ⟨_,jLu hv hb,by simp [gB],.inl ⟨rfl,by simp⟩⟩
 ·obtain ⟨b',o',e1,e2⟩:=qFz (n0:=0) hv hb hpq;have hlen:((l.drop p).take (q - p)).length=q - p:=by simp; omega
  refine ⟨_,e1,h0',.inr ⟨b',o',by rw [hlen],?_⟩⟩
  by_cases e:p<q
  ·obtain ⟨rfl,rfl⟩:=e2 e;rcases h with rfl | ⟨blk,hK,hc⟩
   ·simp at hq; omega
   ·refine .inr ⟨blk,hK,fun m a ha=>?_⟩;rw [List.getElem?_take] at ha;split at ha
    ·rw [List.getElem?_drop] at ha;rw [Nat.mul_one,Nat.add_assoc];exact hc _ _ ha
    ·cases ha
  ·left; have:q - p=0:=by omega
   rw [this]; simp
theorem QV.cut {T r n p q:Nat} {x:X} {lo hi:Option X} {τ:Ev.T} (h:QV C W σ T r n (x.ev τ)) (hb:fE n (X.evO τ lo) (X.evO τ hi)=some (p,q)) (hpq:p≤q) (hq:q≤n) :
  ∃ v,xSl (C.ct T 0).length x lo hi τ=some v∧QV C W σ T r (q - p) v:=by
 obtain ⟨ht,h⟩:=h;rcases h with ⟨hv,rfl⟩ | ⟨b,o,hv⟩
 ·exact ⟨_,jLu hv hb,.q0 _ _,.inl ⟨rfl,by omega⟩⟩
 ·obtain ⟨b',o',e1,e2⟩:=qFz (n0:=0) hv hb hpq;refine ⟨_,e1,?_,.inr ⟨_,_,rfl⟩⟩;by_cases e:p<q
  ·obtain ⟨rfl,rfl⟩:=e2 e;rw [hv] at ht;cases ht with
   | qe=>omega
   | q _ _ _ _ _ kn blk k1 k2 κ ks k3 cs k4 k5 k6=>
    refine .q T r _ _ _ (Nat.le_trans (show q - p≤n by omega) kn) blk k1 k2 (fun k=>κ (p+k)) (Nat.le_trans (qEh (ρ:=fun k=>oS C T (κ k)) (by omega)) ks) k3 (fun m=>cs (p*(C.ct T 0).length+m)) (fun m hm=>?_) (fun k j ty hk hj=>?_) (fun k hk=>?_)
    ·rw [Nat.add_assoc];refine k4 _ ?_;have:(p+(q - p))*(C.ct T 0).length≤n*(C.ct T 0).length:=Nat.mul_le_mul_right _ (by omega)
     rw [Nat.add_mul] at this;omega
    ·have:=k5 (p+k) j ty (by omega) hj
     rw [Nat.add_mul,Nat.add_assoc] at this;exact this
    ·have:=k6 (p+k) (by omega)
     simp only [Nat.add_mul,Nat.add_assoc] at this ⊢;exact this
  ·have:q - p=0:=by omega
   rw [this]; exact .qe _ _ _ _
theorem jDl (hr:Rl C W H σ) {i n sz:Nat} {hb:HB} {l:List (Nat×Nat)} {v:AV} (hi:H[i]?=some hb) (hc:hb.c = .xs l) (ht:sX C (W.as i) n sz v hb.c) {Wf:Wd} (hf:kX W H σ Wf i) (hcn:l=[]∨gB l):XV Wf l v:=by
 rw [hc] at ht;obtain ⟨rfl,rfl,rfl⟩:=ht;by_cases e:l=[]
 ·subst e; exact ⟨by simp [gB],.inl ⟨rfl,rfl⟩⟩
 ·have hl:qB hb.c:=by rw [hc]; exact e
  obtain ⟨blk,g1,g2,g3,g4⟩:=hr.blk i hb hi hl;rw [hc] at g4;obtain ⟨blk',k1,k2⟩:=(hf hb hi hl).1 (by rw [hc]; rfl)
  rw [g1] at k1; cases k1;have:l.length≠0:=by intro q; exact e (List.eq_nil_of_length_eq_zero q)
  rw [if_neg this];refine ⟨g4.2,.inr ⟨_,_,rfl,.inr ⟨blk,k2,fun m p hp=>?_⟩⟩⟩;rw [g4.1,Nat.zero_add,List.getElem?_map,hp]; rfl
theorem qKe {n:Nat} (hNB:n≤NB) (hr:Rl C W H σ) {i sz T r m:Nat} {hb:HB} {v:AV} (hi:H[i]?=some hb) (hc:hb.c = .r T r m) (ht:sX C (W.as i) n sz v hb.c) {Wf:Wd} (hf:kX W H σ Wf i) (go:Go' W σ Wf σ):QV C Wf σ T r n v:=by
 rw [hc] at ht;obtain ⟨rfl,rfl,rfl⟩:=ht;by_cases e:m=0
 ·subst e; exact ⟨.q0 _ _,.inl ⟨rfl,rfl⟩⟩
 ·have hl:qB hb.c:=by rw [hc]; exact e
  obtain ⟨blk,g1,g2,g3,g4⟩:=hr.blk i hb hi hl;rw [hc] at g4;have hA:=(hf hb hi hl).2 (by rw [hc]; rfl)
  rw [if_neg e];exact ⟨(zM.go go hr.kok g4).tv hNB (.inl hA) g1 fun k hk=>by rw [Nat.zero_add],.inr ⟨_,_,rfl⟩⟩
theorem qPg {n:Nat} (hNB:n≤NB) (hr:Rl C W H σ) {i T r:Nat} {hb:HB} {l:List SV} {v:AV} (hi:H[i]?=some hb) (hc:hb.c = .l l) (ht:sX C (W.as i) n (C.ct T 0).length v hb.c) {Wf:Wd} (hf:kX W H σ Wf i) (go:Go' W σ Wf σ)
  {blk:xY} (g1:σ.t.get (W.as i)=some blk) (hrow:zM C W σ T r n blk.cells):QV C Wf σ T r n v:=by
 rw [hc] at ht;obtain ⟨rfl,h1,h2⟩:=ht;have hl:qB hb.c:=by rw [hc]; trivial
 have hA:=(hf hb hi hl).2 (by rw [hc]; rfl)
 exact ⟨(zM.go go hr.kok hrow).tv hNB (.inl hA) g1 fun k hk=>by rw [Nat.zero_add],.inr ⟨_,_,rfl⟩⟩
theorem rA (hr:Rl C W H σ) {i:Nat} {hb:HB} {l:List (Nat×Nat)} (hi:H[i]?=some hb) (hc:hb.c = .xs l):l=[]∨gB l:=by
 by_cases e:l=[]
 ·exact .inl e
 ·obtain ⟨blk,g1,g2,g3,g4⟩:=hr.blk i hb hi (by rw [hc]; exact e)
  rw [hc] at g4; exact .inr g4.2
theorem qNs (hr:Rl C W H σ) {E:Env} {τ:T} (he:zY C W H σ E τ) {sz:Nat} {s:SV} {x:X} {lo hi:Option X} {Q:QO} (hx:sv C W H σ s (x.ev τ)) (h0:wSl C H sz s lo hi E Q):OO C W H σ (eP σ (xSl sz x lo hi τ)) Q:=by
 unfold wSl at h0;split at h0
 ·obtain ⟨a,h,ha⟩:=kV he h0;obtain ⟨b,h,hb⟩:=kV he h;obtain ⟨hab,h⟩:=h;have:=bT (n:=0) ha (by simpa using hb) hab
  exact PO.oo hr ⟨_,_,jLu hx this,h,rfl⟩
 ·rename_i T r n;obtain ⟨e,h⟩:=jH h0;have e':sz=(C.ct T 0).length:=by rw [Nat.eq_of_beq_eq_true e,qG]
  obtain ⟨a,h,ha⟩:=kV he h;obtain ⟨b,h,hb⟩:=kV he h;obtain ⟨hab,h⟩:=h;have hbd:=bT ha hb hab;obtain ⟨v,e1,e2⟩:=QV.cut hx hbd (by omega) (by omega)
  rw [e'];exact PO.oo hr ⟨_,_,e1,h _ (by omega),e2⟩
 ·rename_i l;obtain ⟨e,h⟩:=jH h0;cases Nat.eq_of_beq_eq_true e;obtain ⟨a,h,ha⟩:=kV he h;obtain ⟨b,h,hb⟩:=kV he h;obtain ⟨hab,h⟩:=h;have hbd:=bT ha hb hab;obtain ⟨v,e1,e2⟩:=XV.cut hx hbd (by omega) (by omega)
  refine PO.oo hr ⟨_,_,e1,h,?_⟩;rw [show (b - a).toNat=b.toNat - a.toNat by omega]; exact e2
 ·rename_i i g n sz';obtain ⟨hb,hi',hg,h⟩:=qU h0;have ht:=qS hx.2 hi' hg;split at h
  ·rename_i l hc;obtain ⟨e,h⟩:=jH h;cases Nat.eq_of_beq_eq_true e;obtain ⟨a,h,ha⟩:=kV he h;obtain ⟨b,h,hbb⟩:=kV he h;obtain ⟨hab,h⟩:=h;obtain ⟨Wf,f1,f2,f3,f4,_⟩:=eJ hr i;have hX:=jDl hr hi' hc ht f4 (rA hr hi' hc);have hbd:=bT ha hbb hab;obtain ⟨v,e1,e2⟩:=XV.cut hX hbd (by omega) (by omega)
   refine ⟨v,σ,_,Wf,_,_,by rw [e1]; rfl,h,f1,f2,?_,f3⟩
   rw [show (b - a).toNat=b.toNat - a.toNat by omega]; exact e2
  ·exact h.elim
 ·exact h0.elim
theorem jVe {b o n:Nat} {blk:xY} (hg:σ.t.get b=some blk) (h:n≤(blk.cells.drop o).length):σ.load b o n=some ((blk.cells.drop o).take n):=by
 simp only [Mem.load,hg,xA,gO h]
theorem sL {b o n sz:Nat} {blk:xY} (hg:σ.t.get b=some blk) (h:n*sz≤(blk.cells.drop o).length):iS σ sz (.sl b o n sz)=some (n,(blk.cells.drop o).take (n*sz)):=by
 have e0:Nat.beq sz sz=true:=by simp
 simp only [iS,e0,if_true,uL];by_cases e:n=0
 ·subst e; simp
 ·simp [e,jVe hg h]
theorem jWg (hC:wP C) (hr:Rl C W H σ) {T:Nat} {s:SV} {v:AV} {Q:Nat→Nat→Prop} (hx:sv C W H σ s v) (h0:jSx C H T s Q) :
  ∃ R m news,iS σ (C.ct T 0).length v=some (m,news)∧Q R m∧zM C W σ T R m news:=by
 unfold jSx at h0;split at h0
 ·cases hx; exact ⟨0,0,[],rfl,h0,zM.nil (cpl.of hC T)⟩
 ·rename_i T' r' m;obtain ⟨e,h2⟩:=jH h0;cases Nat.eq_of_beq_eq_true e;obtain ⟨ht,hx⟩:=hx;rcases hx with ⟨rfl,rfl⟩ | ⟨b,o,rfl⟩
  ·exact ⟨r',0,[],rfl,h2,zM.nil (cpl.of hC T)⟩
  ·by_cases e0:m=0
   ·subst e0;exact ⟨r',0,[],by simp [iS],h2,zM.nil (cpl.of hC T)⟩
   ·cases ht with
    | qe=>exact absurd rfl e0
    | q _ _ _ _ _ kn blk k1 k2 κ ks kp cs k4 k5 k6=>
     have hL:=hC.pos T 0;have hle:m*(C.ct T 0).length≤(blk.cells.drop o).length:=by
      have hp:0<m*(C.ct T 0).length:=Nat.mul_pos (by omega) hL
      have:=(List.getElem?_eq_some_iff.1 (k4 (m*(C.ct T 0).length - 1) (by omega))).1
      simp; omega
     refine ⟨r',m,_,sL k2 hle,h2,κ,ks,kp,by simp at hle ⊢; omega,fun k j ty hk hj=>⟨_,?_,k5 k j ty hk hj⟩,fun k hk=>?_⟩
     rotate_left
     ·refine kp.rp _ _ (fun j hj'=>?_) (k6 k hk);have:=lW (L:=(C.ct T 0).length) hk hj';rw [List.getElem?_take,if_pos this,List.getElem?_drop,k4 _ this];exact Pc.rfl' _
     have hj':=(List.getElem?_eq_some_iff.1 hj).1;rw [kp.len] at hj';have:=lW (L:=(C.ct T 0).length) hk hj';rw [List.getElem?_take,if_pos this,List.getElem?_drop];exact k4 _ this
 ·rename_i j g m sz;obtain ⟨e,h⟩:=jH h0;have e':sz=(C.ct T 0).length:=by rw [Nat.eq_of_beq_eq_true e,qG]
  subst e';obtain ⟨hb,hi,hg,h⟩:=qU h;have ht:=qS hx.2 hi hg;split at h
  ·rename_i l hc;rw [hc] at ht;obtain ⟨rfl,h1,h2⟩:=ht;obtain ⟨blk,g1,g2,g3,g4⟩:=hr.blk j hb hi (by rw [hc]; trivial)
   rw [hc] at g4;obtain ⟨R,hR,hrows⟩:=tX hC hr.kok g4.1 h;have hle:m*(C.ct T 0).length≤(blk.cells.drop 0).length:=by rw [List.drop_zero,hrows.len]; exact Nat.le_refl _
   refine ⟨R,m,_,sL g1 hle,hR,?_⟩;rw [List.drop_zero,List.take_of_length_le (by rw [hrows.len]; exact Nat.le_refl _)]
   exact hrows
  ·exact h.elim
 ·exact h0.elim
def jLe (l:List (Nat×Nat)):List AV:=l.map fun p=>AV.s p.1 p.2
theorem dR:∀ {l:List SV} {v:List AV} {Q:List (Nat×Nat)→Prop},svs C W H σ l v→vN l Q→∃ m,Q m∧v=jLe m∧gB m∧m.length=l.length
 | [],v,Q,h,k=>by simp only [svs] at h; subst h; exact ⟨[],k,rfl,by simp [gB],rfl⟩
 | x::r,v,Q,h,k=>by
  obtain ⟨y,t,rfl,h1,h2⟩:=h;cases x<;>simp only [vN] at k<;>try exact k.elim
  rename_i n u;obtain ⟨m,k1,rfl,k3,k4⟩:=dR h2 k;obtain ⟨rfl,h0⟩:=h1;refine ⟨(n,u)::m,k1,rfl,fun p hp=>?_,by simp [k4]⟩
  rcases List.mem_cons.1 hp with rfl | hp
  ·exact h0
  ·exact k3 p hp
theorem jLd (hr:Rl C W H σ) {s:SV} {v:AV} {Q:List (Nat×Nat)→Prop} (hx:sv C W H σ s v) (h0:jSy H s Q):∃ l,iS σ 1 v=some (l.length,jLe l)∧Q l∧gB l:=by
 unfold jSy at h0;split at h0
 ·cases hx; exact ⟨[],rfl,h0,by simp [gB]⟩
 ·rename_i l;obtain ⟨hcn,hx⟩:=hx;refine ⟨l,?_,h0,hcn⟩;rcases hx with ⟨rfl,rfl⟩ | ⟨b,o,rfl,hx⟩
  ·rfl
  ·rcases hx with rfl | ⟨blk,hK,hc⟩
   ·rfl
   ·by_cases e:l=[]
    ·subst e; rfl
    ·have hpos:0<l.length:=by cases l with | nil=>exact absurd rfl e | cons a l=>simp
     have hle:l.length*1≤(blk.cells.drop o).length:=by
      have:=(List.getElem?_eq_some_iff.1 (hc (l.length - 1) _ (List.getElem?_eq_getElem (by omega)))).1
      simp; omega
     rw [sL (hr.K _ _ hK).2 hle]
     congr 2
     rw [Nat.mul_one] at hle ⊢;apply List.ext_getElem?;intro m;rw [List.getElem?_take,jLe,List.getElem?_map];split
     ·rename_i hm;rw [List.getElem?_drop,hc m _ (List.getElem?_eq_getElem hm),List.getElem?_eq_getElem hm]; rfl
     ·rename_i hm;rw [List.getElem?_eq_none (by omega)]; rfl
 ·rename_i j g m sz;obtain ⟨e,h⟩:=jH h0;cases Nat.eq_of_beq_eq_true e;obtain ⟨hb,hi,hg,h⟩:=qU h;have ht:=qS hx.2 hi hg;split at h
  ·rename_i l hc;rw [hc] at ht;obtain ⟨rfl,h1,h2⟩:=ht;obtain ⟨blk,g1,g2,g3,g4⟩:=hr.blk j hb hi (by rw [hc]; trivial)
   rw [hc] at g4;obtain ⟨_,h⟩:=jH h;obtain ⟨l',k1,k2,k3,k4⟩:=dR g4.1 h;have hbl:blk.cells.length=m:=by rw [g4.1.len,h1,Nat.mul_one]
   refine ⟨l',?_,k1,k3⟩;rw [sL g1 (by rw [List.drop_zero,hbl,Nat.mul_one]; exact Nat.le_refl _),List.drop_zero,List.take_of_length_le (by rw [hbl,Nat.mul_one]; exact Nat.le_refl _),k2,k4,h1,Nat.mul_one]
  ·exact h.elim
 ·exact h0.elim
theorem pP (l:List (Nat×Nat)):jS (jLe l)=true:=by
 rw [kG];intro i x e;rw [jLe,List.getElem?_map] at e;cases q:l[i]? with
 | none=>rw [q] at e; cases e
 | some p=>rw [q] at e; cases e; rfl
end
end
noncomputable section
set_option linter.all false
open Go
section
variable {C:Cx} {W W':Wd} {H H':Hp} {σ σ':Mem}
theorem eO (H:Hp) (hb:HB):(H++[hb])[H.length]?=some hb:=by simp
theorem jQu (hr:Rl C W H σ) {e sz by_ m:Nat} {news:List AV} {c:HC} (hl:m≠0→qB c) (hnl:m=0→¬ qB c) (hone:jS news=true)
  (hc:m≠0→∀ W' H' σ',On C W H σ W' H' σ'→zD C W' H' σ' c news) (hts:∀ a,sX C a m sz (if m=0 then .sl0 else .sl a 0 m sz) c)
  (hlen:m*by_≤100000000000000∧m≤100000000000000) {Q:QO} (h:bO H e c fun i H t=>Q (.ts i 0 m sz) H t):OO C W H σ (jMy e sz by_ m news .sl0 σ) Q:=by
 unfold bO at h;rw [qG] at h;have h1:Nat.ble (m*by_) 100000000000000=true:=Nat.ble_eq_true_of_le hlen.1;have h2:Nat.ble m 100000000000000=true:=Nat.ble_eq_true_of_le hlen.2;by_cases e0:m=0
 ·subst e0;obtain ⟨k1,k2,k3⟩:=jBk hr (hb':=⟨e,0,c⟩) (hnl rfl);refine ⟨.sl0,σ,_,W,_,_,rfl,h,k1,k2,?_,k3⟩;exact ⟨rfl,⟨e,0,c⟩,eO _ _,Nat.le_refl _,fun _=>by simpa using hts (W.as H.length)⟩
 ·obtain ⟨W',k1,k2,k3,k4⟩:=qCx (σ':=⟨Tr.put σ.t σ.nx (some ⟨e,true,news⟩),σ.nx+1,σ.it⟩) hr (e:=e) (c:=c) (blk:=⟨e,true,news⟩) (hl e0) rfl rfl (fun b=>kW _ _ _ _) rfl (fun W' on=>hc e0 _ _ _ on);refine ⟨.sl σ.nx 0 m sz,_,_,W',_,_,?_,h,k1,k2,?_,k3⟩
  ·simp only [jMy,uL,e0,decide_false,Bool.false_eq_true,if_false,h1,h2,Bool.and_self,if_true,qI,jBq hone]
  ·refine ⟨rfl,⟨e,0,c⟩,eO _ _,Nat.le_refl _,fun _=>?_⟩;have:=hts (W'.as H.length);rw [if_neg e0,k4] at this;show sX C (W'.as H.length) m sz _ c;rw [k4]; exact this
theorem jCd (hr:Rl C W H σ) {i e sz by_ n m g:Nat} {hb:HB} {news:List AV} {c':HC} {v:AV} (hi:H[i]?=some hb) (hg:hb.g=g) (he:hb.e=e)
  (hv:v=if n=0 then .sl0 else .sl (W.as i) 0 n sz) (hln:qB hb.c↔n≠0) (hm0:m=0→(qB c'↔qB hb.c)∧∀ (W':Wd) (H':Hp) (σ':Mem) (cs:List AV),zD C W' H' σ' hb.c cs→zD C W' H' σ' c' cs) (hl:m≠0→qB c') (hone:jS news=true)
  (hn0:n=0→m≠0→∀ W' H' σ',On C W H σ W' H' σ'→zD C W' H' σ' c' news)
  (hcs:n≠0→m≠0→∀ blk,σ.t.get (W.as i)=some blk→zD C W H σ hb.c blk.cells→blk.cells.length=n*sz∧jS blk.cells=true∧∀ W' H' σ',On C W H σ W' H' σ'→zD C W' H' σ' c' (blk.cells++news))
  (hts:∀ a,sX C a (n+m) sz (if n+m=0 then .sl0 else .sl a 0 (n+m) sz) c') (hlen:(n+m)*by_≤100000000000000∧n+m≤100000000000000)
  {Q:QO} (h:Q (.ts i (Nat.succ g) (n+m) sz) (jG H i ⟨e,Nat.succ g,c'⟩) ⟨false,[i]⟩):OO C W H σ (jMy e sz by_ m news v σ) Q:=by
 by_cases e0:m=0
 ·subst e0;obtain ⟨k1,k2,k3⟩:=qGv hr hi (hb':=⟨e,Nat.succ g,c'⟩) (by show hb.g<g+1; omega) he.symm (hm0 rfl)
  refine ⟨v,σ,_,W,_,_,?_,h,k1,k2,?_,k3⟩
  ·rw [hv];by_cases e1:n=0
   ·subst e1; rfl
   ·rw [if_neg e1]; rfl
  ·refine ⟨by rw [hv]; split<;>rfl,_,uE hi,Nat.le_refl _,fun _=>?_⟩
   have:=hts (W.as i);rw [Nat.add_zero] at this;rw [hv]; exact this
 ·by_cases e1:n=0
  ·subst e1;rw [if_pos rfl] at hv;subst hv;rw [Nat.zero_add] at hlen hts h;have h1:Nat.ble (m*by_) 100000000000000=true:=Nat.ble_eq_true_of_le hlen.1;have h2:Nat.ble m 100000000000000=true:=Nat.ble_eq_true_of_le hlen.2;obtain ⟨W',k1,k2,k3,k4⟩:=qDr (σ':=⟨Tr.put σ.t σ.nx (some ⟨e,true,news⟩),σ.nx+1,σ.it⟩) hr hi (hb':=⟨e,Nat.succ g,c'⟩) (by show g+1=hb.g+1; omega) (hl e0) (blk:=⟨e,true,news⟩) rfl rfl (by show (Tr.put σ.t σ.nx _).get σ.nx=_; rw [kW,if_pos rfl]) (fun b hb1 _=>by show (Tr.put σ.t σ.nx _).get b=_; rw [kW,if_neg (by omega)]) rfl (fun W' on=>hn0 rfl e0 _ _ _ on)
   refine ⟨.sl σ.nx 0 m sz,_,_,W',_,_,?_,h,k1,k2,?_,k3⟩
   ·simp only [jMy,uL,e0,decide_false,Bool.false_eq_true,if_false,h1,h2,Bool.and_self,if_true,qI,jBq hone]
   ·refine ⟨rfl,_,uE hi,Nat.le_refl _,fun _=>?_⟩;have:=hts (W'.as i);rw [if_neg e0,k4] at this;show sX C (W'.as i) m sz _ c';rw [k4]; exact this
  ·rw [if_neg e1] at hv;subst hv;have hlive:=hln.2 e1;obtain ⟨blk,g1,g2,g3,g4⟩:=hr.blk i hb hi hlive;obtain ⟨c1,c2,c3⟩:=hcs e1 e0 blk g1 g4;have hnm:n+m≠0:=by omega
   have h1:Nat.ble ((n+m)*by_) 100000000000000=true:=Nat.ble_eq_true_of_le hlen.1;have h2:Nat.ble (n+m) 100000000000000=true:=Nat.ble_eq_true_of_le hlen.2;have hlt:=hr.lt i hb hi hlive;have htk:yG (n*sz) blk.cells=some blk.cells:=by rw [gO (by omega),List.take_of_length_le (by omega)]
   have hone2:jS (blk.cells++news)=true:=by
    rw [kG] at *;intro j x hx;rw [List.getElem?_append] at hx;split at hx
    ·exact c2 _ x hx
    ·exact hone _ x hx
   obtain ⟨W',k1,k2,k3,k4⟩:=qDr (σ':=⟨Tr.put (Tr.put σ.t (W.as i) none) σ.nx (some ⟨e,true,blk.cells++news⟩),σ.nx+1,σ.it⟩) hr hi (hb':=⟨e,Nat.succ g,c'⟩) (by show g+1=hb.g+1; omega) (hl e0) (blk:=⟨e,true,blk.cells++news⟩) rfl rfl
    (by show (Tr.put _ σ.nx _).get σ.nx=_; rw [kW,if_pos rfl])
    (fun b hb1 hb2=>by show (Tr.put (Tr.put σ.t (W.as i) none) σ.nx _).get b=_; rw [kW,if_neg (by omega),kW,if_neg (hb2 hlive)]) rfl (fun W' on=>c3 _ _ _ on)
   refine ⟨.sl σ.nx 0 (n+m) sz,_,_,W',_,_,?_,h,k1,k2,?_,k3⟩
   ·have hk:Nat.beq sz sz=true:=by simp
    have hel:Nat.beq blk.elem e=true:=by rw [g2,he]; simp
    have hmb:(Nat.beq m 0)=false:=by rw [uL]; simp [e0]
    simp only [jMy,hmb,hk,h1,h2,Bool.and_self,if_true,g1,qLa,g3,hel,htk,qI,Bool.false_eq_true,if_false];exact jBq (σ:=σ.kill (W.as i)) hone2
   ·refine ⟨rfl,_,uE hi,Nat.le_refl _,fun _=>?_⟩;have:=hts (W'.as i);rw [if_neg hnm,k4] at this;show sX C (W'.as i) (n+m) sz _ c';rw [k4]; exact this
theorem qJi (hr:Rl C W H σ) {u:SV} {v:AV} {sz:Nat} {Q:List SV→Prop} (hx:sv C W H σ u v) (h0:jLc H u Q):∃ l,Q l∧∀ m news,iS σ sz v=some (m,news)→svs C W H σ l news∧qF l=true:=by
 unfold jLc at h0;split at h0
 ·rename_i j g m sz';obtain ⟨e1,h⟩:=jH h0;cases Nat.eq_of_beq_eq_true e1;obtain ⟨hb,hi,hg,h⟩:=qU h;have ht:=qS hx.2 hi hg;split at h
  ·rename_i l hc;obtain ⟨e2,h⟩:=jH h;rw [hc] at ht;obtain ⟨rfl,h1,h2⟩:=ht;obtain ⟨blk,g1,g2,g3,g4⟩:=hr.blk j hb hi (by rw [hc]; trivial)
   rw [hc] at g4;refine ⟨l,h,fun m news q=>?_⟩;by_cases e3:sz=sz'
   ·subst e3;have hle:1*sz≤(blk.cells.drop 0).length:=by rw [List.drop_zero,g4.1.len,h1]; exact Nat.le_refl _
    rw [sL g1 hle] at q;cases q;rw [List.drop_zero,List.take_of_length_le (by rw [g4.1.len,h1]; exact Nat.le_refl _)]
    exact g4
   ·have e4:Nat.beq sz sz'=false:=by rw [uL]; simpa using e3
    have e5:Nat.beq sz' sz=false:=by rw [uL]; simpa using (Ne.symm e3)
    simp [iS,e4,e5] at q
    try exact absurd q.1 e3
  ·exact h.elim
 ·exact h0.elim
theorem qEo (hC:wP C) (hr:Rl C W H σ) {e sz by_:Nat} {s u:SV} {v x:AV} (hs:sv C W H σ s v) (hx:sv C W H σ u x) {Q:QO} (h0:wAp C H e sz by_ s u Q):OO C W H σ (eAp e sz by_ v (iS σ sz x) σ) Q:=by
 unfold wAp at h0;split at h0
 ·cases hs;split at h0
  ·rename_i T r _;obtain ⟨ez,h⟩:=jH h0;have e':sz=(C.ct T 0).length:=by rw [Nat.eq_of_beq_eq_true ez,qG]
   subst e';obtain ⟨R,m,news,e1,h2,h3⟩:=jWg hC hr hx h;rw [e1];exact jQu hr (c:=.r T R m) (fun q=>q) (fun q q2=>q2 q) h3.one (fun q W' H' σ' on=>h3.go on.go on.k) (fun a=>⟨rfl,rfl,rfl⟩) h2.1 h2.2
  ·obtain ⟨ez,h⟩:=jH h0;cases Nat.eq_of_beq_eq_true ez;obtain ⟨l,e1,h2,h3⟩:=jLd hr hx h;rw [e1];have hlen:l.length=0↔l=[]:=List.length_eq_zero_iff;exact jQu hr (c:=.xs l) (fun q=>fun q2=>q (hlen.2 q2)) (fun q q2=>q2 (hlen.1 q)) (pP l) (fun q W' H' σ' on=>⟨rfl,h3⟩) (fun a=>⟨rfl,rfl,rfl⟩) h2.1 h2.2
  ·exact h0.elim
 ·rename_i i g n sz';obtain ⟨ez,h⟩:=jH h0;cases Nat.eq_of_beq_eq_true ez;obtain ⟨hb,hi,hg,h⟩:=qU h;obtain ⟨ee,h⟩:=jH h;have ee:=Nat.eq_of_beq_eq_true ee;have ht:=qS hs.2 hi hg;split at h
  ·rename_i T r n' hc;rw [hc] at ht;obtain ⟨rfl,e',hv⟩:=ht;subst e';obtain ⟨ez2,h⟩:=jH h;obtain ⟨R,m,news,e1,h2,h3⟩:=jWg hC hr hx h;rw [e1];obtain ⟨h2a,h2 | h2⟩:=h2
   ·exact jCd hr (c':=.r T (r+R) (n'+m)) hi hg ee hv (by rw [hc]; exact Iff.rfl) (fun q=>by rw [hc,q]; exact ⟨Iff.rfl,fun _ _ _ _ k=>zM.mono k (Nat.le_add_right r R)⟩) (fun q=>by show n'+m≠0; omega) h3.one
     (fun q q2 W' H' σ' on=>by subst q; have:=zM.mono (h3.go on.go on.k) (Nat.le_add_left R r); rw [Nat.zero_add]; exact this)
     (fun q q2 blk g1 g4=>by
      rw [hc] at g4;exact ⟨zM.len g4,zM.one g4,fun W' H' σ' on=>(zM.app g4 h3).go on.go on.k⟩)
     (fun a=>⟨rfl,rfl,rfl⟩) h2a h2
   ·obtain ⟨l,h2,hl⟩:=qJi (sz:=(C.ct T 0).length) hr hx h2;obtain ⟨em,h2⟩:=jH h2;cases Nat.eq_of_beq_eq_true em;obtain ⟨hl1,hl2⟩:=hl _ _ e1;have hpos:=hC.pos T r;exact jCd hr (c':=.rl T (r+R) (n'+1) l) hi hg ee hv (by rw [hc]; exact Iff.rfl) (fun q=>by omega) (fun q=>by show n'+1≠0; omega) h3.one
     (fun q q2 W' H' σ' on=>by subst q; have:=zM.mono (h3.go on.go on.k) (Nat.le_add_left R r); rw [Nat.zero_add]; exact ⟨this,by simpa using svs.on on _ _ hl1,hl2⟩)
     (fun q q2 blk g1 g4=>by
      rw [hc] at g4;exact ⟨zM.len g4,zM.one g4,fun W' H' σ' on=>by
       refine ⟨(zM.app g4 h3).go on.go on.k,?_,hl2⟩;rw [show n'+1 - 1=n' by omega,←zM.len g4,List.drop_left]
       exact svs.on on _ _ hl1⟩)
     (fun a=>⟨rfl,rfl,rfl⟩) h2a h2
  ·rename_i l hc;rw [hc] at ht;obtain ⟨rfl,_,hv⟩:=ht;obtain ⟨ez2,h⟩:=jH h;cases Nat.eq_of_beq_eq_true ez2;obtain ⟨l',e1,h2,h3⟩:=jLd hr hx h;rw [e1];have hlen:l.length≠0↔l≠[]:=not_congr List.length_eq_zero_iff;have hlen':l'.length=0↔l'=[]:=List.length_eq_zero_iff;exact jCd hr (c':=.xs (l++l')) hi hg ee hv (by rw [hc]; exact hlen.symm) (fun q=>by rw [hc,hlen'.1 q,List.append_nil]; exact ⟨Iff.rfl,fun _ _ _ _ k=>k⟩) (fun q=>fun q2=>q (hlen'.2 (List.append_eq_nil_iff.1 q2).2)) (pP l')
    (fun q q2 W' H' σ' on=>by rw [List.length_eq_zero_iff] at q; subst q; exact ⟨rfl,h3⟩)
    (fun q q2 blk g1 g4=>by
     rw [hc] at g4;refine ⟨by rw [g4.1]; simp,by rw [g4.1]; exact pP l,fun W' H' σ' on=>⟨by rw [g4.1,jLe,List.map_append],fun p hp=>?_⟩⟩
     rcases List.mem_append.1 hp with hp | hp
     ·exact g4.2 p hp
     ·exact h3 p hp)
    (fun a=>⟨by simp,rfl,by simp⟩) h2.1 h2.2
  ·rename_i l hc;obtain ⟨blk,g1,g2,g3,g4⟩:=hr.blk i hb hi (by rw [hc]; trivial)
   rw [hc] at ht g4;obtain ⟨hv,hll,hpos⟩:=ht;obtain ⟨ez2,h⟩:=jH h;cases Nat.eq_of_beq_eq_true ez2;obtain ⟨l0,h,hcells,hcan,hlen0⟩:=dR g4.1 h;obtain ⟨l',e1,⟨hne,h2⟩,h3⟩:=jLd hr hx h;rw [e1];have hn0:n≠0:=by omega
   have hl':l'.length≠0:=fun q=>hne (List.length_eq_zero_iff.1 q);exact jCd hr (c':=.xs (l0++l')) hi hg ee (by rw [if_neg hn0]; exact hv) (by rw [hc]; exact ⟨fun _=>hn0,fun _=>trivial⟩) (fun q=>absurd q hl') (fun q=>fun q2=>hne (List.append_eq_nil_iff.1 q2).2) (pP l')
    (fun q=>absurd q hn0)
    (fun q q2 blk2 k1 k4=>by
     rw [g1] at k1; cases k1;refine ⟨by rw [hcells]; simp [jLe]; omega,by rw [hcells]; exact pP l0,fun W' H' σ' on=>⟨by rw [hcells,jLe,jLe,List.map_append],fun p hp=>?_⟩⟩
     rcases List.mem_append.1 hp with hp | hp
     ·exact hcan p hp
     ·exact h3 p hp)
    (fun a=>⟨by simp; omega,rfl,by simp [hl']⟩) h2.1 h2.2
  ·exact h.elim
 ·exact h0.elim
theorem jEk:∀ (row:List Nd),qF (row.map ofN)=true
 | []=>rfl
 | c::r=>by
  simp only [List.map_cons,qF,jEk r,Bool.and_true];cases c<;>rfl
theorem jRt:∀ {row:List Nd} {cs:List AV},svs C W H σ (row.map ofN) cs→nds W.K row fun m=>cs[m]?
 | [],cs,h=>by simp only [nds]
 | c::r,cs,h=>by
  obtain ⟨y,t,rfl,h1,h2⟩:=h;simp only [nds];refine ⟨⟨y,rfl,?_⟩,by simpa using jRt h2⟩
  cases c<;>exact h1
theorem jVl {K:Nat→Option xY} {w:Nat}:∀ {a b:List (List Nd)} {f:Nat→Option AV},ndR K a w f→ndR K b w (fun m=>f (a.length*w+m))→ndR K (a++b) w f
 | [],b,f,h,k=>by simpa using k
 | c::a,b,f,h,k=>by
  simp only [List.cons_append,ndR] at h ⊢;refine ⟨h.1,jVl h.2 ?_⟩;have e:(fun m=>f (a.length*w+m+w))=fun m=>f ((c::a).length*w+m):=by
   funext m; congr 1; rw [List.length_cons,Nat.add_mul,Nat.one_mul]; omega
  rw [e]; exact k
theorem qKh {K:Nat→Option xY} {w:Nat}:∀ {a:List (List Nd)} {f g:Nat→Option AV},(∀ m,m<a.length*w→f m=g m)→ndR K a w f→ndR K a w g
 | [],f,g,_,_=>by simp only [ndR]
 | c::a,f,g,e,h=>by
  simp only [ndR] at h ⊢;have hw:=h.1.1;refine ⟨⟨hw,nds_f (fun m hm=>e m ?_) h.1.2⟩,qKh (fun m hm=>e (m+w) ?_) h.2⟩
  ·rw [List.length_cons,Nat.add_mul,Nat.one_mul]; omega
  ·rw [List.length_cons,Nat.add_mul,Nat.one_mul]; omega
 where
 nds_f {K:Nat→Option xY}:∀ {l:List Nd} {f g:Nat→Option AV},(∀ m,m<l.length→f m=g m)→nds K l f→nds K l g
  | [],f,g,_,_=>by simp only [nds]
  | c::l,f,g,e,h=>by
   simp only [nds] at h ⊢;obtain ⟨⟨x,h1,h2⟩,h3⟩:=h;exact ⟨⟨x,by rw [←e 0 (Nat.succ_pos _)]; exact h1,h2⟩,nds_f (fun m hm=>e (m+1) (by simp; omega)) h3⟩
theorem jPr (hr:Rl C W H σ) {u:SV} {v:AV} {Q:List SV→Prop} (hx:sv C W H σ u v) (h0:jLc H u Q):∃ l,Q l∧∃ news,iS σ l.length v=some (1,news)∧svs C W H σ l news:=by
 unfold jLc at h0;split at h0
 ·rename_i j g m sz';obtain ⟨e1,h⟩:=jH h0;cases Nat.eq_of_beq_eq_true e1;obtain ⟨hb,hi,hg,h⟩:=qU h;have ht:=qS hx.2 hi hg;split at h
  ·rename_i l hc;obtain ⟨e2,h⟩:=jH h;rw [hc] at ht;obtain ⟨rfl,h1,h2⟩:=ht;obtain ⟨blk,g1,g2,g3,g4⟩:=hr.blk j hb hi (by rw [hc]; trivial)
   rw [hc] at g4;have hl:l.length=sz':=by rw [h1,Nat.one_mul]
   have hle:1*sz'≤(blk.cells.drop 0).length:=by rw [List.drop_zero,g4.1.len,h1]; exact Nat.le_refl _
   refine ⟨l,h,_,by rw [hl]; exact sL g1 hle,?_⟩
   rw [List.drop_zero,List.take_of_length_le (by rw [g4.1.len,h1]; exact Nat.le_refl _)]
   exact g4.1
  ·exact h.elim
 ·exact h0.elim
theorem qJr (hr:Rl C W H σ) {e sz by_:Nat} {s u:SV} {v x:AV} (hs:sv C W H σ s v) (hx:sv C W H σ u x) {Q:QO} (h0:qMx H e sz by_ s u Q):OO C W H σ (eAp e sz by_ v (iS σ sz x) σ) Q:=by
 unfold qMx at h0;split at h0
 ·cases hs;obtain ⟨l,⟨row,rfl,⟨h1,h2⟩,h3⟩,news,e1,e2⟩:=jPr hr hx h0;rw [List.length_map,h2] at e1;rw [e1];have hone:=e2.ones (jEk row);have hlen:news.length=sz:=by rw [e2.len,List.length_map,h2]
  exact jQu hr (c:=.xr sz [row]) (fun _=>trivial) (fun q=>by cases q) hone (fun _ W' H' σ' on=>⟨by
   simp only [ndR];exact ⟨⟨h2,jRt (svs.on on _ _ e2)⟩,trivial⟩,by simp [hlen],hone⟩) (fun a=>⟨rfl,rfl,Nat.one_pos,rfl⟩) h3.1 h3.2
 ·rename_i i g n sz';obtain ⟨ez,h⟩:=jH h0;cases Nat.eq_of_beq_eq_true ez;obtain ⟨hb,hi,hg,h⟩:=qU h;obtain ⟨ee,h⟩:=jH h;have ee:=Nat.eq_of_beq_eq_true ee;have ht:=qS hs.2 hi hg;split at h
  ·rename_i w rows hc;rw [hc] at ht;obtain ⟨h1,rfl,hpos,hv⟩:=ht;obtain ⟨l,⟨row,rfl,h2,h3⟩,news,e1,e2⟩:=jPr hr hx h;rw [List.length_map,h2] at e1;rw [e1];have hone:=e2.ones (jEk row);have hlen:news.length=sz:=by rw [e2.len,List.length_map,h2]
   have hn0:n≠0:=by omega
   exact jCd hr (c':=.xr sz (rows++[row])) hi hg ee (by rw [if_neg hn0]; exact hv) (by rw [hc]; exact ⟨fun _=>hn0,fun _=>trivial⟩) (fun q=>by cases q) (fun _=>trivial) hone (fun q=>absurd q hn0)
    (fun q q2 blk2 k1 k4=>by
     rw [hc] at k4;refine ⟨by rw [k4.2.1,h1],k4.2.2,fun W' H' σ' on=>⟨jVl (qKh (fun m hm=>?_) (ndR.mono on.go.K _ _ _ k4.1)) ?_,by simp [k4.2.1,hlen,Nat.add_mul],?_⟩⟩
     ·rw [List.getElem?_append_left (by rw [k4.2.1]; exact hm)]
     ·simp only [ndR];refine ⟨⟨h2,?_⟩,trivial⟩;have:=jRt (svs.on on _ _ e2);have e3:(fun m=>(blk2.cells++news)[rows.length*sz+m]?)=fun m=>news[m]?:=by
       funext m;rw [List.getElem?_append_right (by rw [k4.2.1]; omega),k4.2.1]
       congr 1; omega
      rw [e3]; exact this
     ·rw [kG] at *;intro j y hy;rw [List.getElem?_append] at hy;split at hy
      ·exact (kG.1 k4.2.2) _ y hy
      ·exact hone _ y hy)
    (fun a=>⟨by simp [h1],rfl,by omega,by simp⟩) h3.1 h3.2
  ·exact h.elim
 ·exact h0.elim
end
end
end Go.Proofs.YtdlhiljbhepliaaGreatDoor.Ev
