/-
The conditions of calls: what goes over a call's border, and what comes back. No program is named here.
-/
import Derived.Test.YtdlhiljbhepliaaGreatDoorWb
namespace Go.Proofs.YtdlhiljbhepliaaGreatDoor.Ev
noncomputable section
set_option linter.all false
open Go
section
variable {C:Cx} {W W':Wd} {H H':Hp} {σ σ':Mem}
theorem Tc.trans {t t' t2:Tch} {W2:Wd} {H2:Hp} {σ2:Mem} (h:Tc t W H σ W' H' σ') (k:Tc t' W' H' σ' W2 H2 σ2) (hh:∀ κ,hM t2 κ=false→hM t κ=false∧hM t' κ=false):Tc t2 W H σ W2 H2 σ2:=by
 intro κ hκ b;obtain ⟨h1,h2⟩:=hh κ hκ;have a:=h κ h1 b;have c:=k κ h2 b;exact ⟨a.1.trans c.1,fun q=>by rw [c.2 (a.1.1 q),a.2 q]⟩
theorem jAl {i:Nat}:∀ {a b:List Nat},sU i (a++b)=(sU i a||sU i b)
 | [],b=>by simp [sU]
 | x::a,b=>by simp [sU,jAl (a:=a),Bool.or_assoc]
theorem jMv {i j:Nat} (h:j≠i):(dead H i)[j]?=H[j]?:=by
 cases hi:H[i]? with
 | none=>rw [lJ hi]
 | some hb=>rw [lK hi,uF h]
theorem qBc {i:Nat}:(dead H i).length=H.length:=by
 cases hi:H[i]? with
 | none=>rw [lJ hi]
 | some hb=>rw [lK hi,jFj]
theorem lM:∀ {fr:List Nat} {H:Hp},(yI H fr).length=H.length
 | [],H=>rfl
 | i::r,H=>by rw [yI,lM,qBc]
theorem lL {j:Nat}:∀ {fr:List Nat} {H:Hp},j ∉ fr→(yI H fr)[j]?=H[j]?
 | [],H,_=>rfl
 | i::r,H,h=>by
  simp only [List.mem_cons,not_or] at h;rw [yI,lL h.2,jMv h.1]
theorem kX.mono {Wf Wg:Wd} {i:Nat} (h:kX W H σ Wf i) (hA:∀ b,Wf.A b→Wg.A b) (hK:∀ b x,Wf.K b=some x→Wg.K b=some x):kX W H σ Wg i:=by
 intro hb e l;obtain ⟨h1,h2⟩:=h hb e l;refine ⟨fun em=>?_,fun q=>hA _ (h2 q)⟩;obtain ⟨blk,e1,e2⟩:=h1 em;exact ⟨blk,e1,hK _ _ e2⟩
theorem jKf:∀ (fr:List Nat) {W:Wd} {H:Hp},Rl C W H σ→∃ Wf:Wd,Rl C Wf (yI H fr) σ∧Mv W H σ Wf (yI H fr) σ∧Tc ⟨true,fr⟩ W H σ Wf (yI H fr) σ∧(∀ i,i∈fr→kX W H σ Wf i)∧Wf.as=W.as
 | [],W,H,h=>⟨W,h,Mv.refl,Tc.refl _ _ _ _,by simp,rfl⟩
 | i::r,W,H,h=>by
  obtain ⟨W1,a1,a2,a3,a4,a5,_⟩:=eJ h i;obtain ⟨W2,b1,b2,b3,b4,b5⟩:=jKf r a1;refine ⟨W2,b1,a2.trans b2,a3.trans b3 fun κ hκ=>?_,fun j hj=>?_,b5.trans a5⟩
  ·cases κ with
   | h j=>simp only [hM,sU,Bool.or_eq_false_iff] at hκ ⊢; exact ⟨⟨hκ.1,trivial⟩,hκ.2⟩
   | a=>cases hκ
   | c=>cases hκ
  ·by_cases e:j=i
   ·subst e; exact a4.mono b2.go.A b2.go.K
   ·rcases List.mem_cons.1 hj with hj | hj
    ·exact absurd hj e
    ·intro hb hh hl;have:=b4 j hj hb (by rw [jMv e]; exact hh) hl
     rw [a5] at this;exact this
theorem qGx (hC:wP C) (hr:Rl C W H σ) {T:Nat} {s:SV} {v:AV} {Q:SV→List Nat→Prop} (hx:sv C W H σ s v) (h0:qAm C H T s Q) :
  ∃ s' fr,Q s' fr∧∀ Wf Hf,On C W H σ Wf Hf σ→(∀ i,i∈fr→kX W H σ Wf i)→sv C Wf Hf σ s' v:=by
 unfold qAm at h0;split at h0
 ·cases hx; exact ⟨_,_,h0,fun _ _ _ _=>⟨.q0 _ _,.inl ⟨rfl,rfl⟩⟩⟩
 ·exact ⟨_,_,h0,fun _ _ on _=>sv.on on _ _ hx⟩
 ·rename_i i g n sz;obtain ⟨hb,hi,hg,h⟩:=qU h0;have ht:=qS hx.2 hi hg;split at h
  ·rename_i T' r m hc;exact ⟨_,_,h.2,fun Wf Hf on hf=>qKe (hNB:=h.1) hr hi hc ht (hf i (by simp)) on.go⟩
  ·rename_i l hc;obtain ⟨e,h2⟩:=jH h;have e':=Nat.eq_of_beq_eq_true e;rw [qG] at e';rw [e'] at ht;obtain ⟨blk,g1,g2,g3,g4⟩:=hr.blk i hb hi (by rw [hc]; trivial)
   rw [hc] at g4;obtain ⟨R,⟨h4,h3⟩,hrow⟩:=tX hC hr.kok g4.1 h2;exact ⟨_,_,h3,fun Wf Hf on hf=>qPg (hNB:=h4) hr hi hc ht (hf i (by simp)) on.go g1 hrow⟩
  ·exact h.elim
 ·exact h0.elim
theorem qGz (hr:Rl C W H σ) {w:Nat} {s:SV} {v:AV} {Q:SV→List Nat→Prop} (hx:sv C W H σ s v) (h0:qKw H w s Q) :
  ∃ s' fr,Q s' fr∧∀ Wf Hf,On C W H σ Wf Hf σ→(∀ i,i∈fr→kX W H σ Wf i)→sv C Wf Hf σ s' v:=by
 unfold qKw at h0;split at h0
 ·cases hx; exact ⟨_,_,h0,fun _ _ _ _=>by rw [sv,nd]; exact .inl ⟨rfl,rfl⟩⟩
 ·exact ⟨_,_,h0,fun _ _ on _=>sv.on on _ _ hx⟩
 ·rename_i i g n sz;obtain ⟨hb,hi,hg,h⟩:=qU h0;have ht:=qS hx.2 hi hg;split at h
  ·rename_i w' l hc;refine ⟨_,_,h,fun Wf Hf on hf=>?_⟩;obtain ⟨blk,g1,g2,g3,g4⟩:=hr.blk i hb hi (by rw [hc]; trivial)
   rw [hc] at ht g4;obtain ⟨rfl,rfl,h3,rfl⟩:=ht;obtain ⟨blk',k1,k2⟩:=(hf i (by simp) hb hi (by rw [hc]; trivial)).1 (by rw [hc]; rfl)
   rw [g1] at k1; cases k1;rw [sv,nd];refine .inr ⟨W.as i,0,rfl,.inr ⟨blk,k2,?_⟩⟩;have:=ndR.mono on.go.K _ _ _ g4.1;simpa only [Nat.zero_add] using this
  ·exact h.elim
 ·exact h0.elim
theorem qGy (hr:Rl C W H σ) {s:SV} {v:AV} {Q:SV→List Nat→Prop} (hx:sv C W H σ s v) (h0:qAn H s Q) :
  ∃ s' fr,Q s' fr∧∀ Wf Hf,On C W H σ Wf Hf σ→(∀ i,i∈fr→kX W H σ Wf i)→sv C Wf Hf σ s' v:=by
 unfold qAn at h0;split at h0
 ·cases hx; exact ⟨_,_,h0,fun _ _ _ _=>⟨by simp [gB],.inl ⟨rfl,rfl⟩⟩⟩
 ·exact ⟨_,_,h0,fun _ _ on _=>sv.on on _ _ hx⟩
 ·rename_i i g n sz;obtain ⟨hb,hi,hg,h⟩:=qU h0;have ht:=qS hx.2 hi hg;split at h
  ·rename_i l hc;exact ⟨_,_,h,fun Wf Hf on hf=>jDl hr hi hc ht (hf i (by simp)) (rA hr hi hc)⟩
  ·exact h.elim
 ·exact h0.elim
mutual
theorem qAo (hC:wP C) (hr:Rl C W H σ):∀ (t:AT) {s:SV} {v:AV} {Q:SV→List Nat→Prop},sv C W H σ s v→can C H t s Q →
  ∃ s' fr,Q s' fr∧∀ Wf Hf,On C W H σ Wf Hf σ→(∀ i,i∈fr→kX W H σ Wf i)→sv C Wf Hf σ s' v
 | .any,s,v,Q,hx,h=>⟨s,[],by simpa only [can] using h,fun _ _ on _=>sv.on on _ _ hx⟩
 | .q T,s,v,Q,hx,h=>qGx hC hr hx (by simpa only [can] using h)
 | .qs,s,v,Q,hx,h=>qGy hr hx (by simpa only [can] using h)
 | .x w,s,v,Q,hx,h=>qGz hr hx (by simpa only [can] using h)
 | .agg ts,s,v,Q,hx,h=>by
  cases s<;>simp only [can] at h<;>try exact h.elim
  ·rename_i l;obtain ⟨l',rfl,hl⟩:=hx;obtain ⟨s',fr,h1,h2⟩:=aU hC hr ts hl h;exact ⟨_,_,h1,fun Wf Hf on hf=>⟨_,rfl,h2 Wf Hf on hf⟩⟩
  ·rename_i l;obtain ⟨l',rfl,hl⟩:=hx;obtain ⟨s',fr,h1,h2⟩:=aU hC hr ts hl h;exact ⟨_,_,h1,fun Wf Hf on hf=>⟨_,rfl,h2 Wf Hf on hf⟩⟩
theorem aU (hC:wP C) (hr:Rl C W H σ):∀ (t:List AT) {s:List SV} {v:List AV} {Q:List SV→List Nat→Prop},svs C W H σ s v→aT C H t s Q →
  ∃ s' fr,Q s' fr∧∀ Wf Hf,On C W H σ Wf Hf σ→(∀ i,i∈fr→kX W H σ Wf i)→svs C Wf Hf σ s' v
 | [],[],v,Q,hx,h=>⟨[],[],by simpa only [aT] using h,fun _ _ _ _=>hx⟩
 | [],_::_,v,Q,hx,h=>by simp only [aT] at h
 | _::_,[],v,Q,hx,h=>by simp only [aT] at h
 | t::ts,s::l,v,Q,hx,h=>by
  obtain ⟨y,u,rfl,h1,h2⟩:=hx;simp only [aT] at h;obtain ⟨s',fr,h3,h4⟩:=qAo hC hr t h1 h;obtain ⟨l',fr',h5,h6⟩:=aU hC hr ts h2 h3;exact ⟨_,_,h5,fun Wf Hf on hf=>⟨_,_,rfl,h4 Wf Hf on fun i hi=>hf i (by simp [hi]),h6 Wf Hf on fun i hi=>hf i (by simp [hi])⟩⟩
end
theorem jIa {a b k:Nat}:mx a b≤k↔a≤k∧b≤k:=by
 unfold mx;cases h:Nat.ble a b with
 | true=>have:=Nat.le_of_ble_eq_true h; simp; omega
 | false=>
  have:¬ a≤b:=fun q=>by have:=Nat.ble_eq_true_of_le q; rw [h] at this; cases this
  simp; omega
theorem hasB.sub {W2:Wd} {H2:Hp} {i g:Nat} {P P2:HB→Prop} (h:hasB H i g P) (e:H2[i]?=H[i]?) (k:∀ hb,P hb→P2 hb):hasB H2 i g P2:=by
 obtain ⟨hb,h1,h2,h3⟩:=h;exact ⟨hb,by rw [e]; exact h1,h2,fun q=>k _ (h3 q)⟩
structure jAe (k:Nat) (W:Wd) (H:Hp) (W2:Wd) (H2:Hp):Prop where
 A:W2.A=W.A
 K:W2.K=W.K
 as:∀ i,i<k→W2.as i=W.as i
 h:∀ i,i<k→H2[i]?=H[i]?
theorem TV.same {W2:Wd} (hA:W2.A=W.A) (hK:W2.K=W.K) {ty:Ty} {v:AV} (h:TV C W σ ty v):TV C W2 σ ty v:=by
 induction h with
 | i k n=>exact .i _ _
 | b x=>exact .b _
 | s m n v h1 h2=>exact .s _ _ _ h1 h2
 | t m n v h1 h2=>exact .t _ _ _ h1 h2
 | q0 T r=>exact .q0 _ _
 | qe T r b o=>exact .qe _ _ _ _
 | q T r b o n hn blk hb hg κ hs hp cs hc ht hq ih=>exact .q T r b o n hn blk (by unfold Wd.may at *; rw [hA,hK]; exact hb) hg κ hs hp cs hc ih hq
theorem zM.same {W2:Wd} (hA:W2.A=W.A) (hK:W2.K=W.K) {T r n:Nat} {cs:List AV} (h:zM C W σ T r n cs):zM C W2 σ T r n cs:=by
 obtain ⟨κ,h1,h2,h3,h4,h5⟩:=h;exact ⟨κ,h1,h2,h3,fun k j ty hk e=>by obtain ⟨c,e1,e2⟩:=h4 k j ty hk e; exact ⟨c,e1,e2.same hA hK⟩,h5⟩
mutual
theorem sv.first {k:Nat} {W2:Wd} {H2:Hp} (f:jAe k W H W2 H2):∀ (s:SV) (v:AV),wJ s≤k→sv C W H σ s v→sv C W2 H2 σ s v
 | .b x,v,_,h=>h
 | .i _ _,v,_,h=>h
 | .s _ _,v,_,h=>h
 | .p0,v,_,h=>h
 | .sl0,v,_,h=>h
 | .tp i g off,v,n,h=>⟨h.1,hasB.sub (W2:=W2) h.2 (f.h i n) fun hb q=>by rw [f.as i n]; exact q⟩
 | .te i g m off,v,n,h=>⟨h.1,hasB.sub (W2:=W2) h.2 (f.h i n) fun hb q=>by rw [f.as i n]; exact q⟩
 | .ts i g m sz,v,n,h=>⟨h.1,hasB.sub (W2:=W2) h.2 (f.h i n) fun hb q=>by rw [f.as i n]; exact q⟩
 | .q _ _ _,v,_,h=>⟨h.1.same f.A f.K,h.2⟩
 | .qp _ _ _,v,_,h=>by
  obtain ⟨b,o,blk,e,h1,h2,h3,hrp,h4⟩:=h;refine ⟨b,o,blk,e,by unfold Wd.may at *; rw [f.A,f.K]; exact h1,h2,h3,hrp,fun j ty hj=>?_⟩
  obtain ⟨c,k1,k2⟩:=h4 j ty hj;exact ⟨c,k1,k2.same f.A f.K⟩
 | .qs _,v,_,h=>by simp only [sv,XV] at *; rw [f.K]; exact h
 | .xs p,v,_,h=>by simp only [sv] at *; rw [f.K]; exact h
 | .f fn a c,v,n,h=>by
  obtain ⟨a',c',e,h1,h2⟩:=h;simp only [wJ,jIa] at n;exact ⟨a',c',e,svs.first f a a' n.1 h1,svs.first f c c' n.2 h2⟩
 | .agg l,v,n,h=>by
  obtain ⟨l',e,h1⟩:=h;exact ⟨l',e,svs.first f l l' (by simpa only [wJ] using n) h1⟩
 | .tup l,v,n,h=>by
  obtain ⟨l',e,h1⟩:=h;exact ⟨l',e,svs.first f l l' (by simpa only [wJ] using n) h1⟩
 | .fis _,v,_,h=>h
 | .fqs,v,_,h=>h
 | .qx _ _,v,_,h=>by simp only [sv] at *; rw [f.K]; exact h
 | .xp _,v,_,h=>by simp only [sv] at *; rw [f.K]; exact h
theorem svs.first {k:Nat} {W2:Wd} {H2:Hp} (f:jAe k W H W2 H2):∀ (s:List SV) (v:List AV),gI s≤k→svs C W H σ s v→svs C W2 H2 σ s v
 | [],v,_,h=>h
 | x::r,v,n,h=>by
  obtain ⟨y,t,e,h1,h2⟩:=h;simp only [gI,jIa] at n;exact ⟨y,t,e,sv.first f x y n.1 h1,svs.first f r t n.2 h2⟩
end
theorem jPy:∀ (n:Nat) (H:Hp),pS n H=H.take n
 | 0,H=>by simp [pS]
 | n+1,[]=>by simp [pS]
 | n+1,a::l=>by simp [pS,jPy n l]
theorem sD:∀ {H:Hp} {k:Nat},vJ H≤k→∀ (i:Nat) (hb:HB) (l:List SV),H[i]?=some hb→hb.c = .l l→gI l≤k
 | [],k,h,i,hb,l,e,_=>by simp at e
 | a::H,k,h,i,hb,l,e,ec=>by
  simp only [vJ,jIa] at h;cases i with
  | zero=>simp at e; subst e; rw [ec] at h; exact h.1
  | succ i=>exact sD h.2 i hb l (by simpa using e) ec
theorem mR:∀ {H:Hp} {k:Nat},vJ H≤k→∀ (i:Nat) (hb:HB) (T r n:Nat) (l:List SV),H[i]?=some hb→hb.c = .rl T r n l→gI l≤k
 | [],k,h,i,hb,T,r,n,l,e,_=>by simp at e
 | a::H,k,h,i,hb,T,r,n,l,e,ec=>by
  simp only [vJ,jIa] at h;cases i with
  | zero=>simp at e; subst e; rw [ec] at h; exact h.1
  | succ i=>exact mR h.2 i hb T r n l (by simpa using e) ec
theorem zD.first {k:Nat} {W2:Wd} {H2:Hp} (f:jAe k W H W2 H2) {c:HC} {cs:List AV} (hn:∀ l,c = .l l→gI l≤k) (hn2:∀ T r n l,c = .rl T r n l→gI l≤k) (h:zD C W H σ c cs):zD C W2 H2 σ c cs:=by
 cases c with
 | l l=>exact ⟨svs.first f _ _ (hn l rfl) h.1,h.2⟩
 | r T r n=>
  exact zM.same f.A f.K h
 | xs l=>exact h
 | xr w l=>exact ⟨by rw [f.K]; exact h.1,h.2⟩
 | rl T r n l=>
  exact ⟨zM.same f.A f.K h.1,svs.first f _ _ (hn2 T r n l rfl) h.2.1,h.2.2⟩
 | dead=>trivial
theorem Rl.take (h:Rl C W H σ) {k:Nat} (hn:vJ (H.take k)≤k):Rl C W (H.take k) σ:=by
 have f:jAe k W H W (H.take k):=⟨rfl,rfl,fun _ _=>rfl,fun i hi=>by rw [List.getElem?_take,if_pos hi]⟩
 have old:∀ (i:Nat) (hb:HB),(H.take k)[i]?=some hb→i<k∧H[i]?=some hb:=by
  intro i hb e;rw [List.getElem?_take] at e;split at e
  ·exact ⟨by assumption,e⟩
  ·cases e
 refine ⟨fun i j x y hx hy hlx hly q=>h.inj i j x y (old i x hx).2 (old j y hy).2 hlx hly q,fun i x hx hlx=>?_,fun i x hx hlx=>h.lt i x (old i x hx).2 hlx,fun i x hx hlx=>h.nA i x (old i x hx).2 hlx,h.A,h.K⟩;obtain ⟨b0,g1,g2,g3,g4⟩:=h.blk i x (old i x hx).2 hlx;exact ⟨b0,g1,g2,g3,g4.first f (fun l e=>sD hn i x l hx e) (fun T r n l e=>mR hn i x T r n l hx e)⟩
def Val (C:Cx) (call:Nat→List AV→Mem→Option (AV×Mem)) (Γ:Nat→List SV→Hp→Q2→Prop):Prop:=∀ (f:Nat) (l:List SV) (H:Hp) (Q:Q2),Γ f l H Q→∀ (W:Wd) (σ:Mem) (vs:List AV),Rl C W H σ→svs C W H σ l vs →
 ∃ (v:AV) (σ':Mem) (s:SV) (W':Wd) (H':Hp),call f vs σ=some (v,σ')∧Q s H'∧Rl C W' H' σ'∧Mv W H σ W' H' σ'∧sv C W' H' σ' s v∧H'.length=H.length∧wJ s≤H.length∧vJ H'≤H.length
theorem jUb {call:Nat→List AV→Mem→Option (AV×Mem)} {Γ:Nat→List SV→Hp→Q2→Prop} (hv:Val C call Γ) {f:Nat} {l:List SV} {k:Nat} {Q:Q2} (hr:Rl C W H σ) (hk:k≤H.length) (hn:vJ (H.take k)≤k) (hnl:gI l≤k)
  (hΓ:Γ f l (H.take k) Q) {vs:List AV} (hl:svs C W H σ l vs) :
  ∃ (v:AV) (σ':Mem) (s:SV) (W':Wd) (H':Hp),call f vs σ=some (v,σ')∧Q s H'∧Rl C W' (H'++H.drop k) σ'∧Mv W H σ W' (H'++H.drop k) σ'∧sv C W' (H'++H.drop k) σ' s v∧H'.length=k ∧
   (∀ i,k≤i→W'.as i=W.as i)∧(∀ (i:Nat) (hb:HB),k≤i→H[i]?=some hb→qB hb.c→σ'.t.get (W.as i)=σ.t.get (W.as i)) ∧
   (∀ b,b<σ.nx→W'.A b→W.A b∨Own W (H.take k) b)∧(∀ b,b<σ.nx→(W'.K b).isSome=true→(W.K b).isSome=true∨Own W (H.take k) b)∧(∀ b,b<σ.nx→¬ W.A b→¬ Own W (H.take k) b→σ'.t.get b=σ.t.get b):=by
 have hlen:(H.take k).length=k:=by simp; omega
 have f1:jAe k W H W (H.take k):=⟨rfl,rfl,fun _ _=>rfl,fun i hi=>by rw [List.getElem?_take,if_pos hi]⟩
 obtain ⟨v,σ',s,W',H',e1,e2,e3,e4,e5,e6,e7,e8⟩:=hv f l (H.take k) Q hΓ W σ vs (hr.take hn) (svs.first f1 _ _ hnl hl)
 rw [hlen] at e6 e7 e8
 let Wn:Wd:=⟨W'.A,W'.K,fun i=>if i<k then W'.as i else W.as i⟩
 have as1:∀ i,i<k→Wn.as i=W'.as i:=fun i h=>if_pos h;have as2:∀ i,k≤i→Wn.as i=W.as i:=fun i h=>if_neg (by omega)
 have g1:∀ i,i<k→(H'++H.drop k)[i]?=H'[i]?:=fun i h=>List.getElem?_append_left (by omega)
 have g2:∀ i,k≤i→(H'++H.drop k)[i]?=H[i]?:=fun i h=>by rw [List.getElem?_append_right (by omega),List.getElem?_drop]; congr 1; omega
 have f2:jAe k W' H' Wn (H'++H.drop k):=⟨rfl,rfl,as1,g1⟩;have tk:∀ (i:Nat) (hb:HB),i<k→H[i]?=some hb→(H.take k)[i]?=some hb:=fun i hb h e=>by rw [List.getElem?_take,if_pos h]; exact e
 have notOwn:∀ (i:Nat) (hb:HB),k≤i→H[i]?=some hb→qB hb.c→¬ Own W (H.take k) (W.as i):=by
  rintro i hb hi h1 h2 ⟨j,x,hx,hlx,e⟩;rw [List.getElem?_take] at hx;split at hx
  ·have:=hr.inj j i x hb hx h1 hlx h2 e; omega
  ·cases hx
 have far:∀ (i:Nat) (hb:HB),k≤i→H[i]?=some hb→qB hb.c→σ'.t.get (W.as i)=σ.t.get (W.as i):=fun i hb hi h1 h2=>e4.fr _ (hr.lt i hb h1 h2) (hr.nA i hb h1 h2).1 (notOwn i hb hi h1 h2);have go:Go' W σ Wn σ':=⟨e4.go.A,e4.go.K,e4.go.sh,e4.go.kk⟩;have hp:kY W H Wn (H'++H.drop k):=by
  intro i x hx;by_cases hi:i<k
  ·obtain ⟨y,hy,q1,q2⟩:=e4.hp i x (tk i x hi hx);exact ⟨y,by rw [g1 i hi]; exact hy,q1,fun q=>by rw [as1 i hi]; exact q2 q⟩
  ·exact ⟨x,by rw [g2 i (by omega)]; exact hx,Nat.le_refl _,fun _=>⟨as2 i (by omega),zV.refl _⟩⟩
 have on:On C W H σ Wn (H'++H.drop k) σ':=⟨go,hp,hr.kok⟩;have own:∀ b,b<σ.nx→Own Wn (H'++H.drop k) b→(∃ i hb,k≤i∧H[i]?=some hb∧qB hb.c∧W.as i=b)∨Own W (H.take k) b:=by
  rintro b hb ⟨i,x,hx,hlx,q⟩;by_cases hi:i<k
  ·rw [g1 i hi] at hx; rw [as1 i hi] at q;exact .inr (e4.own b hb ⟨i,x,hx,hlx,q⟩)
  ·rw [g2 i (by omega)] at hx; rw [as2 i (by omega)] at q
   exact .inl ⟨i,x,by omega,hx,hlx,q⟩
 have ownT:∀ b,Own W (H.take k) b→Own W H b:=by
  rintro b ⟨i,x,hx,hlx,q⟩;rw [List.getElem?_take] at hx;split at hx
  ·exact ⟨i,x,hx,hlx,q⟩
  ·cases hx
 have hnx:=e4.nx;refine ⟨v,σ',s,Wn,H',e1,e2,⟨?_,?_,?_,?_,?_,?_⟩,⟨go,hp,e4.nx,fun b hb h1 h2=>e4.fr b hb h1 fun q=>h2 (ownT b q),fun b hb q=>?_,fun b hb q=>?_,fun b hb q=>?_⟩,sv.first f2 _ _ e7 e5,e6,as2,far,fun b hb q=>e4.nA b hb q,fun b hb q=>e4.nK b hb q,e4.fr⟩
 ·intro i j x y hx hy hlx hly q;by_cases hi:i<k<;>by_cases hj:j<k
  ·rw [g1 i hi] at hx; rw [g1 j hj] at hy; rw [as1 i hi,as1 j hj] at q;exact e3.inj i j x y hx hy hlx hly q
  ·rw [g1 i hi] at hx; rw [g2 j (by omega)] at hy; rw [as1 i hi,as2 j (by omega)] at q
   have hlt:=hr.lt j y hy hly;exact absurd (e4.own _ hlt ⟨i,x,hx,hlx,q⟩) (notOwn j y (by omega) hy hly)
  ·rw [g2 i (by omega)] at hx; rw [g1 j hj] at hy; rw [as2 i (by omega),as1 j hj] at q
   have hlt:=hr.lt i x hx hlx;exact absurd (e4.own _ hlt ⟨j,y,hy,hly,q.symm⟩) (notOwn i x (by omega) hx hlx)
  ·rw [g2 i (by omega)] at hx; rw [g2 j (by omega)] at hy; rw [as2 i (by omega),as2 j (by omega)] at q
   exact hr.inj i j x y hx hy hlx hly q
 ·intro i x hx hlx;by_cases hi:i<k
  ·rw [g1 i hi] at hx;obtain ⟨b0,q1,q2,q3,q4⟩:=e3.blk i x hx hlx;exact ⟨b0,by rw [as1 i hi]; exact q1,q2,q3,q4.first f2 (fun l e=>sD e8 i x l hx e) (fun T r n l e=>mR e8 i x T r n l hx e)⟩
  ·rw [g2 i (by omega)] at hx
   obtain ⟨b0,q1,q2,q3,q4⟩:=hr.blk i x hx hlx;exact ⟨b0,by rw [as2 i (by omega),far i x (by omega) hx hlx]; exact q1,q2,q3,q4.on on⟩
 ·intro i x hx hlx;by_cases hi:i<k
  ·rw [g1 i hi] at hx; rw [as1 i hi]; exact e3.lt i x hx hlx
  ·rw [g2 i (by omega)] at hx; rw [as2 i (by omega)]; have:=hr.lt i x hx hlx; omega
 ·intro i x hx hlx;by_cases hi:i<k
  ·rw [g1 i hi] at hx; rw [as1 i hi]; exact e3.nA i x hx hlx
  ·rw [g2 i (by omega)] at hx; rw [as2 i (by omega)]
   obtain ⟨n1,n2⟩:=hr.nA i x hx hlx;have hlt:=hr.lt i x hx hlx;have no:=notOwn i x (by omega) hx hlx
   refine ⟨fun q=>?_,?_⟩
   ·rcases e4.nA _ hlt q with q | q
    ·exact n1 q
    ·exact no q
   ·show W'.K (W.as i)=none;cases z:W'.K (W.as i) with
    | none=>rfl
    | some y=>
     rcases e4.nK _ hlt (by rw [z]; rfl) with q | q
     ·rw [n2] at q; cases q
     ·exact absurd q no
 ·exact e3.A
 ·exact e3.K
 ·rcases e4.nA b hb q with q | q
  ·exact .inl q
  ·exact .inr (ownT b q)
 ·rcases e4.nK b hb q with q | q
  ·exact .inl q
  ·exact .inr (ownT b q)
 ·rcases own b hb q with ⟨i,x,_,h1,h2,h3⟩ | q
  ·exact ⟨i,x,h1,h2,h3⟩
  ·exact ownT b q
end
end
noncomputable section
set_option linter.all false
open Go
section
variable {C:Cx} {W W':Wd} {H H':Hp} {σ σ':Mem}
theorem qCw {K:Nat→Option xY} {w:Nat} {l:List (List Nd)} {v:AV}:nd K (.q w l) v↔(v = .sl0∧l=[])∨∃ b o,v = .sl b o l.length w∧(l=[]∨∃ blk,K b=some blk∧ndR K l w fun m=>blk.cells[o+m]?):=by rw [nd]
theorem iA {w:Nat} {l:List (List Nd)} {t:Ty}:ndT C (.q w l) t↔∃ T r,t = .q T r∧w=jP (C.ct T 0)∧l.length≤NB∧nZ C T l r:=by rw [ndT]
theorem qDw {K:Nat→Option xY} {T:Nat}:∀ {w:Nat} {κ:Nat→Nat} {i:Nat} {g:Nat→Option AV},(∀ j,j<w→∃ (x:AV) (c:Nd) (t:Ty),g j=some x∧(C.ct T (C.co T+κ j))[i+j]?=some t∧ndT C c t∧nd K c x)→∃ row:List Nd,jOf C T i row (wN κ w)∧row.length=w∧nds K row g
 | 0,κ,i,g,_=>⟨[],by simp only [jOf],rfl,by simp only [nds]⟩
 | w+1,κ,i,g,h=>by
  obtain ⟨x,c,t,e1,e2,e3,e4⟩:=h 0 (Nat.succ_pos _);obtain ⟨row,r1,r2,r3⟩:=qDw (w:=w) (κ:=fun k=>κ (k+1)) (i:=i+1) (g:=fun m=>g (m+1)) fun j hj=>by
   have:=h (j+1) (by omega)
   rw [show i+1+j=i+(j+1) by omega]; exact this
  exact ⟨c::row,by simp only [jOf]; exact ⟨κ 0,wN (fun k=>κ (k+1)) w,Nat.le_refl _,⟨t,e2,e3⟩,r1⟩,by simp [r2],by simp only [nds]; exact ⟨⟨x,e1,e4⟩,r3⟩⟩
theorem jVm {K:Nat→Option xY}:∀ {l:List Nd} {f:Nat→Option AV} {j:Nat} {c:Nd},nds K l f→l[j]?=some c→∃ x,f j=some x∧nd K c x
 | [],f,j,c,h,e=>by simp at e
 | d::l,f,0,c,h,e=>by simp only [nds] at h; simp at e; subst e; exact h.1
 | d::l,f,j+1,c,h,e=>by simp only [nds] at h; exact jVm (l:=l) (f:=fun m=>f (m+1)) (j:=j) h.2 (by simpa using e)
theorem qIx {K:Nat→Option xY} {l:List Nd} {f:Nat→Option AV} (h:nds K l f) (j:Nat):Pc ((f j).getD .ni) (qMe l j):=by
 unfold qMe;rw [List.getElem?_map];cases e:l[j]? with
 | none=>exact ⟨fun k q=>by (cases q),fun n v q=>by cases q⟩
 | some c=>
  obtain ⟨x,h1,h2⟩:=jVm h e;rw [h1];refine ⟨fun k q=>?_,fun n v q=>?_⟩
  ·cases c with
   | i k' z=>simp only [nd] at h2; subst h2; exact ⟨_,q⟩
   | _=>cases q
  ·cases c with
   | s n' v'=>simp only [nd] at h2; obtain ⟨h2,_⟩:=h2; subst h2; exact .inr ⟨n,v,q,id⟩
   | _=>cases q
theorem jVz {K:Nat→Option xY} {T w:Nat} (hw:w=jP (C.ct T 0)) (hp:cpl C T):∀ {n:Nat} {κ:Nat→Nat→Nat} {g:Nat→Option AV},(∀ (k j:Nat),k<n→j<w→∃ (x:AV) (c:Nd) (t:Ty),g (k*w+j)=some x∧(C.ct T (C.co T+κ k j))[j]?=some t∧ndT C c t∧nd K c x)→(∀ k,k<n→C.rp T fun j=>(g (k*w+j)).getD .ni)→∃ l:List (List Nd),l.length=n∧nZ C T l (wN (fun k=>C.co T+wN (κ k) w) n)∧ndR K l w g
 | 0,κ,g,h,_=>⟨[],rfl,by simp only [nZ],by simp only [ndR]⟩
 | n+1,κ,g,h,hq=>by
  obtain ⟨row,r1,r2,r3⟩:=qDw (C:=C) (K:=K) (T:=T) (w:=w) (κ:=κ 0) (i:=0) (g:=g) fun j hj=>by simpa using h 0 j (Nat.succ_pos _) hj
  obtain ⟨l,l1,l2,l3⟩:=jVz hw hp (n:=n) (κ:=fun k=>κ (k+1)) (g:=fun m=>g (m+w)) (fun k j hk hj=>by
   obtain ⟨x,c,t,e1,e2⟩:=h (k+1) j (by omega) hj
   exact ⟨x,c,t,by show g (k*w+j+w)=_; rw [←e1]; congr 1; rw [Nat.add_mul,Nat.one_mul]; omega,e2⟩) (fun k hk=>by
   have:=hq (k+1) (by omega)
   have e:(fun j=>(g ((k+1)*w+j)).getD AV.ni)=fun j=>(g (k*w+j+w)).getD AV.ni:=by
    funext j; congr 2; rw [Nat.add_mul,Nat.one_mul]; omega
   rw [e] at this; exact this)
  exact ⟨row::l,by simp [l1],by simp only [nZ]; exact ⟨wN (κ 0) w,wN (fun k=>C.co T+wN (κ (k+1)) w) n,Nat.le_refl _,⟨by rw [r2,hw],r1⟩,hp.rp _ _ (fun j _=>qIx r3 j) (by simpa only [Nat.zero_mul,Nat.zero_add] using hq 0 (Nat.succ_pos _)),l2⟩,by simp only [ndR]; exact ⟨⟨r2,r3⟩,l3⟩⟩
theorem jYq {T:Nat}:∀ {l:List (List Nd)} {r r':Nat},nZ C T l r→r≤r'→nZ C T l r'
 | [],r,r',_,_=>by simp only [nZ]
 | c::l,r,r',h,hr=>by
  simp only [nZ] at h ⊢;obtain ⟨x,s,h1,h2⟩:=h;exact ⟨x,s,by omega,h2⟩
theorem qQr {K:Nat→Option xY} (hK:∀ b blk,(W.A b∨(W.K b).isSome=true)→σ.t.get b=some blk→K b=some blk) {ty:Ty} {v:AV} (t:TV C W σ ty v):∃ c:Nd,ndT C c ty∧nd K c v:=by
 induction t with
 | i k n=>exact ⟨.i k n,by simp only [ndT],by simp only [nd]⟩
 | b x=>exact ⟨.b x,by simp only [ndT],by simp only [nd]⟩
 | s m n v h h0=>exact ⟨.s n v,by rw [ndT]; exact .inl ⟨m,rfl,h,h0⟩,by rw [nd]; exact ⟨rfl,h0⟩⟩
 | t m n v h h0=>exact ⟨.s n v,by rw [ndT]; exact .inr ⟨m,rfl,h,h0⟩,by rw [nd]; exact ⟨rfl,h0⟩⟩
 | q0 T r=>exact ⟨.q (jP (C.ct T 0)) [],iA.2 ⟨T,r,rfl,rfl,Nat.zero_le _,by simp only [nZ]⟩,qCw.2 (.inl ⟨rfl,rfl⟩)⟩
 | qe T r b o=>exact ⟨.q (jP (C.ct T 0)) [],iA.2 ⟨T,r,rfl,rfl,Nat.zero_le _,by simp only [nZ]⟩,qCw.2 (.inr ⟨b,o,by rw [qG]; rfl,.inl rfl⟩)⟩
 | q T r b o n hn blk hb hg κ hs hp cs hc ht hq ih=>
  obtain ⟨l,l1,l2,l3⟩:=jVz (C:=C) (K:=K) (T:=T) (w:=(C.ct T 0).length) (qG _).symm hp (n:=n) (κ:=κ) (g:=fun m=>blk.cells[o+m]?) (fun k j hk hj=>by
   obtain ⟨t,ht'⟩:∃ t,(C.ct T (C.co T+κ k j))[j]?=some t:=⟨_,List.getElem?_eq_some_iff.2 ⟨by rw [hp.len (C.co T+κ k j)]; exact hj,rfl⟩⟩
   obtain ⟨c,c1,c2⟩:=ih k j t hk ht';exact ⟨_,c,t,hc _ (lW hk hj),ht',c1,c2⟩) (fun k hk=>hp.rp _ _ (fun j hj=>by rw [hc _ (lW hk hj)]; exact Pc.rfl' _) (hq k hk))
  refine ⟨.q (jP (C.ct T 0)) l,iA.2 ⟨T,r,rfl,rfl,by omega,jYq l2 hs⟩,qCw.2 ?_⟩
  refine .inr ⟨b,o,by rw [l1,qG],.inr ⟨blk,hK b blk ?_ hg,by rw [qG]; exact l3⟩⟩
  rcases hb with hb | hb
  ·exact .inl hb
  ·exact .inr hb.2
theorem qQd {K:Nat→Option xY} (hK:∀ b blk,(W.A b∨(W.K b).isSome=true)→σ.t.get b=some blk→K b=some blk) {T r n:Nat} {v:AV} (t:QV C W σ T r n v):∃ l,l.length=n∧ndT C (.q (jP (C.ct T 0)) l) (.q T r)∧nd K (.q (jP (C.ct T 0)) l) v:=by
 obtain ⟨c,c1,c2⟩:=qQr hK t.1;cases c with
 | i k n=>simp only [ndT] at c1; cases c1
 | b x=>simp only [ndT] at c1; cases c1
 | s n v=>simp only [ndT] at c1; rcases c1 with ⟨m,e,_⟩ | ⟨m,e,_⟩<;>cases e
 | q w l=>
  obtain ⟨T',r',e,ew,h3⟩:=iA.1 c1;cases e;subst ew;refine ⟨l,?_,c1,c2⟩;rcases t.2 with ⟨rfl,rfl⟩ | ⟨b,o,rfl⟩
  ·rcases qCw.1 c2 with ⟨_,rfl⟩ | ⟨b,o,e,_⟩
   ·rfl
   ·cases e
  ·rcases qCw.1 c2 with ⟨e,_⟩ | ⟨b',o',e,_⟩
   ·cases e
   ·simp only [AV.sl.injEq] at e; exact e.2.2.1.symm
mutual
theorem qHw:∀ (s:SV) (v:AV),fA s=true→sv C W H σ s v→∀ W2 H2 σ2,sv C W2 H2 σ2 s v
 | .b _,v,_,h,_,_,_=>h
 | .i _ _,v,_,h,_,_,_=>h
 | .s _ _,v,_,h,_,_,_=>h
 | .fis _,v,_,h,_,_,_=>h
 | .tup l,v,f,h,W2,H2,σ2=>by
  obtain ⟨l',e,h1⟩:=h;exact ⟨l',e,jDk l l' (by simpa only [fA] using f) h1 W2 H2 σ2⟩
 | .p0,v,f,_,_,_,_=>by simp [fA] at f
 | .sl0,v,f,_,_,_,_=>by simp [fA] at f
 | .tp _ _ _,v,f,_,_,_,_=>by simp [fA] at f
 | .te _ _ _ _,v,f,_,_,_,_=>by simp [fA] at f
 | .ts _ _ _ _,v,f,_,_,_,_=>by simp [fA] at f
 | .q _ _ _,v,f,_,_,_,_=>by simp [fA] at f
 | .qp _ _ _,v,f,_,_,_,_=>by simp [fA] at f
 | .qs _,v,f,_,_,_,_=>by simp [fA] at f
 | .xs _,v,f,_,_,_,_=>by simp [fA] at f
 | .f _ _ _,v,f,_,_,_,_=>by simp [fA] at f
 | .agg _,v,f,_,_,_,_=>by simp [fA] at f
 | .fqs,v,f,_,_,_,_=>by simp [fA] at f
 | .qx _ _,v,f,_,_,_,_=>by simp [fA] at f
 | .xp _,v,f,_,_,_,_=>by simp [fA] at f
theorem jDk:∀ (s:List SV) (v:List AV),jNm s=true→svs C W H σ s v→∀ W2 H2 σ2,svs C W2 H2 σ2 s v
 | [],v,_,h,_,_,_=>h
 | x::r,v,f,h,W2,H2,σ2=>by
  obtain ⟨y,t,e,h1,h2⟩:=h;simp only [jNm,Bool.and_eq_true] at f;exact ⟨y,t,e,qHw x y f.1 h1 W2 H2 σ2,jDk r t f.2 h2 W2 H2 σ2⟩
end
mutual
theorem qKl {Wn:Wd} {Hn:Hp} {σn:Mem} (hK:∀ b blk,(W.A b∨(W.K b).isSome=true)→σ.t.get b=some blk→Wn.K b=some blk) (hX:∀ b x,W.K b=some x→Wn.K b=some x):∀ (s:SV) (v:AV),aC s=true→sv C W H σ s v→∃ s',Rfn C s s'∧sv C Wn Hn σn s' v
 | .b _,v,_,h=>⟨_,rfl,h⟩
 | .i _ _,v,_,h=>⟨_,rfl,h⟩
 | .s _ _,v,_,h=>⟨_,rfl,h⟩
 | .p0,v,_,h=>⟨_,rfl,h⟩
 | .sl0,v,_,h=>⟨_,rfl,h⟩
 | .q T r n,v,_,h=>by
  obtain ⟨l,l1,l2,l3⟩:=qQd hK h;exact ⟨.qx (jP (C.ct T 0)) l,by simp only [Rfn]; exact ⟨l,rfl,l1,l2⟩,l3⟩
 | .qs l,v,_,h=>by
  refine ⟨.qs l,rfl,?_⟩;obtain ⟨h0,h⟩:=h;refine ⟨h0,?_⟩;rcases h with h | ⟨b,o,e,h⟩
  ·exact .inl h
  ·refine .inr ⟨b,o,e,?_⟩;rcases h with h | ⟨blk,k1,k2⟩
   ·exact .inl h
   ·exact .inr ⟨blk,hX _ _ k1,k2⟩
 | .agg l,v,f,h=>by
  obtain ⟨l',e,h1⟩:=h;obtain ⟨s',r1,r2⟩:=jSs hK hX l l' (by simpa only [aC] using f) h1
  exact ⟨.agg s',by simp only [Rfn]; exact ⟨s',rfl,r1⟩,l',e,r2⟩
 | .tup l,v,f,h=>by
  obtain ⟨l',e,h1⟩:=h;obtain ⟨s',r1,r2⟩:=jSs hK hX l l' (by simpa only [aC] using f) h1
  exact ⟨.tup s',by simp only [Rfn]; exact ⟨s',rfl,r1⟩,l',e,r2⟩
 | .tp _ _ _,v,f,_=>by simp [aC] at f
 | .te _ _ _ _,v,f,_=>by simp [aC] at f
 | .ts _ _ _ _,v,f,_=>by simp [aC] at f
 | .qp _ _ _,v,f,_=>by simp [aC] at f
 | .xs _,v,f,_=>by simp [aC] at f
 | .f _ _ _,v,f,_=>by simp [aC] at f
 | .fis _,v,f,_=>by simp [aC] at f
 | .fqs,v,f,_=>by simp [aC] at f
 | .qx _ _,v,f,_=>by simp [aC] at f
 | .xp _,v,f,_=>by simp [aC] at f
theorem jSs {Wn:Wd} {Hn:Hp} {σn:Mem} (hK:∀ b blk,(W.A b∨(W.K b).isSome=true)→σ.t.get b=some blk→Wn.K b=some blk) (hX:∀ b x,W.K b=some x→Wn.K b=some x):∀ (s:List SV) (v:List AV),jPd s=true→svs C W H σ s v→∃ s',jXf C s s'∧svs C Wn Hn σn s' v
 | [],v,_,h=>⟨[],by simp only [jXf],h⟩
 | x::r,v,f,h=>by
  obtain ⟨y,t,e,h1,h2⟩:=h;simp only [jPd,Bool.and_eq_true] at f;obtain ⟨s1,a1,a2⟩:=qKl (Hn:=Hn) (σn:=σn) hK hX x y f.1 h1;obtain ⟨s2,b1,b2⟩:=jSs (Hn:=Hn) (σn:=σn) hK hX r t f.2 h2;exact ⟨s1::s2,by simp only [jXf]; exact ⟨s1,s2,rfl,a1,b1⟩,y,t,e,a2,b2⟩
end
theorem qNi {call:Nat→List AV→Mem→Option (AV×Mem)} {Γ:qJ} {d:Nat} (hv:Val C call (Γ d)) (hr:Rl C W H σ) {f:Nat} {l:List SV} {vs:List AV} {Q:QO} (hl:svs C W H σ l vs) (h:wCz C Γ d f l H Q):OO C W H σ (call f vs σ) Q:=by
 obtain ⟨hf,h⟩:=jH h
 let W0:Wd:=⟨fun _=>False,fun _=>none,fun _=>0⟩
 have r0:Rl C W0 [] σ:=⟨fun i j x y hx=>by simp at hx,fun i x hx=>by simp at hx,fun i x hx=>by simp at hx,fun i x hx=>by simp at hx,fun b h=>h.elim,fun b x h=>by cases h⟩
 obtain ⟨v,σ',s,W1,H1,e1,e2,e3,e4,e5,e6,_,_⟩:=hv f l [] _ h W0 σ vs r0 (jDk l vs hf hl _ _ _);obtain ⟨hf2,e2⟩:=jH e2;have eH:H1=[]:=List.eq_nil_of_length_eq_zero e6;subst eH;have same:∀ b,b<σ.nx→σ'.t.get b=σ.t.get b:=fun b hb=>e4.fr b hb (fun q=>q) (fun ⟨i,x,hx,_⟩=>by simp at hx)
 have pC:∀ b,W1.A b→¬ b<σ.nx:=fun b h1 h2=>by
  rcases e4.nA b h2 h1 with q | ⟨i,x,hx,_⟩
  ·exact q
  ·simp at hx
 have newK:∀ b,(W1.K b).isSome=true→¬ b<σ.nx:=fun b h1 h2=>by
  rcases e4.nK b h2 h1 with q | ⟨i,x,hx,_⟩
  ·cases q
  ·simp at hx
 let Wn:Wd:=⟨W.A,fun b=>if b<σ.nx then W.K b else (open Classical in if W1.A b then σ'.t.get b else W1.K b),W.as⟩
 have k1:∀ b,b<σ.nx→Wn.K b=W.K b:=fun b hb=>if_pos hb;have k2:∀ b,W1.A b→Wn.K b=σ'.t.get b:=fun b hb=>by
  show (if b<σ.nx then _ else _)=_
  rw [if_neg (pC b hb),if_pos hb]
 have k3:∀ b x,W1.K b=some x→Wn.K b=some x:=fun b x hb=>by
  show (if b<σ.nx then _ else _)=_
  rw [if_neg (newK b (by rw [hb]; rfl)),if_neg]
  ·exact hb
  ·intro q;rw [(e3.A b q).2.2] at hb; cases hb
 have go:Go' W σ Wn σ':=by
  refine ⟨fun _ q=>q,fun b x hx=>by rw [k1 b (hr.K b x hx).1]; exact hx,fun b hb x hx=>⟨x,by rw [same b (hr.A b hb).1]; exact hx,Shp.rfl' x⟩,fun b x hx hg=>by rw [same b (hr.K b x hx).1]; exact hg⟩
 have on:On C W H σ Wn H σ':=⟨go,fun i hb hi=>⟨hb,hi,Nat.le_refl _,fun _=>⟨rfl,zV.refl _⟩⟩,hr.kok⟩;have rn:Rl C Wn H σ':=by
  refine ⟨hr.inj,fun i hb hi hl=>?_,fun i hb hi hl=>Nat.lt_of_lt_of_le (hr.lt i hb hi hl) e4.nx,fun i hb hi hl=>?_,fun b hb=>?_,fun b x hx=>?_⟩
  ·obtain ⟨b0,g1,g2,g3,g4⟩:=hr.blk i hb hi hl;exact ⟨b0,by show σ'.t.get (W.as i)=_; rw [same _ (hr.lt i hb hi hl)]; exact g1,g2,g3,g4.on on⟩
  ·obtain ⟨n1,n2⟩:=hr.nA i hb hi hl;exact ⟨n1,by show Wn.K (W.as i)=none; rw [k1 _ (hr.lt i hb hi hl)]; exact n2⟩
  ·obtain ⟨g1,⟨x,g2⟩,g3⟩:=hr.A b hb;exact ⟨Nat.lt_of_lt_of_le g1 e4.nx,⟨x,by rw [same b g1]; exact g2⟩,by rw [k1 b g1]; exact g3⟩
  ·by_cases q:b<σ.nx
   ·rw [k1 b q] at hx;obtain ⟨g1,g2⟩:=hr.K b x hx;exact ⟨Nat.lt_of_lt_of_le g1 e4.nx,by rw [same b g1]; exact g2⟩
   ·by_cases q2:W1.A b
    ·rw [k2 b q2] at hx;exact ⟨(e3.A b q2).1,hx⟩
    ·have:W1.K b=some x:=by
      have e:Wn.K b=W1.K b:=by
       show (if b<σ.nx then _ else _)=_
       rw [if_neg q,if_neg q2]
      rw [←e]; exact hx
     exact e3.K b x this
 have mv:Mv W H σ Wn H σ':=by
  refine ⟨go,on.hp,e4.nx,fun b hb _ _=>same b hb,fun b _ q=>.inl q,fun b hb q=>?_,fun b _ q=>q⟩;rw [k1 b hb] at q; exact .inl q
 obtain ⟨s',q1,q2⟩:=qKl (C:=C) (Wn:=Wn) (Hn:=H) (σn:=σ') (fun b blk hb hg=>by
  rcases hb with hb | hb
  ·rw [k2 b hb]; exact hg
  ·obtain ⟨x,hx⟩:=Option.isSome_iff_exists.1 hb;rw [k3 b x hx];have:=(e3.K b x hx).2;rw [hg] at this;exact this.symm) k3 s v hf2 e5
 refine ⟨v,σ',s',Wn,H,⟨true,[1000000000]⟩,e1,e2 s' q1,rn,mv,q2,fun κ hκ b=>?_⟩;cases κ with
 | h i=>exact ⟨Iff.rfl,fun ⟨x,hx,hl,e⟩=>by rw [←e]; exact same _ (hr.lt i x hx hl)⟩
 | a=>cases hκ
 | c=>cases hκ
theorem qJq (hr:Rl C W H σ) {e:Nat} {z:List AV} {Q:QO} (h:qMw H e z Q):OO C W H σ (pC σ e true z fun b=>.p b 0) Q:=by
 unfold qMw at h;split at h
 ·obtain ⟨e2,h⟩:=h;rw [qG] at h;have o:=qEn (C:=C) hr (e:=e) (z:=[.sl0]) (Q:=fun s H' t=>s = .tp H.length 0 0∧H'=H++[⟨e,0,.l [.sl0]⟩]∧t=⟨false,[H.length]⟩) (by
   have q:(gJ [AV.sl0]&&jS [AV.sl0])=true:=rfl;rw [q];simp [req,ofAs,ofA,bO,qG])
  obtain ⟨v,σ',s,W1,H1,t,e1,⟨rfl,rfl,rfl⟩,r1,m1,s1,t1⟩:=o;obtain ⟨k1,k2,k3⟩:=jBk r1 (hb':=⟨e2,0,.xs []⟩) (fun q=>q rfl);have hi2:(H++[⟨e,0,.l [.sl0]⟩]++[⟨e2,0,.xs []⟩]:Hp)[H.length]?=some ⟨e,0,.l [.sl0]⟩:=by simp
  have hi3:(H++[⟨e,0,.l [.sl0]⟩]++[⟨e2,0,.xs []⟩]:Hp)[H.length+1]?=some ⟨e2,0,.xs []⟩:=by rw [List.getElem?_append_right (by simp)]; simp
  obtain ⟨blk,g1,g2,g3,g4⟩:=k1.blk _ _ hi2 trivial;obtain ⟨n1,n2,n3⟩:=jLl (σ':=σ') (hb':=⟨e,0,.l [.ts (H.length+1) 0 0 1]⟩) k1 hi2 trivial rfl rfl rfl g1 (blk':=blk) rfl rfl (fun b=>by split; rename_i e; rw [e]; exact g1; rfl) rfl (fun on=>by
   obtain ⟨y,u,e3,y1,y2⟩:=g4.1;cases y1;refine ⟨⟨_,u,e3,⟨rfl,⟨e2,0,.xs []⟩,?_,Nat.le_refl _,fun _=>⟨rfl,rfl,rfl⟩⟩,y2⟩,rfl⟩;rw [uF (by omega)]; exact hi3)
  have eH:jG (H++[⟨e,0,.l [.sl0]⟩]++[⟨e2,0,.xs []⟩]:Hp) H.length ⟨e,0,.l [.ts (H.length+1) 0 0 1]⟩=H++[⟨e,0,.l [.ts (H.length+1) 0 0 1]⟩]++[⟨e2,0,.xs []⟩]:=by
   have:∀ (L:Hp) (a b c:HB),jG (L++[a]++[b]) L.length c=L++[c]++[b]:=by
    intro L a b c
    induction L with
    | nil=>rfl
    | cons x L ih=>simp only [List.cons_append,List.length_cons,jG,ih]
   exact this _ _ _ _
  rw [eH] at n1 n2 n3;have mm:=(m1.trans k2).trans n2;refine ⟨v,σ',_,W1,_,_,e1,h,n1,mm,sv.on (r1.on (k2.trans n2)) _ _ s1,?_⟩;refine (t1.trans (t2:=⟨false,[H.length,H.length+1]⟩) k3 fun κ hκ=>?_).trans n3 fun κ hκ=>?_
  ·cases κ with
   | h j=>simp only [hM,sU,Bool.or_eq_false_iff] at hκ ⊢; simp only [List.length_append,List.length_cons,List.length_nil]; exact ⟨⟨hκ.1,trivial⟩,hκ.2.1,trivial⟩
   | a=>exact ⟨rfl,rfl⟩
   | c=>exact ⟨rfl,rfl⟩
  ·cases κ with
   | h j=>simp only [hM,sU,Bool.or_eq_false_iff] at hκ ⊢; exact ⟨⟨hκ.1,hκ.2⟩,hκ.1,trivial⟩
   | a=>exact ⟨rfl,rfl⟩
   | c=>exact ⟨rfl,rfl⟩
 ·exact h.elim
end
end
noncomputable section
set_option linter.all false
open Go
mutual
def toA:SV→AV
 | .b x=>.b x
 | .i k n=>.i k n
 | .s n v=>.s n v
 | .tup l=>.tup (jGt l)
 | _=>wE
def jGt:List SV→List AV
 | []=>[]
 | x::l=>toA x::jGt l
end
section
variable {C:Cx} {W W':Wd} {H H':Hp} {σ σ':Mem}
mutual
theorem sv.flat:∀ (s:SV) (v:AV),jU s=true→sv C W H σ s v→v=toA s∧AV.flat v=true∧∀ W2 H2 σ2,sv C W2 H2 σ2 s v
 | .b x,v,_,h=>by cases h; exact ⟨rfl,rfl,fun _ _ _=>rfl⟩
 | .i _ _,v,_,h=>by cases h; exact ⟨rfl,rfl,fun _ _ _=>rfl⟩
 | .s _ _,v,_,h=>by obtain ⟨rfl,h0⟩:=h; exact ⟨rfl,rfl,fun _ _ _=>⟨rfl,h0⟩⟩
 | .tup l,v,f,h=>by
  obtain ⟨l',rfl,h1⟩:=h;obtain ⟨e,g,k⟩:=svs.flat l l' (by simpa only [jU] using f) h1
  subst e;exact ⟨rfl,by simpa only [AV.flat] using g,fun W2 H2 σ2=>⟨_,rfl,k W2 H2 σ2⟩⟩
 | .p0,v,f,h=>by simp [jU] at f
 | .sl0,v,f,h=>by simp [jU] at f
 | .tp _ _ _,v,f,h=>by simp [jU] at f
 | .te _ _ _ _,v,f,h=>by simp [jU] at f
 | .ts _ _ _ _,v,f,h=>by simp [jU] at f
 | .q _ _ _,v,f,h=>by simp [jU] at f
 | .qp _ _ _,v,f,h=>by simp [jU] at f
 | .qs _,v,f,h=>by simp [jU] at f
 | .xs _,v,f,h=>by simp [jU] at f
 | .f _ _ _,v,f,h=>by simp [jU] at f
 | .agg _,v,f,h=>by simp [jU] at f
theorem svs.flat:∀ (s:List SV) (v:List AV),vM s=true→svs C W H σ s v→v=jGt s∧jDg v=true∧∀ W2 H2 σ2,svs C W2 H2 σ2 s v
 | [],v,_,h=>by simp only [svs] at h; subst h; exact ⟨rfl,rfl,fun _ _ _=>rfl⟩
 | x::r,v,f,h=>by
  obtain ⟨y,t,rfl,h1,h2⟩:=h;simp only [vM,Bool.and_eq_true] at f;obtain ⟨e1,g1,k1⟩:=sv.flat x y f.1 h1;obtain ⟨e2,g2,k2⟩:=svs.flat r t f.2 h2;subst e1; subst e2;exact ⟨rfl,by simp only [jDg,g1,g2,Bool.and_self],fun W2 H2 σ2=>⟨_,_,rfl,k1 W2 H2 σ2,k2 W2 H2 σ2⟩⟩
end
theorem jVb (H:Hp) (k:Nat):k≤jYg H k:=(jIa.1 (Nat.le_refl (mx k (vJ (pS k H))))).1
theorem jQd:∀ {k i:Nat},i∈jTd k↔i<k
 | 0,i=>by simp [jTd]
 | k+1,i=>by simp only [jTd,List.mem_cons,jQd (k:=k)]; omega
theorem jDx:∀ {fr:List Nat},nW H fr=true→∀ i,i∈fr→∀ hb:HB,H[i]?=some hb→(∀ l,hb.c ≠ .l l)∧∀ T r n l,hb.c ≠ .rl T r n l
 | [],_,i,hi=>by cases hi
 | j::r,h,i,hi=>by
  simp only [nW,Bool.and_eq_true] at h;rcases List.mem_cons.1 hi with rfl | hi
  ·intro hb e;have:=h.1;rw [jZ,e] at this;refine ⟨fun l q=>?_,fun T r n l q=>?_⟩<;>(simp only [q] at this; cases this)
  ·exact jDx h.2 i hi
def GOK (C:Cx) (call:Nat→List AV→Mem→Option (AV×Mem)):Prop:=∀ f l s σ',vM l=true→jU s=true→call f (jGt l) mP=some (toA s,σ')→C.G f l s
theorem qEq {call:Nat→List AV→Mem→Option (AV×Mem)} {Γ:qJ} {d:Nat} (hv:Val C call (Γ d)) (hr:Rl C W H σ) {f:Nat} {l:List SV} {fr:List Nat} {vs:List AV} {k:Nat} {Q:QO}
  (hs:∀ Wf Hf,On C W H σ Wf Hf σ→(∀ i,i∈fr→kX W H σ Wf i)→svs C Wf Hf σ l vs) (hk0:k=0→gI l≤0) (h:jQf C Γ d f l H fr Q k):OO C W H σ (call f vs σ) Q:=by
 obtain ⟨Wf,a1,a2,a3,a4,a5⟩:=jKf fr hr;have hl:=hs Wf _ (hr.on a2) a4;cases k with
 | succ k=>
  obtain ⟨hn,h⟩:=jH h;simp only [Bool.and_eq_true] at hn;obtain ⟨⟨n1,n2⟩,n3⟩:=hn;rw [jPy] at n2 h;rw [qG] at n3;have n3':k+1≤(yI H fr).length:=by rw [lM]; exact Nat.le_of_ble_eq_true n3
  obtain ⟨v,σ',s,W',H',e1,e2,e3,e4,e5,e6,e7,e8,_⟩:=jUb hv a1 n3' (Nat.le_of_ble_eq_true n2) (Nat.le_of_ble_eq_true n1) h hl;rw [xA] at e2;refine ⟨v,σ',s,W',_,_,e1,e2,e3,a2.trans e4,e5,a3.trans (t':=⟨true,jTd (k+1)⟩) (W':=Wf) (H':=yI H fr) (σ':=σ) ?_ fun κ hκ=>?_⟩
  ·intro κ hκ b;cases κ with
   | a=>cases hκ
   | c=>cases hκ
   | h j=>
    have hj:k+1≤j:=by
     have:=uW hκ;rw [jQd] at this; omega
    have e:(H'++(yI H fr).drop (k+1))[j]?=(yI H fr)[j]?:=by rw [List.getElem?_append_right (by omega),List.getElem?_drop]; congr 1; omega
    refine ⟨by simp only [vS,e,e7 j hj],fun hk=>?_⟩
    obtain ⟨x,hx,hlx,rfl⟩:=hk;exact e8 j x hj hx hlx
  ·cases κ with
   | h j=>simp only [hM,jAl,Bool.or_eq_false_iff] at hκ ⊢; exact ⟨hκ.2,hκ.1⟩
   | a=>cases hκ
   | c=>cases hκ
 | zero=>
  have h':Γ d f l ((yI H fr).take 0) (fun v _=>brn (jU v&&nW H fr) (Q v H ⟨true,fr⟩) (Q v (yI H fr) ⟨true,1000000000::fr⟩)):=by rw [List.take_zero]; exact h
  obtain ⟨v,σ',s,W',H',e1,e2,e3,e4,e5,e6,e7,e8,e9,e10,e11⟩:=jUb (k:=0) hv a1 (Nat.zero_le _) (by simp [vJ]) (hk0 rfl) h' hl
  have eH:H'=[]:=List.eq_nil_of_length_eq_zero e6;subst eH;rw [List.nil_append,List.drop_zero] at e3 e4 e5;rcases mE e2 with ⟨b,e2⟩ | ⟨b,e2⟩
  ·simp only [Bool.and_eq_true] at b;have hfl:=sv.flat s v b.1 e5;have hln:=jDx b.2;have far:∀ (i:Nat) (hb:HB),i ∉ fr→H[i]?=some hb→qB hb.c→σ'.t.get (W.as i)=σ.t.get (W.as i):=fun i hb hi h1 h2=>by
    have:=e8 i hb (Nat.zero_le _) (by rw [lL hi]; exact h1) h2
    rw [a5] at this; exact this
   have go:Go' W σ W σ':=⟨fun _ q=>q,fun _ _ q=>q,fun b hb x hx=>e4.go.sh b (a2.go.A b hb) x hx,fun b x hx hg=>e4.go.kk b x (a2.go.K b x hx) hg⟩;have on:On C W H σ W H σ':=⟨go,kY.refl _ _,hr.kok⟩;refine ⟨v,σ',s,W,H,_,e1,e2,⟨hr.inj,fun i hb hi hlv=>?_,fun i hb hi hlv=>?_,hr.nA,fun b hb=>?_,fun b x hx=>?_⟩,⟨go,kY.refl _ _,e4.nx,fun b hb h1 h2=>?_,fun _ _ q=>.inl q,fun _ _ q=>.inl q,fun _ _ q=>q⟩,hfl.2.2 _ _ _,?_⟩
   ·obtain ⟨b0,g1,g2,g3,g4⟩:=hr.blk i hb hi hlv;by_cases hfr:i∈fr
    ·obtain ⟨f1,f2⟩:=a4 i hfr hb hi hlv;cases hc:hb.c with
     | l l=>exact absurd hc ((hln i hfr hb hi).1 l)
     | rl T r n l=>exact absurd hc ((hln i hfr hb hi).2 T r n l)
     | dead=>rw [hc] at hlv; exact hlv.elim
     | xr w l=>
      obtain ⟨blk,q1,q2⟩:=f1 (by rw [hc]; rfl)
      rw [g1] at q1; cases q1;rw [hc] at g4;exact ⟨b0,e4.go.kk _ _ q2 g1,g2,g3,g4.on on⟩
     | xs l=>
      obtain ⟨blk,q1,q2⟩:=f1 (by rw [hc]; rfl)
      rw [g1] at q1; cases q1;rw [hc] at g4;exact ⟨b0,e4.go.kk _ _ q2 g1,g2,g3,g4⟩
     | r T r n=>
      have hA:=f2 (by rw [hc]; rfl)
      obtain ⟨x',q1,q2⟩:=e4.go.sh _ hA _ g1;rw [hc] at g4;obtain ⟨κ,k1,k2,k3,k4,k5⟩:=g4;refine ⟨x',q1,q2.elem.trans g2,q2.plain.trans g3,κ,k1,k2,q2.len.trans k3,fun a j ty ha hj=>?_,fun a ha=>?_⟩
      rotate_left
      ·refine k2.rp _ _ (fun j hj=>?_) (k5 a ha);obtain ⟨c,c1⟩:∃ c,b0.cells[a*(C.ct T 0).length+j]?=some c:=⟨_,List.getElem?_eq_some_iff.2 ⟨by rw [k3]; exact qDv ha hj,rfl⟩⟩
       obtain ⟨c',c3,c4⟩:=q2.cell _ _ c1;rw [c1,c3];exact c4.pc
      exact q2.row k2 (p:=a*(C.ct T 0).length) (κ:=fun j=>C.co T+κ a j) (fun j ty hj=>by
       obtain ⟨c,c1,c2⟩:=k4 a j ty ha hj;exact ⟨c,c1,c2.go go hr.kok⟩) j ty hj
    ·exact ⟨b0,by rw [far i hb hfr hi hlv]; exact g1,g2,g3,g4.on on⟩
   ·have:=hr.lt i hb hi hlv; have:=e4.nx; omega
   ·obtain ⟨g1,⟨x,g2⟩,g3⟩:=hr.A b hb;obtain ⟨x',hx',_⟩:=go.sh b hb x g2;exact ⟨by have:=e4.nx; omega,⟨x',hx'⟩,g3⟩
   ·obtain ⟨g1,g2⟩:=hr.K b x hx;exact ⟨by have:=e4.nx; omega,go.kk b x hx g2⟩
   ·refine e11 b hb (fun q=>?_) (fun ⟨i,x,hx,_⟩=>by simp at hx)
    rcases a2.nA b hb q with q | q
    ·exact h1 q
    ·exact h2 q
   ·intro κ hκ b;refine ⟨Iff.rfl,fun hk=>?_⟩;cases κ with
    | a=>cases hκ
    | c=>
     obtain ⟨x,hx⟩:=Option.isSome_iff_exists.1 (show (W.K b).isSome=true from hk);obtain ⟨g1,g2⟩:=hr.K b x hx;rw [go.kk b x hx g2,g2]
    | h i=>
     obtain ⟨x,hx,hlx,rfl⟩:=hk;exact far i x (uW hκ) hx hlx
  ·refine ⟨v,σ',s,W',_,_,e1,e2,e3,a2.trans e4,e5,a3.trans (t':=⟨true,[1000000000]⟩) (W':=Wf) (H':=yI H fr) (σ':=σ) ?_ fun κ hκ=>?_⟩
   ·intro κ hκ b;cases κ with
    | a=>cases hκ
    | c=>cases hκ
    | h j=>
     refine ⟨by simp only [vS,e7 j (Nat.zero_le _)],fun hk=>?_⟩
     obtain ⟨x,hx,hlx,rfl⟩:=hk;exact e8 j x (Nat.zero_le _) hx hlx
   ·cases κ with
    | h j=>simp only [hM,sU,Bool.or_eq_false_iff,Bool.or_false] at hκ ⊢; exact ⟨hκ.2,hκ.1⟩
    | a=>cases hκ
    | c=>cases hκ
theorem jLo:∀ (H:Hp) (i:Nat),(wkH C H)[i]?=(H[i]?).map (wkB C)
 | [],i=>by simp [wkH]
 | a::H,0=>by simp [wkH]
 | a::H,i+1=>by simpa [wkH] using jLo H i
theorem jUd:∀ (ts:List AT) (l:List SV),(cnL ts l).length=l.length
 | [],l=>by simp [cnL]
 | t::ts,[]=>by simp [cnL]
 | t::ts,v::l=>by simp [cnL,jUd ts l]
theorem qAr:∀ (ts:List AT) {l:List SV} {cs:List AV},svs C W H σ l cs→svs C W H σ (cnL ts l) cs
 | [],l,cs,h=>by simpa [cnL] using h
 | t::ts,[],cs,h=>by simpa [cnL] using h
 | t::ts,v::l,cs,h=>by
  obtain ⟨y,u,e,h1,h2⟩:=h;simp only [cnL];refine ⟨y,u,e,?_,qAr ts h2⟩;split
  ·cases h1; exact ⟨.q0 _ _,.inl ⟨rfl,rfl⟩⟩
  ·exact h1
theorem jMt:∀ (ts:List AT) {l:List SV},qF l=true→qF (cnL ts l)=true
 | [],l,h=>by simpa [cnL] using h
 | t::ts,[],h=>by simpa [cnL] using h
 | t::ts,v::l,h=>by
  simp only [qF,Bool.and_eq_true] at h;simp only [cnL,qF,jMt ts h.2,Bool.and_true];split
  ·rfl
  ·exact h.1
theorem dU (hb:HB):(wkB C hb).e=hb.e∧(wkB C hb).g=hb.g∧zV hb.c (wkB C hb).c:=by
 unfold wkB;split
 ·rename_i h; rw [h]; exact ⟨rfl,rfl,rfl,rfl,rfl⟩
 ·rename_i l h;split
  ·rename_i ts _; rw [h]; exact ⟨rfl,rfl,(jUd ts l).symm⟩
  ·exact ⟨rfl,rfl,zV.refl _⟩
 ·exact ⟨rfl,rfl,zV.refl _⟩
theorem qNw (hr:Rl C W H σ):Rl C W (wkH C H) σ∧Mv W H σ W (wkH C H) σ∧On C W H σ W (wkH C H) σ∧Tc t0 W H σ W (wkH C H) σ:=by
 have get:∀ (i:Nat) (hb:HB),(wkH C H)[i]?=some hb→∃ h0,H[i]?=some h0∧hb=wkB C h0∧(qB hb.c↔qB h0.c):=by
  intro i hb e;rw [jLo] at e;cases h0:H[i]? with
  | none=>rw [h0] at e; simp at e
  | some x=>rw [h0] at e; simp at e; subst e; exact ⟨x,rfl,rfl,(dU (C:=C) x).2.2.live.symm⟩
 have fwd:∀ (i:Nat) (hb:HB),H[i]?=some hb→(wkH C H)[i]?=some (wkB C hb):=fun i hb e=>by rw [jLo,e]; rfl
 have hp:kY W H W (wkH C H):=fun i hb e=>⟨wkB C hb,fwd i hb e,by rw [(dU (C:=C) hb).2.1]; exact Nat.le_refl _,fun _=>⟨rfl,(dU (C:=C) hb).2.2⟩⟩
 have on:On C W H σ W (wkH C H) σ:=⟨Go'.refl,hp,hr.kok⟩;have own:∀ b,Own W (wkH C H) b↔Own W H b:=by
  intro b;constructor
  ·rintro ⟨i,hb,e,l,q⟩;obtain ⟨h0,e0,_,l0⟩:=get i hb e;exact ⟨i,h0,e0,l0.1 l,q⟩
  ·rintro ⟨i,hb,e,l,q⟩;exact ⟨i,_,fwd i hb e,(dU (C:=C) hb).2.2.live.1 l,q⟩
 refine ⟨⟨fun i j x y hx hy lx ly q=>?_,fun i x hx lx=>?_,fun i x hx lx=>?_,fun i x hx lx=>?_,hr.A,hr.K⟩,⟨Go'.refl,hp,Nat.le_refl _,fun _ _ _ _=>rfl,fun _ _ q=>.inl q,fun _ _ q=>.inl q,fun b _ q=>(own b).1 q⟩,on,?_⟩
 ·obtain ⟨x0,e1,_,l1⟩:=get i x hx;obtain ⟨y0,e2,_,l2⟩:=get j y hy;exact hr.inj i j x0 y0 e1 e2 (l1.1 lx) (l2.1 ly) q
 ·obtain ⟨x0,e1,rfl,l1⟩:=get i x hx;obtain ⟨blk,g1,g2,g3,g4⟩:=hr.blk i x0 e1 (l1.1 lx);refine ⟨blk,g1,by rw [g2,(dU (C:=C) x0).1],g3,?_⟩
  have g5:=g4.on on;unfold wkB;split
  ·rename_i h; rw [h] at g5; exact g5.1
  ·rename_i l h;rw [h] at g5;split
   ·exact ⟨qAr _ g5.1,jMt _ g5.2⟩
   ·rw [h]; exact g5
  ·exact g5
 ·obtain ⟨x0,e1,_,l1⟩:=get i x hx;exact hr.lt i x0 e1 (l1.1 lx)
 ·obtain ⟨x0,e1,_,l1⟩:=get i x hx;exact hr.nA i x0 e1 (l1.1 lx)
 ·intro κ hκ b;refine ⟨?_,fun _=>rfl⟩;cases κ with
  | h i=>
   simp only [vS];constructor
   ·rintro ⟨hb,e,l,q⟩; exact ⟨_,fwd i hb e,(dU (C:=C) hb).2.2.live.1 l,q⟩
   ·rintro ⟨hb,e,l,q⟩;obtain ⟨h0,e0,_,l0⟩:=get i hb e;exact ⟨h0,e0,l0.1 l,q⟩
  | a=>exact Iff.rfl
  | c=>exact Iff.rfl
theorem jVc (hr:Rl C W H σ) {i g n:Nat} {hb:HB} {l:List SV} {v:AV} (hi:H[i]?=some hb) (hg:hb.g=g) (hc:hb.c = .l l) (ht:sX C (W.as i) n 1 v hb.c) {Q:List (Nat×Nat)→Prop} (h:vN l Q) :
  ∃ l0,Q l0∧Rl C W (jG H i ⟨hb.e,Nat.succ g,.xs l0⟩) σ∧Mv W H σ W (jG H i ⟨hb.e,Nat.succ g,.xs l0⟩) σ∧Tc t0 W H σ W (jG H i ⟨hb.e,Nat.succ g,.xs l0⟩) σ∧sX C (W.as i) n 1 v (.xs l0):=by
 obtain ⟨blk,g1,g2,g3,g4⟩:=hr.blk i hb hi (by rw [hc]; trivial)
 rw [hc] at g4;obtain ⟨l0,h,hcells,hcan,hlen⟩:=dR g4.1 h;rw [hc] at ht;obtain ⟨hv,hll,hpos⟩:=ht;have hne:l0≠[]:=by intro q; rw [q] at hlen; simp at hlen; omega
 obtain ⟨k1,k2,k3⟩:=jUf hr hi (hb':=⟨hb.e,Nat.succ g,.xs l0⟩) (by show hb.g<g+1; omega) rfl (by rw [hc]; exact ⟨fun _=>trivial,fun _=>hne⟩) (fun b q1 q2=>by rw [g1] at q1; cases q1; exact ⟨hcells,hcan⟩)
 refine ⟨l0,h,k1,k2,?_,by omega,rfl,by rw [if_neg (by omega)]; exact hv⟩
 intro κ hκ b;refine ⟨?_,fun _=>rfl⟩;cases κ with
 | h j=>
  by_cases q:j=i
  ·subst q;simp only [vS,uE hi,hi,Option.some.injEq];constructor
   ·rintro ⟨x,rfl,_,e⟩; exact ⟨_,rfl,hne,e⟩
   ·rintro ⟨x,rfl,_,e⟩; exact ⟨_,rfl,by rw [hc]; trivial,e⟩
  ·simp only [vS,uF q]
 | a=>exact Iff.rfl
 | c=>exact Iff.rfl
theorem qIb (hr:Rl C W H σ) {s:SV} {v:AV} {Q:SV→Hp→Prop} (hx:sv C W H σ s v) (h:qCp H s Q):∃ s' H',Q s' H'∧Rl C W H' σ∧Mv W H σ W H' σ∧Tc t0 W H σ W H' σ∧sv C W H' σ s' v:=by
 unfold qCp at h;split at h
 ·rename_i i g n sz;rw [jZ] at h;split at h
  ·rename_i hb hi;split at h
   ·rename_i l hc;obtain ⟨e,h⟩:=jH h;rw [Bool.and_eq_true] at e;have hg:=Nat.eq_of_beq_eq_true e.1;have ez:=Nat.eq_of_beq_eq_true e.2;rw [ez] at hx;obtain ⟨l0,k0,k1,k2,k3,k4⟩:=jVc hr hi hg hc (qS hx.2 hi hg) h;exact ⟨.ts i (Nat.succ g) n 1,_,k0,k1,k2,k3,hx.1,_,uE hi,Nat.le_refl _,fun _=>k4⟩
   ·exact ⟨_,_,h,hr,Mv.refl,Tc.refl _ _ _ _,hx⟩
  ·exact ⟨_,_,h,hr,Mv.refl,Tc.refl _ _ _ _,hx⟩
 ·exact ⟨_,_,h,hr,Mv.refl,Tc.refl _ _ _ _,hx⟩
theorem jKn:∀ {ts:List AT} {l:List SV} {vs:List AV} {H:Hp} {Q:List SV→Hp→Prop},Rl C W H σ→svs C W H σ l vs→lits ts l H Q→∃ l' H',Q l' H'∧Rl C W H' σ∧Mv W H σ W H' σ∧Tc t0 W H σ W H' σ∧svs C W H' σ l' vs
 | [],l,vs,H,Q,hr,hl,h=>⟨l,H,by cases l<;>exact h,hr,Mv.refl,Tc.refl _ _ _ _,hl⟩
 | t::ts,[],vs,H,Q,hr,hl,h=>⟨[],H,h,hr,Mv.refl,Tc.refl _ _ _ _,hl⟩
 | t::ts,s::l,vs,H,Q,hr,hl,h=>by
  obtain ⟨y,u,rfl,h1,h2⟩:=hl;simp only [lits] at h;rcases mE h with ⟨_,h⟩ | ⟨_,h⟩
  ·obtain ⟨s',H1,q1,r1,m1,c1,x1⟩:=qIb hr h1 h;obtain ⟨l',H2,q2,r2,m2,c2,x2⟩:=jKn r1 (svs.on (hr.on m1) _ _ h2) q1;exact ⟨s'::l',H2,q2,r2,m1.trans m2,c1.trans c2 (fun κ hκ=>⟨hκ,hκ⟩),y,u,rfl,sv.on (r1.on m2) _ _ x1,x2⟩
  ·obtain ⟨l',H2,q2,r2,m2,c2,x2⟩:=jKn hr h2 h;exact ⟨s::l',H2,q2,r2,m2,c2,y,u,rfl,sv.on (hr.on m2) _ _ h1,x2⟩
theorem qEr (hC:wP C) {call:Nat→List AV→Mem→Option (AV×Mem)} {Γ:qJ} {d:Nat} (hv:Val C call (Γ d)) (hr:Rl C W H σ) {f:Nat} {l:List SV} {vs:List AV} {Q:QO} (hl:svs C W H σ l vs) (h:wCf C Γ d f l H Q):OO C W H σ (call f vs σ) Q:=by
 obtain ⟨w1,w2,w3,w4⟩:=qNw hr;obtain ⟨l1,H1,b1,b2,b3,b4,b5⟩:=jKn w1 (svs.on w3 _ _ hl) h;obtain ⟨s',fr,h1,h2⟩:=aU hC b2 _ b5 b1;have oo:OO C W H1 σ (call f vs σ) Q:=by
  refine qEq hv b2 h2 (fun e=>?_) h1;have:=jVb H1 (jYg H1 (gI s'));have:=jVb H1 (gI s');omega
 obtain ⟨v,σ',s,W',H',t,e,q,r1,m1,s1,t1⟩:=oo;exact ⟨v,σ',s,W',H',t,e,q,r1,(w2.trans b3).trans m1,s1,(w4.trans (t2:=t0) b4 fun κ hκ=>⟨hκ,hκ⟩).trans t1 fun κ hκ=>⟨by cases κ<;>rfl,hκ⟩⟩
def W0:Wd:=⟨fun _=>False,fun _=>none,fun _=>0⟩
theorem rl0:Rl C W0 [] mP:=⟨fun i j x y hx=>by simp at hx,fun i x hx=>by simp at hx,fun i x hx=>by simp at hx,fun i x hx=>by simp at hx,fun b h=>h.elim,fun b x h=>by cases h⟩
theorem qNf {call:Nat→List AV→Mem→Option (AV×Mem)} {Γ:qJ} {d:Nat} (hv:Val C call (Γ d)) (hG:GOK C call) (hr:Rl C W H σ) {f:Nat} {l:List SV} {vs:List AV} {Q:QO} (hl:svs C W H σ l vs) (h:wCp C Γ d f l H Q):OO C W H σ (eCp call f vs σ) Q:=by
 obtain ⟨hf,h⟩:=jH h;obtain ⟨e,e2,e3⟩:=svs.flat l vs hf hl;obtain ⟨v,σ',s,W',H',g1,g2,g3,g4,g5,_⟩:=hv f l [] _ h W0 mP vs rl0 (e3 _ _ _);obtain ⟨hf2,g2⟩:=jH g2;obtain ⟨k1,k2,k3⟩:=sv.flat s v hf2 g5;have q:=g2 (hG f l s σ' hf hf2 (by rw [←e,←k1]; exact g1))
 exact ⟨v,σ,s,W,H,t0,by simp only [eCp,e2,if_true,g1,k2],q,hr,Mv.refl,k3 _ _ _,Tc.refl _ _ _ _⟩
theorem qNh (hC:wP C) {call:Nat→List AV→Mem→Option (AV×Mem)} {Γ:qJ} {d:Nat} (hv:Val C call (Γ d)) (hr:Rl C W H σ) {s:SV} {x:AV} {l:List SV} {vs:List AV} {Q:QO} (hx:sv C W H σ s x) (hl:svs C W H σ l vs) (h:wCv C Γ d s l H Q):OO C W H σ (eCv call x vs σ) Q:=by
 unfold wCv at h;split at h
 ·obtain ⟨a',c',rfl,h1,h2⟩:=hx;exact qEr hC hv hr ((h1.app hl).app h2) h
 ·exact h.elim
mutual
theorem jVn (p:Nat→Bool):∀ (s:SV) (v:AV),gT s=true→sv C W H σ s v→AV.okIn p v=true∧∀ W2 H2 σ2,sv C W2 H2 σ2 s v
 | .b x,v,_,h=>by cases h; exact ⟨rfl,fun _ _ _=>rfl⟩
 | .i _ _,v,_,h=>by cases h; exact ⟨rfl,fun _ _ _=>rfl⟩
 | .s _ _,v,_,h=>by obtain ⟨rfl,h0⟩:=h; exact ⟨rfl,fun _ _ _=>⟨rfl,h0⟩⟩
 | .p0,v,_,h=>by cases h; exact ⟨rfl,fun _ _ _=>rfl⟩
 | .sl0,v,_,h=>by cases h; exact ⟨rfl,fun _ _ _=>rfl⟩
 | .agg l,v,f,h=>by
  obtain ⟨l',rfl,h1⟩:=h;obtain ⟨g,k⟩:=iC p l l' (by simpa only [gT] using f) h1
  exact ⟨by simpa only [AV.okIn] using g,fun W2 H2 σ2=>⟨_,rfl,k W2 H2 σ2⟩⟩
 | .tup l,v,f,h=>by
  obtain ⟨l',rfl,h1⟩:=h;obtain ⟨g,k⟩:=iC p l l' (by simpa only [gT] using f) h1
  exact ⟨by simpa only [AV.okIn] using g,fun W2 H2 σ2=>⟨_,rfl,k W2 H2 σ2⟩⟩
 | .tp _ _ _,v,f,h=>by simp [gT] at f
 | .te _ _ _ _,v,f,h=>by simp [gT] at f
 | .ts _ _ _ _,v,f,h=>by simp [gT] at f
 | .q _ _ _,v,f,h=>by simp [gT] at f
 | .qp _ _ _,v,f,h=>by simp [gT] at f
 | .qs _,v,f,h=>by simp [gT] at f
 | .xs _,v,f,h=>by simp [gT] at f
 | .f _ _ _,v,f,h=>by simp [gT] at f
 | .fis _,v,f,h=>by simp [gT] at f
 | .fqs,v,f,h=>by simp [gT] at f
 | .qx _ _,v,f,h=>by simp [gT] at f
 | .xp _,v,f,h=>by simp [gT] at f
theorem iC (p:Nat→Bool):∀ (s:List SV) (v:List AV),iB s=true→svs C W H σ s v→tI p v=true∧∀ W2 H2 σ2,svs C W2 H2 σ2 s v
 | [],v,_,h=>by simp only [svs] at h; subst h; exact ⟨rfl,fun _ _ _=>rfl⟩
 | x::r,v,f,h=>by
  obtain ⟨y,t,rfl,h1,h2⟩:=h;simp only [iB,Bool.and_eq_true] at f;obtain ⟨g1,k1⟩:=jVn p x y f.1 h1;obtain ⟨g2,k2⟩:=iC p r t f.2 h2;exact ⟨by simp only [tI,g1,g2,Bool.and_self],fun W2 H2 σ2=>⟨_,_,rfl,k1 W2 H2 σ2,k2 W2 H2 σ2⟩⟩
end
mutual
theorem jYb:∀ s:SV,jU s=true→gT s=true
 | .b _,_=>rfl
 | .i _ _,_=>rfl
 | .s _ _,_=>rfl
 | .tup l,h=>by simp only [gT]; exact hJ l (by simpa only [jU] using h)
 | .p0,h=>rfl
 | .sl0,h=>rfl
 | .tp _ _ _,h=>by simp [jU] at h
 | .te _ _ _ _,h=>by simp [jU] at h
 | .ts _ _ _ _,h=>by simp [jU] at h
 | .q _ _ _,h=>by simp [jU] at h
 | .qp _ _ _,h=>by simp [jU] at h
 | .qs _,h=>by simp [jU] at h
 | .xs _,h=>by simp [jU] at h
 | .f _ _ _,h=>by simp [jU] at h
 | .agg _,h=>by simp [jU] at h
 | .fis _,h=>by simp [jU] at h
 | .fqs,h=>by simp [jU] at h
 | .qx _ _,h=>by simp [jU] at h
 | .xp _,h=>by simp [jU] at h
theorem hJ:∀ l:List SV,vM l=true→iB l=true
 | [],_=>rfl
 | x::l,h=>by
  simp only [vM,Bool.and_eq_true] at h;simp only [iB,jYb x h.1,hJ l h.2,Bool.and_self]
end
theorem rlK:Rl C W0 [] jKo:=⟨fun i j x y hx=>by simp at hx,fun i x hx=>by simp at hx,fun i x hx=>by simp at hx,fun i x hx=>by simp at hx,fun b h=>h.elim,fun b x h=>by cases h⟩
theorem qNg {call:Nat→List AV→Mem→Option (AV×Mem)} {Γ:qJ} {d:Nat} (hv:Val C call (Γ d)) (hr:Rl C W H σ) {f:Nat} {l:List SV} {vs:List AV} {Q:QO} (hl:svs C W H σ l vs) (h:wCq C Γ d f l H Q):OO C W H σ (eCq call f vs σ) Q:=by
 obtain ⟨hf,h⟩:=jH h;obtain ⟨e,e2,e3⟩:=svs.flat l vs hf hl;obtain ⟨v,σ',s,W',H',g1,g2,g3,g4,g5,_⟩:=hv f l [] _ h W0 jKo vs rlK (e3 _ _ _);obtain ⟨hf2,g2⟩:=jH g2;obtain ⟨k1,k2⟩:=jVn (fun b=>Nat.blt 0 b&&tG b vs) s v hf2 g5;obtain ⟨k3,_⟩:=iC (fun b=>Nat.blt b 500000000) l vs (hJ l hf) hl;exact ⟨v,σ,s,W,H,t0,by simp only [eCq,k3,if_true,jRg,g1,k1],g2,hr,Mv.refl,k2 _ _ _,Tc.refl _ _ _ _⟩
theorem jMo:∀ {l:List SV} {v:List AV},svs C W H σ l v→lC l→∃ w,lE v=some w∧w<256^v.length
 | [],v,h,_=>by simp only [svs] at h; subst h; exact ⟨0,rfl,by simp⟩
 | x::r,v,h,k=>by
  obtain ⟨y,t,rfl,h1,h2⟩:=h;cases x<;>try (simp only [lC] at k)
  rename_i kk n;cases kk<;>simp only [lC] at k;cases h1;obtain ⟨w,hw,hlt⟩:=jMo h2 k.2;obtain ⟨m,rfl⟩:=Int.eq_ofNat_of_zero_le k.1.1;have hm:Nat.blt m 256=true:=by simp [Nat.blt_eq]; omega
  refine ⟨Nat.add m (Nat.mul 256 w),by rw [show AV.i .u8 (m:Int)=AV.i .u8 (.ofNat m) from rfl]; simp only [lE,hm,if_true,hw,qI],?_⟩
  show m+256*w<256^(t.length+1);rw [Nat.pow_succ];have:=k.1.2;omega
theorem qNb (hr:Rl C W H σ) {s:SV} {x:X} {τ:T} {Q:P1} (hx:sv C W H σ s (x.ev τ)) (h0:wBt H s Q):PO C W H σ (xBt x τ σ) Q:=by
 unfold wBt at h0;split at h0
 ·rename_i i g n sz;obtain ⟨e,h⟩:=jH h0;cases Nat.eq_of_beq_eq_true e;obtain ⟨hb,hi,hg,h⟩:=qU h;have ht:=qS hx.2 hi hg;split at h
  ·rename_i l hc;rw [hc] at ht;obtain ⟨hv,h1,h2⟩:=ht;obtain ⟨blk,g1,g2,g3,g4⟩:=hr.blk i hb hi (by rw [hc]; trivial)
   rw [hc] at g4;obtain ⟨w,hw,hlt⟩:=jMo g4.1 h.1;have hbl:blk.cells.length=n:=by rw [g4.1.len,h1,Nat.mul_one]
   have hn:Nat.beq n 0=false:=by rw [uL]; simpa using (by omega:n≠0)
   have hld:σ.load (W.as i) 0 n=some blk.cells:=by
    rw [jVe g1 (by rw [List.drop_zero,hbl]; exact Nat.le_refl _),List.drop_zero,List.take_of_length_le (by rw [hbl]; exact Nat.le_refl _)]
   refine ⟨.s n w,_,?_,h.2 w,rfl,by rw [←hbl]; exact hlt⟩
   simp only [xBt,hv,hn,hld,pU,hw];simp
  ·exact h.elim
 ·exact h0.elim
theorem qMz {g:Bool} {s t:SV} {x y:X} {τ:T} {Q:P1} (hx:sv C W H σ s (x.ev τ)) (hy:sv C W H σ t (y.ev τ)) (h:wBe g s t Q):PO C W H σ (xBe g x y τ) Q:=by
 unfold wBe at h;split at h
 ·have hx':x.ev τ=_:=hx;have hy':y.ev τ=_:=hy;exact ⟨_,_,by simp only [xBe,hx',hy'],h,rfl⟩
 ·exact h.elim
theorem jRk (hC:wP C) {r:Option (AV×Mem)} {Q:QO} (h:OO C W H σ r (jAw Q)):OO C W H σ r Q:=by
 obtain ⟨v,σ',s,W',H',t,e,q,r1,m1,s1,t1⟩:=h;unfold jAw at q;split at q
 ·rename_i i g n sz;obtain ⟨hb,hi,hg,q⟩:=qU q;have ht:=qS s1.2 hi hg;obtain ⟨Wf,f1,f2,f3,f4,_⟩:=eJ r1 i;have tc:Tc ⟨true,i::t.l⟩ W H σ Wf (dead H' i) σ':=t1.trans f3 fun κ hκ=>by
   cases κ with
   | h j=>simp only [hM,sU,Bool.or_eq_false_iff] at hκ ⊢; exact ⟨hκ.2,hκ.1,trivial⟩
   | a=>cases hκ
   | c=>cases hκ
  split at q
  ·rename_i T r m hc;exact ⟨v,σ',_,Wf,_,_,e,q.2,f1,m1.trans f2,qKe (hNB:=q.1) r1 hi hc ht f4 f2.go,tc⟩
  ·rename_i l hc;exact ⟨v,σ',_,Wf,_,_,e,q,f1,m1.trans f2,jDl r1 hi hc ht f4 (rA r1 hi hc),tc⟩
  ·rename_i l hc;obtain ⟨ez,q⟩:=jH q;cases Nat.eq_of_beq_eq_true ez;obtain ⟨l0,k0,k1,k2,k3,k4⟩:=jVc r1 hi hg hc ht q;obtain ⟨Wg,g1,g2,g3,g4,_⟩:=eJ k1 i;have hi2:=uE (hb':=(⟨hb.e,Nat.succ g,.xs l0⟩:HB)) hi;exact ⟨v,σ',_,Wg,_,_,e,k0,g1,(m1.trans k2).trans g2,jDl k1 hi2 rfl k4 g4 (rA k1 hi2 rfl),(t1.trans (t2:=t) k3 fun κ hκ=>⟨hκ,by cases κ<;>rfl⟩).trans g3 fun κ hκ=>by
    cases κ with
    | h j=>simp only [hM,sU,Bool.or_eq_false_iff] at hκ ⊢; exact ⟨hκ.2,hκ.1,trivial⟩
    | a=>cases hκ
    | c=>cases hκ⟩
  ·exact q.elim
 ·exact q.elim
theorem qPh (hC:wP C) (hr:Rl C W H σ) {s:SV} {v:AV} {Q:QO} (hx:sv C W H σ s v) (h:jAw Q s H t0):OO C W H σ (some (v,σ)) Q:=
 jRk hC ⟨v,σ,s,W,H,t0,rfl,h,hr,Mv.refl,hx,Tc.refl _ _ _ _⟩
theorem qSc (hr:Rl C W H σ) {s:SV} {v:AV} {Q:QO} (hx:sv C W H σ s v) (h:rvQ C Q s H):OO C W H σ (some (v,σ)) Q:=by
 unfold rvQ at h;split at h
 ·obtain ⟨i,h⟩:=h;rw [jZ] at h;cases hx;split at h
  ·rename_i hb hi;split at h
   ·rename_i T r hc hk;obtain ⟨a1,a2,a3⟩:=qDu (hb':=⟨hb.e,Nat.succ hb.g,.r T r 0⟩) hr hi (Nat.lt_succ_self _) (fun q=>q rfl);refine ⟨_,σ,_,W,_,_,rfl,h,a1,a2,⟨rfl,_,uE hi,Nat.le_refl _,fun _=>?_⟩,a3⟩;exact ⟨rfl,qG _,rfl⟩
   ·obtain ⟨a1,a2,a3⟩:=qDu (hb':=⟨hb.e,Nat.succ hb.g,.xs []⟩) hr hi (Nat.lt_succ_self _) (fun q=>q rfl);exact ⟨_,σ,_,W,_,_,rfl,h,a1,a2,⟨rfl,_,uE hi,Nat.le_refl _,fun _=>⟨rfl,rfl,rfl⟩⟩,a3⟩
   ·exact h.elim
  ·exact h.elim
 ·exact h.elim
theorem jCz (hC:wP C) {call:Nat→List AV→Mem→Option (AV×Mem)} {Γ:qJ} {d:Nat} (hv:Val C call (Γ d)) (hG:GOK C call) (hr:Rl C W H σ) {E:Env} {τ:T} (he:zY C W H σ E τ) {c:Ev.C} {Q:QO} (h:wO C Γ d c E H Q):OO C W H σ (yE call c τ σ) Q:=by
 cases c<;>simp only [wO] at h<;>try exact h.elim
 case mv x=>
  obtain ⟨s,h,hx⟩:=zH he h;rcases h with h | h | h
  ·exact PO.oo hr ⟨_,_,rfl,h,hx⟩
  ·exact qPh hC hr hx h
  ·exact qSc hr hx h
 case pick a b c=>
  obtain ⟨s,h,hx⟩:=zH he h;obtain ⟨t,h,hy⟩:=zH he h;obtain ⟨u,h,hz⟩:=zH he h;exact PO.oo hr (qEt hx hy hz h)
 case al e z=>
  rcases h with h | h
  ·exact qEn hr h
  ·exact qJq hr h
 case bx e x=>obtain ⟨s,h,hx⟩:=zH he h; exact qNc hr hx h
 case bd z ps=>exact qMy hr he h
 case bs e sz z len ps=>
  rcases h with h | h
  ·exact qEp hr he h
  ·exact jRk hC (qEp hr he h)
 case ld n a=>obtain ⟨s,h,hx⟩:=zH he h; exact PO.oo hr (qEs hC hr hx h)
 case st n a x=>
  obtain ⟨s,h,hx⟩:=zH he h;obtain ⟨t,h,hy⟩:=zH he h;exact qNu hC hr hx hy h
 case nc x=>obtain ⟨s,h,hx⟩:=zH he h; exact PO.oo hr (qNr hr hx h)
 case bi o x y=>
  obtain ⟨s,h,hx⟩:=zH he h;obtain ⟨t,h,hy⟩:=zH he h;exact PO.oo hr (qNa hx hy h)
 case un o x=>obtain ⟨s,h,hx⟩:=zH he h; exact PO.oo hr (qNv hx h)
 case ci k x=>obtain ⟨s,h,hx⟩:=zH he h; exact PO.oo hr (qNe hx h)
 case mf f a c=>
  obtain ⟨s,h,hx⟩:=aH he h;obtain ⟨t,h,hy⟩:=aH he h;exact PO.oo hr ⟨_,_,rfl,h,_,_,rfl,hx,hy⟩
 case ss x lo hi=>obtain ⟨s,h,hx⟩:=zH he h; exact PO.oo hr (qNt he hx h)
 case sl sz x lo hi=>obtain ⟨s,h,hx⟩:=zH he h; exact qNs hr he hx h
 case fa off x=>obtain ⟨s,h,hx⟩:=zH he h; exact PO.oo hr (qNk hr hx h)
 case ia sz x i=>
  obtain ⟨s,h,hx⟩:=zH he h;obtain ⟨t,h,hy⟩:=zH he h;exact PO.oo hr (qNl hC hr hx hy h)
 case ix x i=>
  obtain ⟨s,h,hx⟩:=zH he h;obtain ⟨t,h,hy⟩:=zH he h;exact PO.oo hr (qNm hx hy h)
 case ex n x=>obtain ⟨s,h,hx⟩:=zH he h; exact PO.oo hr (qNj hx h)
 case cf f xs=>
  obtain ⟨l,h,hl⟩:=aH he h;rcases h with h | h
  ·exact qEr hC hv hr hl h
  ·exact qNi hv hr hl h
 case cp f xs=>obtain ⟨l,h,hl⟩:=aH he h; exact qNf hv hG hr hl h
 case cv x xs=>
  obtain ⟨s,h,hx⟩:=zH he h;obtain ⟨l,h,hl⟩:=aH he h;exact qNh hC hv hr hx hl h
 case cq f xs=>obtain ⟨l,h,hl⟩:=aH he h; exact qNg hv hr hl h
 case bt x=>obtain ⟨s,h,hx⟩:=zH he h; exact PO.oo hr (qNb hr hx h)
 case be g x y=>
  obtain ⟨s,h,hx⟩:=zH he h;obtain ⟨t,h,hy⟩:=zH he h;exact PO.oo hr (qMz hx hy h)
 case ap e sz by_ s x=>
  obtain ⟨s,h,hx⟩:=zH he h;obtain ⟨t,h,hy⟩:=zH he h;rcases h with h | h | h
  ·exact qEo hC hr hx hy h
  ·exact jRk hC (qEo hC hr hx hy h)
  ·exact qJr hr hx hy h
 case ln x=>obtain ⟨s,h,hx⟩:=zH he h; exact PO.oo hr (qNo hx h)
 case lm x=>obtain ⟨s,h,hx⟩:=zH he h; exact PO.oo hr (qNn hr hx h)
 case mx x y=>
  obtain ⟨s,h,hx⟩:=zH he h;obtain ⟨t,h,hy⟩:=zH he h;exact PO.oo hr (qNq hx hy h)
 case mn x y=>
  obtain ⟨s,h,hx⟩:=zH he h;obtain ⟨t,h,hy⟩:=zH he h;exact PO.oo hr (qNp hx hy h)
 case id1 x=>obtain ⟨s,h,hx⟩:=zH he h; exact PO.oo hr ⟨_,_,rfl,h,hx⟩
end
end
noncomputable section
set_option linter.all false
open Go
theorem qBn (k:IntKind):eqK k k=true:=by cases k<;>rfl
mutual
theorem AV.beq_refl:∀ v:AV,AV.beq v v=true
 | .b x=>by simp [AV.beq]
 | .i k n=>by simp [AV.beq,qBn,tU]
 | .s n v=>by simp [AV.beq]
 | .p0=>rfl
 | .p _ _=>by simp [AV.beq]
 | .sl0=>rfl
 | .sl _ _ _ _=>by simp [AV.beq]
 | .f0=>rfl
 | .f _ a c=>by simp [AV.beq,bR a,bR c]
 | .ni=>rfl
 | .fi _=>by simp [AV.beq]
 | .fq _=>by simp [AV.beq]
 | .agg l=>by simp [AV.beq,bR l]
 | .tup l=>by simp [AV.beq,bR l]
theorem bR:∀ l:List AV,jCg l l=true
 | []=>rfl
 | x::l=>by simp [jCg,AV.beq_refl x,bR l]
end
section
variable {C:Cx} {W W':Wd} {H H':Hp} {σ σ':Mem}
theorem dE {E:Env} {τ:T} (he:zY C W H σ E τ) {t:Nat} {Q:P1} (h:fL E t Q):∃ s,Q s∧sv C W H σ s ((X.t t).ev τ):=zH he (x:=.t t) h
theorem qKm {E:Env} {τ:T} (he:zY C W H σ E τ) {g:Option (Nat×Bool)} {p q:Prop} (h:wG E g p q):(kD g τ=some true∧p)∨(kD g τ=some false∧q):=by
 cases g with
 | none=>exact .inl ⟨rfl,h⟩
 | some g=>
  obtain ⟨t,w⟩:=g;obtain ⟨s,h,hs⟩:=dE he h;simp only [kD];split at h
  ·rename_i x;have e:(X.t t).ev τ = .b x:=hs;rw [e];simp only [qEv];cases x<;>cases w<;>simp only [brn] at h
   ·exact .inl ⟨rfl,h⟩
   ·exact .inr ⟨rfl,h⟩
   ·exact .inr ⟨rfl,h⟩
   ·exact .inl ⟨rfl,h⟩
  ·obtain ⟨l,e,hl⟩:=hs;simp only [svs] at hl;subst hl;rw [e];exact .inr ⟨rfl,h⟩
  ·exact h.elim
theorem jFw:sv C W H σ kS wE:=⟨[],rfl,rfl⟩
def Left (C:Cx) (W:Wd) (H:Hp) (σ:Mem) (E':Env) (H':Hp) (τ':T) (σ':Mem):Prop:=∃ W',Rl C W' H' σ'∧Mv W H σ W' H' σ'∧zY C W' H' σ' E' τ'
theorem qEu (hC:wP C) {call:Nat→List AV→Mem→Option (AV×Mem)} {Γ:qJ} {d:Nat} (hv:Val C call (Γ d)) (hG:GOK C call):∀ (ops:List O) {W:Wd} {H:Hp} {σ:Mem} {E:Env} {τ:T} {Q:QE},Rl C W H σ→zY C W H σ E τ→wR C Γ d ops E H Q →
  ∃ τ' σ' E' H',gL call ops τ σ=some (τ',σ')∧Q E' H'∧Left C W H σ E' H' τ' σ'
 | [],W,H,σ,E,τ,Q,hr,he,h=>⟨τ,σ,E,H,rfl,h,W,hr,Mv.refl,he⟩
 | o::r,W,H,σ,E,τ,Q,hr,he,h=>by
  rcases qKm he h with ⟨hw,h⟩ | ⟨hw,h⟩
  ·obtain ⟨v,σ1,s,W1,H1,t,e1,e2,e3,e4,e5,_⟩:=jCz hC hv hG hr he h;obtain ⟨τ',σ',E',H',f1,f2,W2,f3,f4,f5⟩:=qEu hC hv hG r e3 ((he.on (hr.on e4)).put (d:=o.d) e5) e2;exact ⟨τ',σ',E',H',by simp only [gL,hw,e1,f1],f2,W2,f3,e4.trans f4,f5⟩
  ·obtain ⟨τ',σ',E',H',f1,f2,f3⟩:=qEu hC hv hG r hr (he.put (d:=o.d) jFw) h;exact ⟨τ',σ',E',H',by simp only [gL,hw,f1],f2,f3⟩
theorem jRj {call:Nat→List AV→Mem→Option (AV×Mem)} {c:Ev.C} (h:c.acts=false) {τ:T} {v:AV} (e:yE call c τ σ=some (v,σ')):σ'=σ:=by
 have hp:∀ r:Option AV,eP σ r=some (v,σ')→σ'=σ:=by
  intro r e;cases r with
  | none=>cases e
  | some u=>simp only [eP,Option.some.injEq,Prod.mk.injEq] at e; exact e.2.symm
 cases c<;>simp only [C.acts,Bool.true_eq_false] at h<;>simp only [yE] at e<;>first | exact hp _ e | skip
 ·unfold eCp at e;split at e
  ·split at e
   ·split at e
    ·cases e; rfl
    ·cases e
   ·cases e
  ·cases e
 ·unfold eCq jRg at e;split at e
  ·split at e
   ·split at e
    ·cases e; rfl
    ·cases e
   ·cases e
  ·cases e
inductive jLw:List Mem→List Tch→Nat→Wd→Hp→Prop where
 | one (σ:Mem) (W:Wd) (H:Hp):jLw [σ] [] 0 W H
 | step {σ σ':Mem} {h:List Mem} {ws:List Tch} {k:Nat} {W W':Wd} {H H':Hp} {t:Tch} (p:jLw (σ::h) ws k W H) (c:Tc t W H σ W' H' σ'):jLw (σ'::σ::h) (t::ws) (k+1) W' H'
 | same {σ:Mem} {h:List Mem} {ws:List Tch} {k:Nat} {W W':Wd} {H H':Hp} (p:jLw (σ::h) ws k W H) (c:Tc t0 W H σ W' H' σ):jLw (σ::h) ws k W' H'
def RdP (c:Ev.C) (τ:T) (v:AV) (lo hi:Nat):List Mem→Nat→Prop
 | [],_=>True
 | σ::r,k=>(lo≤k→k≤hi→qL c τ σ=some v)∧(match k with | 0=>True | k+1=>RdP c τ v lo hi r k)
theorem RdP.stable {c:Ev.C} {τ:T} {v:AV} {lo hi:Nat}:∀ {h:List Mem} {k:Nat},RdP c τ v lo hi h k→stable c τ v lo hi h k=true
 | [],k,_=>rfl
 | σ::r,k,p=>by
  obtain ⟨p1,p2⟩:=p;simp only [Ev.stable,Bool.and_eq_true];refine ⟨?_,?_⟩
  ·split
   ·rename_i q;rw [p1 (Nat.le_of_ble_eq_true q.1) (Nat.le_of_ble_eq_true q.2)];exact AV.beq_refl v
   ·rfl
  ·cases k with
   | zero=>rfl
   | succ k=>exact RdP.stable p2
theorem RdP.low {c:Ev.C} {τ:T} {v:AV} {lo hi:Nat}:∀ {h:List Mem} {k:Nat},k<lo→RdP c τ v lo hi h k
 | [],k,_=>trivial
 | σ::r,k,q=>⟨fun q2=>by omega,by
  cases k with
  | zero=>trivial
  | succ k=>exact RdP.low (by omega)⟩
theorem RdP.any {c:Ev.C} {τ:T} {v:AV} {lo hi:Nat} (q:∀ σ1,qL c τ σ1=some v):∀ {h:List Mem} {k:Nat},RdP c τ v lo hi h k
 | [],k=>trivial
 | σ::r,k=>⟨fun _ _=>q _,by
  cases k with
  | zero=>trivial
  | succ k=>exact RdP.any q⟩
theorem jLg (κ:Key):hM t0 κ=false:=by cases κ<;>rfl
theorem qIo {c:Ev.C} {τ:T} {v:AV} {lo hi b:Nat} {κ:Key} {h:List Mem} {ws:List Tch} {k:Nat} (p:jLw h ws k W H):∀ {r:List Mem} {σ:Mem},h=σ::r→vS W H κ b→jEn κ lo ws k=true→(∀ σ1,σ1.t.get b=σ.t.get b→qL c τ σ1=some v)→RdP c τ v lo hi h k:=by
 induction p with
 | one σ W H=>
  intro r σ1 e hk hp hq;cases e;exact ⟨fun _ _=>hq _ rfl,trivial⟩
 | step p cc ih=>
  rename_i σa σb hh ws k Wa Wb Ha Hb t;intro r σ1 e hk hp hq;cases e;refine ⟨fun _ _=>hq _ rfl,?_⟩;show RdP c τ v lo hi (σa::hh) k;simp only [jEn] at hp;cases hb:Nat.ble lo k with
  | false=>exact RdP.low (Nat.lt_of_not_le fun q=>by rw [Nat.ble_eq_true_of_le q] at hb; cases hb)
  | true=>
   rw [hb] at hp;simp only [cond_true,Bool.and_eq_true,Bool.not_eq_true'] at hp;have:=cc κ hp.1 b;have hk':=this.1.2 hk;exact ih rfl hk' hp.2 fun σ2 e2=>hq σ2 (by rw [e2,this.2 hk'])
 | same p cc ih=>
  intro r σ1 e hk hp hq;have:=cc κ (jLg κ) b;exact ih e (this.1.2 hk) hp hq
def qRp (W:Wd) (H:Hp) (h:List Mem) (k:Nat) (rd:Rd) (w:Wr):Prop:=rd.hi=w.hi∧RdP rd.c rd.τ rd.v rd.lo rd.hi h k∧(k<w.hi→(∃ b σ r,h=σ::r∧vS W H w.κ b∧∀ σ1,σ1.t.get b=σ.t.get b→qL rd.c rd.τ σ1=some rd.v)∨∀ σ1,qL rd.c rd.τ σ1=some rd.v)
def nF (W:Wd) (H:Hp) (h:List Mem) (k:Nat):List Rd→List Wr→Prop
 | [],[]=>True
 | rd::rs,w::ws=>qRp W H h k rd w∧nF W H h k rs ws
 | _,_=>False
theorem nF.same {h:List Mem} {k:Nat} (c:Tc t0 W H σ W' H' σ):∀ {rs:List Rd} {ws:List Wr},nF W H h k rs ws→nF W' H' h k rs ws
 | [],[],_=>trivial
 | [],_::_,p=>p.elim
 | _::_,[],p=>p.elim
 | rd::rs,w::ws,p=>by
  refine ⟨⟨p.1.1,p.1.2.1,fun q=>?_⟩,p.2.same c⟩;rcases p.1.2.2 q with ⟨b,σ1,r,e,hk,hq⟩ | hq
  ·exact .inl ⟨b,σ1,r,e,(c w.κ (jLg _) b).1.1 hk,hq⟩
  ·exact .inr hq
theorem nF.step {h:List Mem} {k:Nat} {t:Tch} (c:Tc t W H σ W' H' σ'):∀ {rs:List Rd} {ws:List Wr},nF W H (σ::h) k rs ws→eM t k ws=true→nF W' H' (σ'::σ::h) (k+1) rs ws
 | [],[],_,_=>trivial
 | [],_::_,p,_=>p.elim
 | _::_,[],p,_=>p.elim
 | rd::rs,w::ws,p,f=>by
  simp only [eM,Bool.and_eq_true] at f;obtain ⟨p1,p2⟩:=p;obtain ⟨a1,a2,a3⟩:=p1;refine ⟨⟨a1,⟨fun q1 q2=>?_,a2⟩,fun q=>?_⟩,p2.step c f.2⟩
  ·rcases a3 (by omega) with ⟨b,σ1,r,e,hk,hq⟩ | hq
   case inr=>exact hq _
   cases e;have hb:Nat.blt k w.hi=true:=by simp [Nat.blt_eq]; omega
   have f1:=f.1;rw [hb] at f1;simp only [cond_true,Bool.not_eq_true'] at f1;exact hq _ ((c w.κ f1 b).2 hk)
  ·rcases a3 (by omega) with ⟨b,σ1,r,e,hk,hq⟩ | hq
   case inr=>exact .inr hq
   refine .inl ?_;cases e;have hb:Nat.blt k w.hi=true:=by simp [Nat.blt_eq]; omega
   have f1:=f.1;rw [hb] at f1;simp only [cond_true,Bool.not_eq_true'] at f1;have:=c w.κ f1 b;exact ⟨b,σ',σ::h,rfl,this.1.1 hk,fun σ1 e1=>hq σ1 (by rw [e1,this.2 hk])⟩
theorem nF.stable {h:List Mem} {k:Nat}:∀ {rs:List Rd} {ws:List Wr},nF W H h k rs ws→fS h k rs=true
 | [],[],_=>rfl
 | [],_::_,p=>p.elim
 | _::_,[],p=>p.elim
 | rd::rs,w::ws,p=>by
  simp only [fS,p.1.2.1.stable,p.2.stable,Bool.and_self]
theorem qHz (hr:Rl C W H σ) {s:SV} {v:AV} {Q:Key→Prop} (hx:sv C W H σ s v) (h:jYl H s Q):∃ κ,Q κ∧((∃ b o,v = .p b o∧vS W H κ b)∨∃ z,v = .fq z):=by
 unfold jYl at h;split at h
 ·rename_i i g off;obtain ⟨hb,hi,hg,h⟩:=qU h;have hv:=qS hx.2 hi hg;split at h
  ·rename_i l hc;exact ⟨_,h,.inl ⟨_,_,hv,hb,hi,by rw [hc]; trivial,rfl⟩⟩
  ·exact h.elim
 ·rename_i i g k off;obtain ⟨hb,hi,hg,h⟩:=qU h;have hv:=qS hx.2 hi hg;split at h
  ·rename_i T r m hc;rw [hc] at hv;exact ⟨_,h,.inl ⟨_,_,hv.2,hb,hi,by rw [hc]; show m≠0; have:=hv.1; omega,rfl⟩⟩
  ·exact h.elim
 ·obtain ⟨b,o,blk,e,h1,_⟩:=hx;exact ⟨_,h,.inl ⟨b,_,e,by rcases h1 with h1 | h1; exact .inl h1; exact .inr h1.2⟩⟩
 ·obtain ⟨_,b,o,blk,e,h1,_⟩:=hx;exact ⟨_,h,.inl ⟨b,_,e,by simp only [vS,h1]; rfl⟩⟩
 ·exact ⟨_,h,.inr hx⟩
 ·obtain ⟨b,o,blk,e,h1,_⟩:=hx;exact ⟨_,h,.inl ⟨b,_,e,by simp only [vS,h1]; rfl⟩⟩
 ·exact h.elim
theorem qGi (hr:Rl C W H σ) {E:Env} {τ:T} (he:zY C W H σ E τ) {o:O} {ws:List Tch} {k:Nat} {rks:List Wr} {rs:List Rd} {Q:List Wr→Prop} {call:Nat→List AV→Mem→Option (AV×Mem)} {v:AV} {h:List Mem}
  (hx:yE call o.c τ σ=some (v,σ)) (p:jLw (σ::h) ws k W H) (a:nF W H (σ::h) k rs rks) (hq:jXh E H o ws k rks Q):∃ rks',Q rks'∧nF W H (σ::h) k (jEf o τ v rs) rks':=by
 unfold jXh at hq;unfold jEf;cases hrd:o.rd with
 | none=>rw [hrd] at hq; exact ⟨rks,hq,a⟩
 | some q=>
  obtain ⟨lo,hi⟩:=q;rw [hrd] at hq;simp only at hq ⊢;split at hq
  ·rename_i n x hc;obtain ⟨s,hq,hs⟩:=zH he hq;obtain ⟨κ,hq,hk⟩:=qHz hr hs hq;obtain ⟨hp,hq⟩:=jH hq;rcases hk with ⟨b,off,e,hk⟩ | ⟨z,e⟩
   case inr=>
    have hpure:∀ σ1:Mem,qL o.c τ σ1=some v:=by
     intro σ1;rw [hc] at hx ⊢;simp only [yE,qL,xLd,e] at hx ⊢;cases n with
     | none=>simp only [eP,Option.some.injEq,Prod.mk.injEq] at hx; rw [hx.1]
     | some m=>cases hx
    exact ⟨_,hq,⟨rfl,RdP.any hpure,fun _=>.inr hpure⟩,a⟩
   have hpure:∀ σ1:Mem,σ1.t.get b=σ.t.get b→qL o.c τ σ1=some v:=by
    intro σ1 e1;rw [hc] at hx ⊢;simp only [yE,qL,xLd,e] at hx ⊢;have:ldA σ1 b off n=ldA σ b off n:=by unfold ldA Mem.load; rw [e1]
    rw [this];cases q:ldA σ b off n with
    | none=>rw [q] at hx; cases hx
    | some u=>rw [q] at hx; simp only [eP,Option.some.injEq,Prod.mk.injEq] at hx; rw [hx.1]
   exact ⟨_,hq,⟨rfl,qIo p rfl hk hp hpure,fun _=>.inl ⟨b,σ,h,rfl,hk,hpure⟩⟩,a⟩
  ·exact hq.elim
theorem jNo (k:Nat):∀ ws:List Wr,eM t0 k ws=true
 | []=>rfl
 | w::ws=>by simp only [eM,jNo k ws,jLg,Bool.and_true]; cases Nat.blt k w.hi<;>rfl
theorem qLu {t:Tch} (h:noT t=true):t=t0:=by
 obtain ⟨a,l⟩:=t;cases a<;>cases l<;>first | rfl | simp [noT] at h
theorem jQg (hC:wP C) {call:Nat→List AV→Mem→Option (AV×Mem)} {Γ:qJ} {d:Nat} (hv:Val C call (Γ d)) (hG:GOK C call):∀ (ops:List O) {W:Wd} {H:Hp} {σ:Mem} {E:Env} {τ:T} {Q:QE} {h:List Mem} {ws:List Tch} {k:Nat} {rs:List Rd} {rks:List Wr},
  Rl C W H σ→zY C W H σ E τ→jLw (σ::h) ws k W H→nF W H (σ::h) k rs rks→wD C Γ d ops E H ws k rks Q →
  ∃ τ' σ' E' H',xJ call ops τ (σ::h) k rs=some (τ',σ')∧Q E' H'∧Left C W H σ E' H' τ' σ'
 | [],W,H,σ,E,τ,Q,h,ws,k,rs,rks,hr,he,p,a,hq=>⟨τ,σ,E,H,by simp only [xJ,a.stable,if_true],hq,W,hr,Mv.refl,he⟩
 | o::r,W,H,σ,E,τ,Q,h,ws,k,rs,rks,hr,he,p,a,hq=>by
  rcases qKm he hq with ⟨hw,hq⟩ | ⟨hw,hq⟩
  ·rcases mE hq with ⟨ha,hq⟩ | ⟨ha,hq⟩
   ·obtain ⟨v,σ1,s,W1,H1,t,e1,e2,e3,e4,e5,e6⟩:=jCz hC hv hG hr he hq;obtain ⟨hf,e2⟩:=jH e2;obtain ⟨τ',σ',E',H',f1,f2,W2,f3,f4,f5⟩:=jQg hC hv hG r e3 ((he.on (hr.on e4)).put (d:=o.d) e5) (p.step e6) (a.step e6 hf) e2;exact ⟨τ',σ',E',H',by simp only [xJ,hw,e1,ha,if_true,f1],f2,W2,f3,e4.trans f4,f5⟩
   ·obtain ⟨v,σ1,s,W1,H1,t,e1,e2,e3,e4,e5,e6⟩:=jCz hC hv hG hr he hq;obtain ⟨hn,e2'⟩:=jH e2;have ht:=qLu hn;rw [ht] at e6;have:=jRj ha e1;rw [this] at e1 e3 e4 e5 e6;obtain ⟨rks',g1,g2⟩:=qGi hr he e1 p a e2';obtain ⟨τ',σ',E',H',f1,f2,W2,f3,f4,f5⟩:=jQg hC hv hG r e3 ((he.on (hr.on e4)).put (d:=o.d) e5) (p.same e6) (g2.same e6) g1;exact ⟨τ',σ',E',H',by simp only [xJ,hw,e1,ha,f1]; rfl,f2,W2,f3,e4.trans f4,f5⟩
  ·rcases mE hq with ⟨ha,hq⟩ | ⟨ha,hq⟩
   ·have hf:eM t0 k rks=true:=jNo k rks;obtain ⟨τ',σ',E',H',f1,f2,f3⟩:=jQg hC hv hG r hr (he.put (d:=o.d) jFw) (p.step (Tc.refl t0 W H σ)) (a.step (Tc.refl t0 W H σ) hf) hq;exact ⟨τ',σ',E',H',by simp only [xJ,hw,ha,if_true,f1],f2,f3⟩
   ·obtain ⟨τ',σ',E',H',f1,f2,f3⟩:=jQg hC hv hG r hr (he.put (d:=o.d) jFw) p a hq;exact ⟨τ',σ',E',H',by simp only [xJ,hw,ha,f1]; rfl,f2,f3⟩
end
end
noncomputable section
set_option linter.all false
open Go
section
variable {C:Cx} {W W':Wd} {H H':Hp} {σ σ':Mem}
theorem jAt {α:Type}:∀ {l:List α} {i:Nat} {x y:α},i<l.length→jG l i x++[y]=jG (l++[y]) i x
 | [],i,x,y,h=>by simp at h
 | a::l,0,x,y,h=>rfl
 | a::l,i+1,x,y,h=>by simp only [jG,List.cons_append]; rw [jAt (by simpa using h)]
theorem qBk {sz:Nat} {c:HC} (h:emp C sz c=true):¬ qB c∧∀ a,sX C a 0 sz .sl0 c:=by
 unfold emp at h;split at h
 ·have:=Nat.eq_of_beq_eq_true h;rw [qG] at this;exact ⟨fun q=>q rfl,fun a=>⟨rfl,this,rfl⟩⟩
 ·have:=Nat.eq_of_beq_eq_true h;exact ⟨fun q=>q rfl,fun a=>⟨rfl,this,rfl⟩⟩
 ·cases h
theorem jCr:∀ {cv:List (Cv×Nat)} {W:Wd} {E:Env} {H:Hp} {τ:T} {Q:Env→Hp→Prop},Rl C W H σ→zY C W H σ E τ→cvs C E H cv Q→∃ W' E' H',Q E' H'∧Rl C W' H' σ∧Mv W H σ W' H' σ∧zY C W' H' σ E' τ
 | [],W,E,H,τ,Q,hr,he,h=>⟨W,E,H,h,hr,Mv.refl,he⟩
 | (.lit n,sz)::r,W,E,H,τ,Q,hr,he,h=>by
  obtain ⟨s,h,hs⟩:=dE he h;split at h
  ·rename_i i g m z;obtain ⟨hb,hi,hg,h⟩:=qU h;split at h
   ·rename_i l hc;obtain ⟨ez,h⟩:=jH h;cases Nat.eq_of_beq_eq_true ez;obtain ⟨blk,g1,g2,g3,g4⟩:=hr.blk i hb hi (by rw [hc]; trivial)
    rw [hc] at g4;obtain ⟨l0,h,hcells,hcan,hlen⟩:=dR g4.1 h;have ht:=qS hs.2 hi hg;rw [hc] at ht;obtain ⟨hv,hll,hpos⟩:=ht;have hne:l0≠[]:=by intro q; rw [q] at hlen; simp at hlen; omega
    obtain ⟨k1,k2,_⟩:=jUf hr hi (hb':=⟨hb.e,Nat.succ g,.xs l0⟩) (by show hb.g<g+1; omega) rfl (by rw [hc]; exact ⟨fun _=>trivial,fun _=>hne⟩) (fun b q1 q2=>by rw [g1] at q1; cases q1; exact ⟨hcells,hcan⟩)
    have he':zY C W (jG H i ⟨hb.e,Nat.succ g,.xs l0⟩) σ ((n,.ts i (Nat.succ g) m 1)::E) τ:=by
     intro k s' e';simp only [look] at e';by_cases q:n=k
     ·subst q;simp at e';subst e';refine ⟨hs.1,_,uE hi,Nat.le_refl _,fun _=>?_⟩;refine ⟨by omega,rfl,?_⟩
      rw [if_neg (by omega)]; exact hv
     ·have:Nat.beq n k=false:=by rw [uL]; simpa using q
      rw [this] at e';exact sv.on (hr.on k2) _ _ (he k s' e')
    obtain ⟨W',E',H',f1,f2,f3,f4⟩:=jCr k1 he' h;exact ⟨W',E',H',f1,f2,k2.trans f3,f4⟩
   ·exact h.elim
  ·exact h.elim
 | (.frz n,sz)::r,W,E,H,τ,Q,hr,he,h=>by
  obtain ⟨s,h,hs⟩:=dE he h;split at h
  ·rename_i i g m z;obtain ⟨hb,hi,hg,h⟩:=qU h;split at h
   ·rename_i l hc;have ht:=qS hs.2 hi hg;obtain ⟨Wf,k1,k2,_,f4,_⟩:=eJ hr i;have hX:=jDl hr hi hc ht f4 (rA hr hi hc);have he':zY C Wf (dead H i) σ ((n,.qs l)::E) τ:=by
     intro k s' e';simp only [look] at e';by_cases q:n=k
     ·subst q;simp at e';subst e';exact hX
     ·have:Nat.beq n k=false:=by rw [uL]; simpa using q
      rw [this] at e';exact sv.on (hr.on k2) _ _ (he k s' e')
    obtain ⟨W',E',H',f1,f2,f3,f5⟩:=jCr k1 he' h;exact ⟨W',E',H',f1,f2,k2.trans f3,f5⟩
   ·exact h.elim
  ·exact h.elim
 | (.slot n e c,sz)::r,W,E,H,τ,Q,hr,he,h=>by
  obtain ⟨hc,h⟩:=jH h;obtain ⟨s,h,hs⟩:=dE he h;obtain ⟨hz,h⟩:=jH h;have:s = .sl0:=by cases s<;>simp only [jNy,Bool.false_eq_true] at hz; rfl
  subst this;have hv:(X.t n).ev τ = .sl0:=hs;obtain ⟨q1,q2⟩:=qBk hc;obtain ⟨k1,k2,_⟩:=jBk hr (hb':=⟨e,0,c⟩) q1;rw [qG] at h;have he':zY C W (H++[⟨e,0,c⟩]) σ ((n,.ts H.length 0 0 sz)::E) τ:=by
   intro m s' e';simp only [look] at e';by_cases q:n=m
   ·subst q;simp at e';subst e';exact ⟨by rw [hv]; rfl,_,eO _ _,Nat.le_refl _,fun _=>by rw [hv]; exact q2 _⟩
   ·have:Nat.beq n m=false:=by rw [uL]; simpa using q
    rw [this] at e';exact sv.on (hr.on k2) _ _ (he m s' e')
  obtain ⟨W',E',H',f1,f2,f3,f4⟩:=jCr k1 he' h;exact ⟨W',E',H',f1,f2,k2.trans f3,f4⟩
 | (.cell i off e c,sz)::r,W,E,H,τ,Q,hr,he,h=>by
  obtain ⟨hc,h⟩:=jH h;rw [jZ] at h;split at h
  ·rename_i hb hi;split at h
   ·rename_i l hl;rw [jZ] at h;split at h
    ·rename_i s hs;obtain ⟨hz,h⟩:=jH h;have:s = .sl0:=by cases s<;>simp only [jNy,Bool.false_eq_true] at hz; rfl
     subst this;obtain ⟨q1,q2⟩:=qBk hc;obtain ⟨k1,k2,_⟩:=jBk hr (hb':=⟨e,0,c⟩) q1;rw [qG] at h;have hil:=(List.getElem?_eq_some_iff.1 hi).1;have hi2:(H++[⟨e,0,c⟩])[i]?=some hb:=by rw [List.getElem?_append_left hil]; exact hi
     have hlive:qB hb.c:=by rw [hl]; trivial
     obtain ⟨blk,g1,g2,g3,g4⟩:=k1.blk i hb hi2 hlive;rw [hl] at g4;have hlen:(jG l off (.ts H.length 0 0 sz)).length=l.length:=jFj _ _ _;have hcell:blk.cells[off]?=some .sl0:=by obtain ⟨y,y1,y2⟩:=g4.1.nth _ _ hs; rw [y1]; exact congrArg some y2
     obtain ⟨m1,m2,_⟩:=jLl (σ':=σ) (hb':=⟨hb.e,hb.g,.l (jG l off (.ts H.length 0 0 sz))⟩) k1 hi2 hlive rfl rfl (by rw [hl]; exact hlen.symm) g1 (blk':=blk) rfl rfl (fun b=>by split; rename_i e; rw [e]; exact g1; rfl) rfl (fun on=>by
      have g5:=svs.on on _ _ g4.1;refine ⟨svs.of (by rw [g5.len,hlen]) fun j x ex=>?_,?_⟩
      ·rw [kC] at ex;by_cases q:j=off
       ·subst q;rw [if_pos ⟨rfl,(List.getElem?_eq_some_iff.1 hs).1⟩] at ex;cases ex;refine ⟨.sl0,hcell,rfl,⟨e,0,c⟩,?_,Nat.le_refl _,fun _=>q2 _⟩;rw [uF (by omega)]; exact eO _ _
       ·rw [if_neg (fun z=>q z.1)] at ex;exact g5.nth j x ex
      ·rw [gU];intro j x ex;rw [kC] at ex;split at ex
       ·cases ex; rfl
       ·exact gU.1 g4.2 j x ex)
     rw [←jAt hil] at m1 m2;have m3:=k2.trans m2;obtain ⟨W',E',H',f1,f2,f3,f4⟩:=jCr m1 (he.on (hr.on m3)) h;exact ⟨W',E',H',f1,f2,m3.trans f3,f4⟩
    ·exact h.elim
   ·exact h.elim
  ·exact h.elim
theorem jSz:∀ {F E:Env} {τ:T},zY C W H σ E τ→Sub F E→zY C W H σ F τ
 | [],E,τ,he,_=>fun n s e=>by cases e
 | p::F,E,τ,he,h=>by
  obtain ⟨⟨v,h1,h2⟩,h3⟩:=h;have:=jSz he h3;intro n s e;simp only [look] at e;by_cases q:p.1=n
  ·subst q;simp at e;subst e;exact he _ _ (by rw [h1,h2])
  ·have q':Nat.beq p.1 n=false:=by rw [uL]; simpa using q
   rw [q'] at e;exact this n s e
def qKr (C:Cx) (ev:T→Mem→St) (W:Wd) (H:Hp) (σ:Mem) (τ:T) (Q:QK):Prop:=∃ e τ' σ' E' H',ev τ σ=some (e,τ',σ')∧Q e E' H'∧Left C W H σ E' H' τ' σ'
theorem jUw:∀ {A H:Hp},jYj A H→A.length≤H.length∧H.take A.length=A
 | [],H,_=>by simp
 | a::r,[],h=>h.elim
 | a::r,b::s,h=>by
  obtain ⟨rfl,h⟩:=h;obtain ⟨h1,h2⟩:=jUw h;exact ⟨by simpa using h1,by simp [h2]⟩
theorem jUk {k:Nat}:∀ {E:Env},mJ E≤k→∀ n s,look E n=some s→wJ s≤k
 | [],_,n,s,e=>by cases e
 | p::r,h,n,s,e=>by
  simp only [mJ,jIa] at h;simp only [look] at e;by_cases q:p.1=n
  ·subst q;simp at e;subst e;exact h.1
  ·have q':Nat.beq p.1 n=false:=by rw [uL]; simpa using q
   rw [q'] at e;exact jUk h.2 n s e
theorem Mv.cut {Hs:Hp} {k:Nat} (m:Mv W Hs σ W' H' σ') (h1:Hs.length≤k):Mv W Hs σ W' (H'.take k) σ':=by
 refine ⟨m.go,fun i hb e=>?_,m.nx,m.fr,m.nA,m.nK,fun b hb ⟨i,x,hx,hl,q⟩=>m.own b hb ⟨i,x,?_,hl,q⟩⟩
 ·obtain ⟨y,y1,y2⟩:=m.hp i hb e;have:i<k:=by have:=(List.getElem?_eq_some_iff.1 e).1; omega
  exact ⟨y,by rw [List.getElem?_take,if_pos this]; exact y1,y2⟩
 ·rw [List.getElem?_take] at hx;split at hx
  ·exact hx
  ·cases hx
theorem jVa {body:T→Mem→St} {α:Type} {F:α→Env} {G:α→Hp} {I:α→Prop} {m:α→Nat} {Q:QK}
  (hb:∀ p,I p→∀ {W:Wd} {σ:Mem} {τ:T},Rl C W (G p) σ→zY C W (G p) σ (F p) τ→qKr C body W (G p) σ τ (lpQ F G I m (m p) (jP (G p)) Q)) :
  ∀ (n:Nat) (p:α),I p→m p<n→∀ {W:Wd} {σ:Mem} {τ:T},Rl C W (G p) σ→zY C W (G p) σ (F p) τ→qKr C (iter body n) W (G p) σ τ Q
 | 0,p,_,h,_,_,_,_,_=>by omega
 | n+1,p,hI,hm,W,σ,τ,hr,he=>by
  obtain ⟨e,τ1,σ1,E1,H1,e1,e2,W1,e3,e4,e5⟩:=hb p hI hr he;cases e with
  | nrm=>
   obtain ⟨p',s1,s2,s3⟩:=e2;obtain ⟨hc,s3,s4⟩:=jH s3;simp only [Bool.and_eq_true] at hc;obtain ⟨⟨c1,c2⟩,c3⟩:=hc;have c1:=Nat.le_of_ble_eq_true c1;have c2:=Nat.le_of_ble_eq_true c2;have c3:=Nat.le_of_ble_eq_true c3;rw [qG] at c1 c2 c3;rw [qG] at c1;obtain ⟨_,t2⟩:=jUw s2;have r1:Rl C W1 (G p') σ1:=by have:=e3.take (k:=(G p').length) (by rw [t2]; exact c3); rw [t2] at this; exact this
   have m1:Mv W (G p) σ W1 (G p') σ1:=by have:=e4.cut (k:=(G p').length) c1; rw [t2] at this; exact this
   have ff:jAe (G p').length W1 H1 W1 (G p'):=⟨rfl,rfl,fun _ _=>rfl,fun i hi=>by conv=>lhs; rw [←t2]; ; rw [List.getElem?_take,if_pos hi]⟩
   have v1:zY C W1 (G p') σ1 (F p') τ1:=fun n s e=>sv.first ff _ _ (jUk c2 n s e) (jSz e5 s1 n s e)
   obtain ⟨e',τ2,σ2,E2,H2,f1,f2,W2,f3,f4,f5⟩:=jVa hb n p' s3 (by omega) r1 v1
   exact ⟨e',τ2,σ2,E2,H2,by simp only [iter,e1,f1],f2,W2,f3,m1.trans f4,f5⟩
  | exit i=>exact ⟨.exit i,τ1,σ1,E1,H1,by simp only [iter,e1],e2,W1,e3,e4,e5⟩
  | ret=>exact ⟨.ret,τ1,σ1,E1,H1,by simp only [iter,e1],e2,W1,e3,e4,e5⟩
theorem jFy (hC:wP C) {call:Nat→List AV→Mem→Option (AV×Mem)} {Γ:qJ} {L d:Nat} (hv:Val C call (Γ d)) (hG:GOK C call):∀ (c:K) {W:Wd} {H:Hp} {σ:Mem} {E:Env} {τ:T} {Q:QK},Rl C W H σ→zY C W H σ E τ→wK C Γ L d c E H Q→qKr C (evK call L c) W H σ τ Q
 | .skip,W,H,σ,E,τ,Q,hr,he,h=>⟨.nrm,τ,σ,E,H,rfl,h,W,hr,Mv.refl,he⟩
 | .reg ops,W,H,σ,E,τ,Q,hr,he,h=>by
  obtain ⟨τ',σ',E',H',e1,e2,e3⟩:=qEu hC hv hG ops hr he h;exact ⟨.nrm,τ',σ',E',H',by simp only [evK,e1],e2,e3⟩
 | .dreg ops,W,H,σ,E,τ,Q,hr,he,h=>by
  obtain ⟨τ',σ',E',H',e1,e2,e3⟩:=jQg hC hv hG ops hr he (.one σ W H) (rs:=[]) (rks:=[]) trivial h;exact ⟨.nrm,τ',σ',E',H',by simp only [evK,e1],e2,e3⟩
 | .fr ops fa us,W,H,σ,E,τ,Q,hr,he,h=>h.elim
 | .seq a b,W,H,σ,E,τ,Q,hr,he,h=>by
  obtain ⟨e,τ1,σ1,E1,H1,e1,e2,W1,e3,e4,e5⟩:=jFy hC hv hG a hr he h;cases e with
  | nrm=>
   obtain ⟨e',τ2,σ2,E2,H2,f1,f2,W2,f3,f4,f5⟩:=jFy hC hv hG b e3 e5 e2;exact ⟨e',τ2,σ2,E2,H2,by simp only [evK,e1,f1],f2,W2,f3,e4.trans f4,f5⟩
  | exit i=>exact ⟨.exit i,τ1,σ1,E1,H1,by simp only [evK,e1],e2,W1,e3,e4,e5⟩
  | ret=>exact ⟨.ret,τ1,σ1,E1,H1,by simp only [evK,e1],e2,W1,e3,e4,e5⟩
 | .cond c a b,W,H,σ,E,τ,Q,hr,he,h=>by
  obtain ⟨s,h,hs⟩:=zH he (x:=c) (Q:=fun c=>jWp c (wK C Γ L d a E H Q) (wK C Γ L d b E H Q)) h;unfold jWp at h;split at h
  ·rename_i x;have e:c.ev τ = .b x:=hs;rcases mE h with ⟨rfl,h⟩ | ⟨rfl,h⟩
   ·obtain ⟨e',τ2,σ2,E2,H2,f1,f2⟩:=jFy hC hv hG a hr he h;exact ⟨e',τ2,σ2,E2,H2,by simp only [evK,e,f1],f2⟩
   ·obtain ⟨e',τ2,σ2,E2,H2,f1,f2⟩:=jFy hC hv hG b hr he h;exact ⟨e',τ2,σ2,E2,H2,by simp only [evK,e,f1],f2⟩
  ·exact h.elim
 | .block id c,W,H,σ,E,τ,Q,hr,he,h=>by
  obtain ⟨e,τ1,σ1,E1,H1,e1,e2,e3⟩:=jFy hC hv hG c hr he h;cases e with
  | nrm=>exact ⟨.nrm,τ1,σ1,E1,H1,by simp only [evK,e1],e2,e3⟩
  | ret=>exact ⟨.ret,τ1,σ1,E1,H1,by simp only [evK,e1],e2,e3⟩
  | exit k=>
   rcases mE e2 with ⟨q,e2⟩ | ⟨q,e2⟩
   ·exact ⟨.nrm,τ1,σ1,E1,H1,by simp only [evK,e1,q,if_true],e2,e3⟩
   ·exact ⟨.exit k,τ1,σ1,E1,H1,by simp only [evK,e1,q]; rfl,e2,e3⟩
 | .loop c,W,H,σ,E,τ,Q,hr,he,h=>by
  change jFz C L (fun E H Q=>wK C Γ L d c E H Q) E H Q at h;unfold jFz at h;obtain ⟨ks,cv,h1⟩:=h;obtain ⟨W0,E',H',⟨α,F0,G,I,m,⟨p,s1,rfl,s3,s4⟩,h2⟩,f2,f3,f4⟩:=jCr hr he h1
  let F:α→Env:=fun p=>F0 p++fB E' ks
  obtain ⟨e',τ2,σ2,E2,H2,g1,g2,W2,g3,g4,g5⟩:=jVa (body:=evK call L c) (fun p hp {W} {σ} {τ} hr he=>jFy hC hv hG c hr he (h2 p hp)) L p s3 s4 f2 (jSz f4 s1);exact ⟨e',τ2,σ2,E2,H2,by simp only [evK,g1],g2,W2,g3,f3.trans g4,g5⟩
 | .exit id,W,H,σ,E,τ,Q,hr,he,h=>⟨.exit id,τ,σ,E,H,rfl,h,W,hr,Mv.refl,he⟩
 | .ret,W,H,σ,E,τ,Q,hr,he,h=>⟨.ret,τ,σ,E,H,rfl,h,W,hr,Mv.refl,he⟩
 | .no,W,H,σ,E,τ,Q,hr,he,h=>h.elim
theorem jLn (hC:wP C) (hr:Rl C W H σ) {E:Env} {τ:T} (he:zY C W H σ E τ):∀ {res:List RV0} {Q:List SV→Prop},jGa C E H res Q→∃ l vs,jGs τ σ res=some vs∧Q l∧svs C W H σ l vs
 | [],Q,h=>⟨[],[],rfl,h,rfl⟩
 | .t n::r,Q,h=>by
  obtain ⟨s,h,hs⟩:=dE he (Q:=fun v=>jGa C E H r fun l=>Q (v::l)) h;obtain ⟨l,vs,e1,e2,e3⟩:=jLn hC hr he h;exact ⟨_,_,by simp only [jGs,e1],e2,_,_,rfl,hs,e3⟩
 | .c a n::r,Q,h=>by
  obtain ⟨s,h,hs⟩:=dE he (Q:=fun a=>wLd C H n a fun v=>jGa C E H r fun l=>Q (v::l)) h;obtain ⟨v,u,e0,h,hu⟩:=qEs hC (a:=.t a) (τ:=τ) (n:=n) hr hs h;obtain ⟨l,vs,e1,e2,e3⟩:=jLn hC hr he h;exact ⟨_,_,by simp only [jGs,qL,e0,e1],e2,_,_,rfl,hu,e3⟩
theorem qMq {l:List SV} {vs:List AV} (h:svs C W H σ l vs):sv C W H σ (qEk l) (jZp vs):=by
 cases l with
 | nil=>simp only [svs] at h; subst h; exact ⟨[],rfl,rfl⟩
 | cons a l=>
  obtain ⟨y,t,rfl,h1,h2⟩:=h;cases l with
  | nil=>simp only [svs] at h2; subst h2; exact h1
  | cons b l=>
   obtain ⟨y2,t2,rfl,h3,h4⟩:=h2;exact ⟨_,rfl,_,_,rfl,h1,_,_,rfl,h3,h4⟩
theorem iZ {k:Nat}:∀ {l:List Nat},sY k l=true→∀ i,i∈l→k≤i
 | [],_,i,hi=>by cases hi
 | a::l,h,i,hi=>by
  simp only [sY,Bool.and_eq_true] at h;rcases List.mem_cons.1 hi with rfl | hi
  ·exact Nat.le_of_ble_eq_true h.1
  ·exact iZ h.2 i hi
def jZv (C:Cx) (W:Wd) (H:Hp) (σ:Mem) (k j:Nat) (hb hb':HB):Prop:=hb'.e=hb.e∧hb'.g=hb.g∧((hb'=hb∧∀ l,hb.c ≠ .l l)∨∃ l l' blk,hb.c = .l l∧hb'.c = .l l'∧σ.t.get (W.as j)=some blk∧svs C W H σ l blk.cells∧qF l'=true ∧
 ∀ Wf Hf,On C W H σ Wf Hf σ→(∀ i,k≤i→kX W H σ Wf i)→svs C Wf Hf σ l' blk.cells)
theorem qGw (hC:wP C) (hr:Rl C W H σ) {k j:Nat} {hb:HB} {Q:HB→Prop} (hj:H[j]?=some hb) (h:jXp C k H hb Q):∃ hb',Q hb'∧jZv C W H σ k j hb hb':=by
 unfold jXp at h;split at h
 ·rename_i l ts hc hbt;obtain ⟨blk,g1,g2,g3,g4⟩:=hr.blk j hb hj (by rw [hc]; trivial)
  rw [hc] at g4;obtain ⟨l',fr,h1,h2⟩:=aU hC hr ts g4.1 h;obtain ⟨e,h1⟩:=jH h1;simp only [Bool.and_eq_true] at e;exact ⟨_,h1,rfl,rfl,.inr ⟨l,l',blk,hc,rfl,g1,g4.1,e.2,fun Wf Hf on hf=>h2 Wf Hf on fun i hi=>hf i (iZ e.1 i hi)⟩⟩
 ·rename_i l hc _;obtain ⟨blk,g1,g2,g3,g4⟩:=hr.blk j hb hj (by rw [hc]; trivial)
  rw [hc] at g4;exact ⟨_,h,rfl,rfl,.inr ⟨l,l,blk,hc,rfl,g1,g4.1,g4.2,fun Wf Hf on _=>svs.on on _ _ g4.1⟩⟩
 ·rename_i h1 h2;refine ⟨hb,h,rfl,rfl,.inl ⟨rfl,fun l e=>?_⟩⟩;cases q:C.bt hb.e with
  | none=>exact h2 l e q
  | some ts=>exact h1 l ts e q
theorem jMr (hC:wP C) (hr:Rl C W H σ) {k:Nat}:∀ {n j:Nat} {Hs:Hp} {Q:Hp→Prop},(∀ i,Hs[i]?=H[j+i]?)→nN C k H n Hs Q→∃ H',Q H'∧H'.length=n∧n≤Hs.length∧∀ (i:Nat) (hb:HB),i<n→Hs[i]?=some hb→∃ hb',H'[i]?=some hb'∧jZv C W H σ k (j+i) hb hb'
 | 0,j,Hs,Q,hs,h=>⟨[],by simpa only [nN] using h,rfl,Nat.zero_le _,fun i hb hi=>by omega⟩
 | n+1,j,[],Q,hs,h=>by simp only [nN] at h
 | n+1,j,hb::r,Q,hs,h=>by
  simp only [nN] at h;have hj:H[j]?=some hb:=by have:=hs 0; simpa using this.symm
  obtain ⟨hb',h1,h2⟩:=qGw hC hr hj h;obtain ⟨H',g1,g2,g3,g4⟩:=jMr hC hr (j:=j+1) (fun i=>by have:=hs (i+1); rw [List.getElem?_cons_succ] at this; rw [this]; congr 1; omega) h1
  refine ⟨hb'::H',g1,by simp [g2],by simp; omega,fun i x hi hx=>?_⟩
  cases i with
  | zero=>simp at hx; subst hx; exact ⟨hb',rfl,h2⟩
  | succ i=>
   simp at hx;obtain ⟨y,y1,y2⟩:=g4 i x (by omega) hx
   exact ⟨y,by simpa using y1,by rw [show j+(i+1)=j+1+i by omega]; exact y2⟩
theorem qMd (hC:wP C) {W0:Wd} {H0:Hp} {σ0:Mem} (hr:Rl C W H σ) (m:Mv W0 H0 σ0 W H σ) {E:Env} {τ:T} (he:zY C W H σ E τ) {f:Nat} {res:List RV0} {Q:Q2} {e:Ev.E} (h:qDt C f H0.length res Q e E H) :
  (∀ i,e ≠ .exit i)∧∃ vs s W' H',jGs τ σ res=some vs∧Q s H'∧Rl C W' H' σ∧Mv W0 H0 σ0 W' H' σ∧sv C W' H' σ s (jZp vs)∧H'.length=H0.length∧wJ s≤H0.length∧vJ H'≤H0.length:=by
 have h':(∀ i,e ≠ .exit i)∧jGa C E H res fun l=>can C H (C.sg f).2 (qEk l) fun v fr=>nN C H0.length H H0.length H fun H'=>req (Nat.ble (wJ v) H0.length&&Nat.ble (vJ H') H0.length&&sY H0.length fr) (Q v H'):=by
  unfold qDt at h;split at h
  ·exact h.elim
  ·rename_i hne;exact ⟨fun i q=>hne i q,h⟩
 refine ⟨h'.1,?_⟩;obtain ⟨l,vs,r1,r2,r3⟩:=jLn hC hr he h'.2;obtain ⟨s,fr,c1,c2⟩:=qAo hC hr _ (qMq r3) r2;obtain ⟨H',q1,q2,q3,q4⟩:=jMr hC hr (j:=0) (fun i=>by rw [Nat.zero_add]) c1
 obtain ⟨qe,q1⟩:=jH q1;simp only [Bool.and_eq_true] at qe;obtain ⟨⟨n1,n2⟩,n3⟩:=qe;have n1:=Nat.le_of_ble_eq_true n1;have n2:=Nat.le_of_ble_eq_true n2
 let k:=H0.length
 let rest:=List.range' k (H.length - k)
 have hrest:∀ i,i∈rest↔k≤i∧i<H.length:=fun i=>by
  show i∈List.range' k (H.length - k)↔_;rw [List.mem_range'_1];have:k≤H.length:=q3;omega
 obtain ⟨Wf,a1,a2,a3,a4,a5⟩:=jKf rest hr;have hfrz:∀ i,k≤i→kX W H σ Wf i:=by
  intro i hi;by_cases q:i<H.length
  ·exact a4 i ((hrest i).2 ⟨hi,q⟩)
  ·intro hb e; rw [List.getElem?_eq_none (by omega)] at e; cases e
 have hd:∀ i,i<k→(yI H rest)[i]?=H[i]?:=fun i hi=>lL fun q=>by have:=(hrest i).1 q; omega
 have hlen:(yI H rest).length=H.length:=lM;have onf:=hr.on a2
 -- the first blocks,told anew
 have first:∀ (i:Nat) (hb':HB),H'[i]?=some hb'→∃ hb,i<k∧H[i]?=some hb∧jZv C W H σ k i hb hb':=by
  intro i hb' e;have hi:i<k:=by have:=(List.getElem?_eq_some_iff.1 e).1; omega
  obtain ⟨hb,e2⟩:∃ hb,H[i]?=some hb:=⟨_,List.getElem?_eq_some_iff.2 ⟨by omega,rfl⟩⟩
  obtain ⟨y,y1,y2⟩:=q4 i hb hi e2;rw [e] at y1; cases y1;rw [Nat.zero_add] at y2;exact ⟨hb,hi,e2,y2⟩
 have len2:∀ (l l':List SV) (blk:xY),svs C W H σ l blk.cells→(∀ Wf Hf,On C W H σ Wf Hf σ→(∀ i,k≤i→kX W H σ Wf i)→svs C Wf Hf σ l' blk.cells)→l'.length=l.length:=fun l l' blk h1 h2=>by rw [←(h2 Wf _ onf hfrz).len,h1.len]
 have sameOf:∀ (i:Nat) (hb hb':HB),jZv C W H σ k i hb hb'→zV hb.c hb'.c:=by
  intro i hb hb' o;rcases o.2.2 with ⟨e,_⟩ | ⟨l,l',blk,e1,e2,_,e3,_,e4⟩
  ·rw [e]; exact zV.refl _
  ·rw [e1,e2]; exact (len2 l l' blk e3 e4).symm
 let Hn:=H'++(yI H rest).drop k
 have gn1:∀ i,i<k→Hn[i]?=H'[i]?:=fun i hi=>List.getElem?_append_left (by omega)
 have gn2:∀ i,k≤i→Hn[i]?=(yI H rest)[i]?:=fun i hi=>by
  show (H'++(yI H rest).drop k)[i]?=_;rw [List.getElem?_append_right (by omega),List.getElem?_drop]; congr 1; omega
 have hpn:kY W H Wf Hn:=by
  intro i hb e;by_cases hi:i<k
  ·obtain ⟨y,y1,y2⟩:=q4 i hb hi e;rw [Nat.zero_add] at y2;exact ⟨y,by rw [gn1 i hi]; exact y1,by have:=y2.2.1; omega,fun _=>⟨by rw [a5],sameOf i hb y y2⟩⟩
  ·obtain ⟨y,y1,y2⟩:=a2.hp i hb e;exact ⟨y,by rw [gn2 i (by omega)]; exact y1,y2⟩
 have onn:On C W H σ Wf Hn σ:=⟨a2.go,hpn,hr.kok⟩;have ff:jAe k Wf Hn Wf H':=⟨rfl,rfl,fun _ _=>rfl,fun i hi=>(gn1 i hi).symm⟩;have hp2:kY Wf (yI H rest) Wf Hn:=by
  intro i hb e;by_cases hi:i<k
  ·rw [hd i hi] at e;obtain ⟨y,y1,y2⟩:=q4 i hb hi e;rw [Nat.zero_add] at y2;exact ⟨y,by rw [gn1 i hi]; exact y1,by have:=y2.2.1; omega,fun _=>⟨rfl,sameOf i hb y y2⟩⟩
  ·exact ⟨hb,by rw [gn2 i (by omega)]; exact e,Nat.le_refl _,fun _=>⟨rfl,zV.refl _⟩⟩
 have on2:On C Wf (yI H rest) σ Wf Hn σ:=⟨Go'.refl,hp2,a1.kok⟩;have mm:=m.trans a2;have liveOf:∀ (i:Nat) (hb':HB),H'[i]?=some hb'→qB hb'.c→∃ hb,i<k∧(yI H rest)[i]?=some hb∧qB hb.c∧jZv C W H σ k i hb hb':=by
  intro i hb' e hl;obtain ⟨hb,hi,e2,o⟩:=first i hb' e
  exact ⟨hb,hi,by rw [hd i hi]; exact e2,(sameOf i hb hb' o).live.2 hl,o⟩
 refine ⟨vs,s,Wf,H',r1,q1,⟨?_,?_,?_,?_,a1.A,a1.K⟩,⟨mm.go,?_,mm.nx,mm.fr,mm.nA,mm.nK,?_⟩,sv.first ff _ _ n1 (c2 Wf Hn onn fun i hi=>hfrz i (iZ n3 i hi)),q2,n1,n2⟩
 ·intro i j x y hx hy hlx hly q;obtain ⟨x',_,hx',hlx',_⟩:=liveOf i x hx hlx;obtain ⟨y',_,hy',hly',_⟩:=liveOf j y hy hly;exact a1.inj i j x' y' hx' hy' hlx' hly' q
 ·intro i x hx hlx;obtain ⟨x',hi,hx',hlx',o⟩:=liveOf i x hx hlx;obtain ⟨b0,g1,g2,g3,g4⟩:=a1.blk i x' hx' hlx';refine ⟨b0,g1,by rw [g2,o.1],g3,?_⟩
  rcases o.2.2 with ⟨e,ne⟩ | ⟨l,l',blk,e1,e2,e3,_,e4,e5⟩
  ·have g5:=g4.on on2;rw [e];exact g5.first ff (fun l q=>absurd q (ne l)) (fun T r n l q=>mR n2 i x T r n l hx (by rw [e]; exact q))
  ·rw [e2];rw [a5,e3] at g1; cases g1;exact ⟨svs.first ff _ _ (sD n2 i x l' hx e2) (e5 Wf Hn onn hfrz),e4⟩
 ·intro i x hx hlx;obtain ⟨x',hi,hx',hlx',o⟩:=liveOf i x hx hlx;exact a1.lt i x' hx' hlx'
 ·intro i x hx hlx;obtain ⟨x',hi,hx',hlx',o⟩:=liveOf i x hx hlx;exact a1.nA i x' hx' hlx'
 ·intro i hb e;have hi:i<k:=(List.getElem?_eq_some_iff.1 e).1;obtain ⟨y,y1,y2,y3⟩:=mm.hp i hb e;obtain ⟨z,z1,z2,z3⟩:=hp2 i y y1;exact ⟨z,by rw [←gn1 i hi]; exact z1,by omega,fun q=>by
   obtain ⟨w1,w2⟩:=y3 (by omega)
   obtain ⟨w3,w4⟩:=z3 (by omega)
   exact ⟨w3.trans w1,w2.trans w4⟩⟩
 ·rintro b hb ⟨i,x,hx,hlx,q⟩;obtain ⟨x',hi,hx',hlx',o⟩:=liveOf i x hx hlx;exact mm.own b hb ⟨i,x',hx',hlx',q⟩
theorem jTn:∀ {l:List SV} {vs:List AV} {k:Nat} {τ:T},svs C W H σ l vs→∀ (n:Nat) (s:SV),look (jJl l k) n=some s→k≤n∧sv C W H σ s ((X.t n).ev (nG vs k τ))
 | [],vs,k,τ,h,n,s,e=>by simp [jJl,look] at e
 | x::l,vs,k,τ,h,n,s,e=>by
  obtain ⟨y,t,rfl,h1,h2⟩:=h;simp only [jJl,look] at e;by_cases q:k=n
  ·subst q;simp at e;subst e;refine ⟨Nat.le_refl _,?_⟩;have:∀ (t:List AV) (j:Nat) (τ:T),k<j→(nG t j τ).get k=τ.get k:=by
    intro t
    induction t with
    | nil=>intro j τ hj; rfl
    | cons a t ih=>intro j τ hj; simp only [nG]; rw [ih (j+1) _ (by omega),Tr.get_set30 _ _ _ _ (Nat.zero_le _),if_neg (by omega)]
   simp only [nG,X.ev];rw [this t (k+1) _ (by omega),Tr.get_set30 _ _ _ _ (Nat.zero_le _),if_pos rfl]
   exact h1
  ·have q':Nat.beq k n=false:=by rw [uL]; simpa using q
   rw [q'] at e;obtain ⟨e1,e2⟩:=jTn (τ:=Tr.put τ k (some y)) h2 n s e;exact ⟨by omega,e2⟩
end
mutual
theorem jHo:∀ s:SV,jU s=true→wJ s=0
 | .b _,_=>rfl
 | .i _ _,_=>rfl
 | .s _ _,_=>rfl
 | .tup l,h=>by simp only [wJ]; exact jDh l (by simpa only [jU] using h)
 | .p0,h=>rfl
 | .sl0,h=>rfl
 | .tp _ _ _,h=>by simp [jU] at h
 | .te _ _ _ _,h=>by simp [jU] at h
 | .ts _ _ _ _,h=>by simp [jU] at h
 | .q _ _ _,h=>rfl
 | .qp _ _ _,h=>rfl
 | .qs _,h=>rfl
 | .xs _,h=>rfl
 | .f _ _ _,h=>by simp [jU] at h
 | .agg _,h=>by simp [jU] at h
theorem jDh:∀ l:List SV,vM l=true→gI l=0
 | [],_=>rfl
 | x::l,h=>by
  simp only [vM,Bool.and_eq_true] at h;simp only [gI,jHo x h.1,jDh l h.2];rfl
end
theorem qPe {C:Cx} (hC:wP C) {fs:Nat→Option F} {orc:Nat→List AV→Mem→Option AV} {L:Nat} {Γ:qJ} (hG:∀ d,GOK C (evF fs orc L d))
  (hΓ:∀ d f l H Q,Γ d f l H Q→∃ d',d=d'+1∧(((∀ vs σ,orc f vs σ=none)∧∃ g,fs f=some g∧wF C Γ L d' f g l H Q)∨(H=[]∧∃ s,jU s=true∧(∀ W2 H2 σ2,sv C W2 H2 σ2 s (toA s))∧(∀ W2 σ2 vs,Rl C W2 [] σ2→svs C W2 [] σ2 l vs→orc f vs σ2=some (toA s))∧Q s []))):∀ d,Val C (evF fs orc L d) (Γ d):=by
 intro d
 induction d with
 | zero=>
  intro f l H Q h;obtain ⟨d',e,_⟩:=hΓ 0 f l H Q h;cases e
 | succ d ih=>
  intro f l H Q h W σ vs hr hl;obtain ⟨d',e,h⟩:=hΓ (d+1) f l H Q h;cases e;rcases h with ⟨ho,g,hg,h⟩ | ⟨rfl,s,f2,f3,f4,f5⟩
  ·obtain ⟨hn,h⟩:=jH h;have he:zY C W H σ (jJl l 0) (nG vs 0 .e):=fun n s e=>(jTn hl n s e).2;rw [qG] at h;obtain ⟨e',τ',σ',E',H',k1,k2,W',k3,k4,k5⟩:=jFy hC ih (hG d) g.body hr he h;obtain ⟨x1,vs',s,W2,H2,x2,x3,x4,x5,x6,x7,x8,x9⟩:=qMd hC k3 k4 k5 k2;refine ⟨jZp vs',σ',s,W2,H2,?_,x3,x4,x5,x6,x7,x8,x9⟩;have hn':Nat.ble (jKm vs 0) g.nt=true:=by rw [sA,hl.len]; rw [qG] at hn; exact hn
   cases e' with
   | exit i=>exact absurd rfl (x1 i)
   | nrm=>simp only [evF,ho,hg,hn',if_true,k1,x2]
   | ret=>simp only [evF,ho,hg,hn',if_true,k1,x2]
  ·exact ⟨toA s,σ,s,W,[],by simp only [evF,f4 W σ vs hr hl],f5,hr,Mv.refl,f3 _ _ _,rfl,by rw [jHo s f2]; exact Nat.zero_le _,Nat.zero_le _⟩
end
end Go.Proofs.YtdlhiljbhepliaaGreatDoor.Ev
