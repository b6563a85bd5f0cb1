/-
A run of the small language is a run of the program. No program is named here.
-/
import Derived.Test.YtdlhiljbhepliaaGreatDoorEv
import Derived.Scope
import Derived.Deep.LoopGhost
set_option linter.all false
namespace Go.Proofs.YtdlhiljbhepliaaGreatDoor.Ev
noncomputable section
open Go Go.RowKit
def E.conc:E→Exit
 | .nrm=>.normal
 | .exit id=>.exit id
 | .ret=>.ret
section
variable {P:Program} {μ:Mu} {B:Nat→Prop} {w0:World}
theorem qCk {body:T→Mem→St} {code:Code} {nt:Nat} {x:E} {τ':T} {σ':Mem} {j:J} {a:Act} {w:World} {Q:Exit→Act→World→Prop} {τ:T} {σ:Mem} (n:Nat)
  (hbody:∀ (τ:T) (σ:Mem) (x:E) (τ':T) (σ':Mem) (j:J) (a:Act) (w:World) (Q:Exit→Act→World→Prop),body τ σ=some (x,τ',σ')→RT μ j τ a→Rel μ B w0 j σ w→a.tmps.size=nt→jLv μ B w0 j nt a τ' σ' (Q x.conc)→code.wp P Q a w)
  (hi:iter body n τ σ=some (x,τ',σ')) (ht:RT μ j τ a) (hr:Rel μ B w0 j σ w) (hn:a.tmps.size=nt) (hx:x ≠ .nrm) (hq:jLv μ B w0 j nt a τ' σ' (Q x.conc)):(Code.loop code).wp P Q a w:=by
 refine wp_loop_ghost (fun n a1 w1=>∃ (τ1:T) (σ1:Mem) (j1:J),iter body n τ1 σ1=some (x,τ',σ')∧RT μ j1 τ1 a1∧Rel μ B w0 j1 σ1 w1∧a1.tmps.size=nt∧a1.defers=a.defers∧j.le j1) n ⟨τ,σ,j,hi,ht,hr,hn,rfl,J.le.refl _⟩ ?_;intro n1 a1 w1 ⟨τ1,σ1,j1,hi1,ht1,hr1,hn1,hd1,hj1⟩;cases n1 with
 | zero=>simp [iter] at hi1
 | succ n1=>
  simp only [iter] at hi1;split at hi1
  ·rename_i τ2 σ2 hb;refine hbody τ1 σ1 .nrm τ2 σ2 j1 a1 w1 _ hb ht1 hr1 hn1 ?_;intro j2 a2 w2 hj2 ht2 hr2 hn2 hd2;exact ⟨n1,by omega,τ2,σ2,j2,hi1,ht2,hr2,hn2,by rw [hd2,hd1],hj1.trans hj2⟩
  ·rename_i hne;refine hbody τ1 σ1 x τ' σ' j1 a1 w1 _ hi1 ht1 hr1 hn1 ?_;intro j2 a2 w2 hj2 ht2 hr2 hn2 hd2;have:=hq j2 a2 w2 (hj1.trans hj2) ht2 hr2 hn2 (by rw [hd2,hd1])
   cases x with
   | nrm=>exact absurd rfl hx
   | exit id=>exact this
   | ret=>exact this
theorem jUz {body:T→Mem→St}:∀ (n:Nat) {τ:T} {σ:Mem} {x:E} {τ':T} {σ':Mem},iter body n τ σ=some (x,τ',σ')→x ≠ .nrm
 | 0,_,_,_,_,_,h=>by simp [iter] at h
 | n+1,τ,σ,x,τ',σ',h=>by
  simp only [iter] at h;split at h
  ·exact jUz n h
  ·rename_i hne;rintro rfl;exact hne _ _ h
theorem bI (hμ:uQ μ) {call:yR} (hcall:kU P μ call) (hmix:P.follows .mixedOrders=true) {nt L:Nat}:∀ (code:Code) (c:K) (τ:T) (σ:Mem) (x:E) (τ':T) (σ':Mem) (j:J) (a:Act) (w:World) (Q:Exit→Act→World→Prop),
  wQ P nt code=some c→evK call L c τ σ=some (x,τ',σ')→RT μ j τ a→Rel μ B w0 j σ w→a.tmps.size=nt→jLv μ B w0 j nt a τ' σ' (Q x.conc)→code.wp P Q a w
 | .skip,c,τ,σ,x,τ',σ',j,a,w,Q,hc,he,ht,hr,hn,hq=>by
  cases hc;simp only [evK,Option.some.injEq,Prod.mk.injEq] at he;obtain ⟨rfl,rfl,rfl⟩:=he;exact wp_skip (hq j a w (J.le.refl _) ht hr hn rfl)
 | .region id ops false,c,τ,σ,x,τ',σ',j,a,w,Q,hc,he,ht,hr,hn,hq=>by
  simp only [wQ] at hc;split at hc<;>first | (cases hc; simp only [evK] at he; cases he; done) | cases hc
  rename_i l hl;simp only [evK] at he;split at he<;>cases he;rename_i hrun;refine wp_region ?_;have:=oT hμ hcall (ops:=ops) (Q:=Q) ops.toList 0 l τ τ' σ σ' j a w (fun i=>by simp) hl hrun ht hr hn hq
  rwa [Array.length_toList,←List.range_eq_range'] at this
 | .region id ops true,c,τ,σ,x,τ',σ',j,a,w,Q,hc,he,ht,hr,hn,hq=>by
  simp only [wQ] at hc;split at hc
  ·rename_i l hl;cases hc;simp only [evK] at he;split at he<;>cases he;rename_i hrun;exact qHp hμ hcall hl hrun ht hr hn hmix hq
  ·cases hc;simp only [evK] at he;cases he
 | .seq p q,c,τ,σ,x,τ',σ',j,a,w,Q,hc,he,ht,hr,hn,hq=>by
  simp only [wQ] at hc;split at hc<;>first | (cases hc; simp only [evK] at he; cases he; done) | cases hc
  rename_i p' q' hp hq';simp only [evK] at he;refine wp_seq ?_;split at he
  ·rename_i τ1 σ1 h1;refine bI hμ hcall hmix p p' τ σ .nrm τ1 σ1 j a w _ hp h1 ht hr hn ?_;intro j1 a1 w1 hj1 ht1 hr1 hn1 hd1;refine bI hμ hcall hmix q q' τ1 σ1 x τ' σ' j1 a1 w1 _ hq' he ht1 hr1 hn1 ?_;intro j2 a2 w2 hj2 ht2 hr2 hn2 hd2;exact hq j2 a2 w2 (hj1.trans hj2) ht2 hr2 hn2 (by rw [hd2,hd1])
  ·rename_i hne;refine bI hμ hcall hmix p p' τ σ x τ' σ' j a w _ hp he ht hr hn ?_;intro j1 a1 w1 hj1 ht1 hr1 hn1 hd1;have:=hq j1 a1 w1 hj1 ht1 hr1 hn1 hd1;cases x with
   | nrm=>exact absurd he (hne _ _)
   | exit id=>exact this
   | ret=>exact this
 | .cond v p q,c,τ,σ,x,τ',σ',j,a,w,Q,hc,he,ht,hr,hn,hq=>by
  simp only [wQ] at hc;split at hc<;>first | (cases hc; simp only [evK] at he; cases he; done) | cases hc
  rename_i v' p' q' hv hp hq';have h1:=qM hv ht;simp only [evK] at he;split at he
  ·rename_i hb;rw [hb] at h1;exact wp_cond_true h1 (bI hμ hcall hmix p p' τ σ x τ' σ' j a w Q hp he ht hr hn hq)
  ·rename_i hb;rw [hb] at h1;exact wp_cond_false h1 (bI hμ hcall hmix q q' τ σ x τ' σ' j a w Q hq' he ht hr hn hq)
  ·cases he
 | .block id p,c,τ,σ,x,τ',σ',j,a,w,Q,hc,he,ht,hr,hn,hq=>by
  simp only [wQ] at hc;split at hc<;>first | (cases hc; simp only [evK] at he; cases he; done) | cases hc
  rename_i p' hp;simp only [evK] at he;refine wp_block ?_;split at he
  ·rename_i k τ1 σ1 h1;refine bI hμ hcall hmix p p' τ σ (.exit k) τ1 σ1 j a w _ hp h1 ht hr hn ?_;intro j1 a1 w1 hj1 ht1 hr1 hn1 hd1;show Exit.inBlock id Q (.exit k) a1 w1;simp only [Exit.inBlock];split at he
   ·rename_i hk;have hk':k=id:=by simpa using hk
    cases he;rw [if_pos hk'];exact hq j1 a1 w1 hj1 ht1 hr1 hn1 hd1
   ·rename_i hk;have hk':k≠id:=by simpa using hk
    cases he;rw [if_neg hk'];exact hq j1 a1 w1 hj1 ht1 hr1 hn1 hd1
  ·rename_i hne;refine bI hμ hcall hmix p p' τ σ x τ' σ' j a w _ hp he ht hr hn ?_;intro j1 a1 w1 hj1 ht1 hr1 hn1 hd1;have:=hq j1 a1 w1 hj1 ht1 hr1 hn1 hd1;cases x with
   | nrm=>exact this
   | exit k=>exact absurd he (hne _ _ _)
   | ret=>exact this
 | .loop p,c,τ,σ,x,τ',σ',j,a,w,Q,hc,he,ht,hr,hn,hq=>by
  simp only [wQ] at hc;split at hc<;>first | (cases hc; simp only [evK] at he; cases he; done) | cases hc
  rename_i p' hp;simp only [evK] at he;exact qCk L (fun τ σ x τ' σ' j a w Q h1 h2 h3 h4 h5=>bI hμ hcall hmix p p' τ σ x τ' σ' j a w Q hp h1 h2 h3 h4 h5) he ht hr hn (jUz L he) hq
 | .exit id,c,τ,σ,x,τ',σ',j,a,w,Q,hc,he,ht,hr,hn,hq=>by
  cases hc;simp only [evK,Option.some.injEq,Prod.mk.injEq] at he;obtain ⟨rfl,rfl,rfl⟩:=he;exact wp_exit (hq j a w (J.le.refl _) ht hr hn rfl)
 | .ret,c,τ,σ,x,τ',σ',j,a,w,Q,hc,he,ht,hr,hn,hq=>by
  cases hc;simp only [evK,Option.some.injEq,Prod.mk.injEq] at he;obtain ⟨rfl,rfl,rfl⟩:=he;exact wp_ret (hq j a w (J.le.refl _) ht hr hn rfl)
 | .scope p,c,τ,σ,x,τ',σ',j,a,w,Q,hc,he,ht,hr,hn,hq=>by
  simp only [wQ] at hc;refine wp_scope_straight (bI hμ hcall hmix p c τ σ x τ' σ' j a w _ hc he ht hr hn ?_);intro j1 a1 w1 hj1 ht1 hr1 hn1 hd1;have:=hq j1 a1 w1 hj1 ht1 hr1 hn1 hd1;cases x<;>exact this
 | .label l,c,τ,σ,x,τ',σ',j,a,w,Q,hc,he,ht,hr,hn,hq=>by
  cases hc;simp only [evK,Option.some.injEq,Prod.mk.injEq] at he;obtain ⟨rfl,rfl,rfl⟩:=he;exact wp_label (hq j a w (J.le.refl _) ht hr hn rfl)
 | .rangeFunc _ _ _ _,c,_,_,_,_,_,_,_,_,_,hc,he,_,_,_,_=>by (simp only [wQ,Option.some.injEq] at hc; subst hc; cases he)
 | .goto _,c,_,_,_,_,_,_,_,_,_,hc,he,_,_,_,_=>by (simp only [wQ,Option.some.injEq] at hc; subst hc; cases he)
 | .refuse _,c,_,_,_,_,_,_,_,_,_,hc,he,_,_,_,_=>by (simp only [wQ,Option.some.injEq] at hc; subst hc; cases he)
def qDs (tmps:Array Value):ResultVar→Sem Value
 | .tmp t=>pure (tmps.getD t undef)
 | .cell a t=>do loadVar t (←asAddr (tmps.getD a undef))
theorem jSr (fn:Func) (tmps:Array Value):results fn tmps=(do let vs ←fn.results.mapM (qDs tmps); pure (if h:vs.size=1 then vs[0] else .tuple vs)):=by
 unfold results
 congr 1
theorem jSq {j:J} {τ:T} {σ:Mem} {w:World} {tmps:Array Value} {df:List Deferred} (ht:RT μ j τ ⟨tmps,df⟩) (hr:Rel μ B w0 j σ w):∀ (rs:List ResultVar) (l:List RV0) (xs:List AV),jXo P rs=some l→jGs τ σ l=some xs →
  ∃ vs:List Value,(rs.mapM (qDs tmps)).run P w = .ok vs w∧RL μ j xs vs
 | [],l,xs,hc,hx=>by
  cases hc;cases hx;exact ⟨[],by simp,rfl⟩
 | .tmp t::r,l,xs,hc,hx=>by
  simp only [jXo] at hc;split at hc<;>cases hc;rename_i l' hl;simp only [jGs] at hx;split at hx<;>cases hx;rename_i xs' hxs;obtain ⟨vs,h1,h2⟩:=jSq ht hr r l' xs' hl hxs;exact ⟨tmps.getD t undef::vs,by rw [List.mapM_cons]; simp only [qDs,Sem.run_bind,Sem.run_pure,Result.andThen_ok,h1],_,_,rfl,ht t,h2⟩
 | .cell p t::r,l,xs,hc,hx=>by
  simp only [jXo] at hc;split at hc<;>cases hc;rename_i n l' hn hl;simp only [jGs] at hx;split at hx<;>cases hx;rename_i y xs' hy hxs;obtain ⟨vs,h1,h2⟩:=jSq ht hr r l' xs' hl hxs;simp only [qL,xLd] at hy;split at hy<;>first | (cases hy; done) | skip
  rotate_left
  ·rename_i z hb;have h3:=ht p;rw [hb] at h3;obtain ⟨bk,of,cs,e,fz,he,hh,hc⟩:=h3;split at hy<;>cases hy;have hw:=hr.heldW _ _ hh;have hcell:w.cell? ⟨bk,of,none⟩=some (.int .i64 z):=by simp [World.cell?,hw,hc]
   rcases lF hn with ⟨k,e2,_⟩ | ⟨_,ha⟩
   ·cases e2
   have he':tmps.getD p undef = .pointer (some ⟨bk,of,none⟩):=he;refine ⟨.int .i64 z::vs,?_,_,_,rfl,rfl,h2⟩;rw [List.mapM_cons];simp only [qDs,he',asAddr,Sem.run_bind,Sem.run_pure,Result.andThen_ok,h1,loadVar,sI ha,hcell];simp [hcell,h1]
  rename_i b off hb;have h3:=ht p;rw [hb] at h3;obtain ⟨g,hg,he⟩:=h3;obtain ⟨v,hv,hrv⟩:=jAs (P:=P) hr hn hg hy;have he':tmps.getD p undef = .pointer (some ⟨g.c,off,none⟩):=he;refine ⟨v::vs,?_,_,_,rfl,hrv,h2⟩;rw [List.mapM_cons];simp only [qDs,he',asAddr,Sem.run_bind,Sem.run_pure,Result.andThen_ok,hv,h1]
theorem jGy:∀ (l:List AV) (k:Nat) (τ:T),k+l.length≤1000000000→∀ t,(nG l k τ).get t=if k≤t∧t<k+l.length then l[t - k]? else τ.get t
 | [],k,τ,_,t=>by rw [nG,if_neg (by simp only [List.length_nil]; omega)]
 | v::r,k,τ,h,t=>by
  simp only [List.length_cons] at h;rw [nG,jGy r (k+1) _ (by omega),Tr.get_set30 _ _ _ _ (by omega)]
  simp only [List.length_cons];by_cases e:t=k
  ·subst e;rw [if_neg (by omega),if_pos rfl,if_pos (by omega),Nat.sub_self]
   rfl
  ·rw [if_neg e];by_cases e2:k+1≤t∧t<k+1+r.length
   ·rw [if_pos e2,if_pos (by omega),show t - k=(t - (k+1))+1 from by omega]
    rfl
   ·rw [if_neg e2,if_neg (by omega)]
def jLx (P:Program) (μ:Mu) (orc:Nat→List AV→Mem→Option AV):Prop:=
 ∀ (f:Nat) (args:List AV) (σ:Mem) (x:AV),orc f args σ=some x→∀ (B:Nat→Prop) (w0:World) (j:J) (w:World) (vs:List Value),Rel μ B w0 j σ w→RL μ j args vs →
  (∃ fn, P.funcs[f]? = some fn ∧ fn.body.isNone = false ∧ (fn.name == "runtime.NumGoroutine") = false) ∧
  Calls P f vs.toArray w fun e w'=>∃ v,e = .returned v∧RV μ j x v∧Below w.heap.size w w'
theorem qBp (hμ:uQ μ) {fs:Nat→Option F} (hfs:∀ f g,fs f=some g→jDm P f=some g) {orc:Nat→List AV→Mem→Option AV} (horc:jLx P μ orc) (hmix:P.follows .mixedOrders=true) (L:Nat):∀ n,kU P μ (evF fs orc L n)
 | 0=>fun f args σ x σ' h=>by simp [evF] at h
 | n+1=>by
  intro f args σ x σ' h B w0 j w vs hr hl;simp only [evF] at h;split at h
  ·rename_i v hv;cases h;obtain ⟨h1,h2⟩:=horc f args _ x hv B w0 j w vs hr hl;exact ⟨h1,h2.mono fun e w' ⟨v,he,hrv,hb⟩=>⟨j,v,he,J.le.refl _,hrv,hr.later hb⟩⟩
  ·split at h
   ·cases h
   ·rename_i g hg0;have hg:=hfs f g hg0;unfold jDm at hg;split at hg
    ·rename_i fn hfn;unfold qKa at hg;split at hg
     ·cases hg
     ·rename_i hname;split at hg
      ·cases hg
      ·rename_i hnt;have hnt':fn.ntmps≤1000000000:=by
        simp only [Nat.blt_eq] at hnt; omega
       split at hg
       ·rename_i b rs hb hrs;split at hg<;>cases hg;rename_i k hk;simp only at h;split at h
        ·rename_i hble;have hlen:args.length≤fn.ntmps:=by
          rw [sA,Nat.add_zero] at hble;simpa using hble
         have hvl:=RL.len _ _ hl;refine ⟨⟨fn,hfn,by rw [hb]; rfl,by simpa using hname⟩,?_⟩
         have hrt:RT μ j (nG args 0 .e) ⟨vs.toArray++Array.replicate (fn.ntmps - vs.toArray.size) undef,[]⟩:=by
          intro t;simp only [X.ev,jGy args 0 .e (by omega),Tr.get_e]
          by_cases e:t<args.length
          ·rw [if_pos ⟨by omega,by omega⟩,Nat.sub_zero,List.getElem?_eq_getElem e]
           obtain ⟨v,hv,hrv⟩:=RL.nth _ _ hl t _ (List.getElem?_eq_getElem e);simp only [Array.getD_eq_getD_getElem?];rw [Array.getElem?_append_left (by simp; omega)]
           have:vs.toArray[t]?=some v:=by simpa using hv
           rw [this];exact hrv
          ·rw [if_neg (by omega)]
           simp only [Array.getD_eq_getD_getElem?];rw [Array.getElem?_append_right (by simp; omega),Array.getElem?_replicate]
           split<;>exact ⟨#[],rfl,rfl⟩
         have hsz:(vs.toArray++Array.replicate (fn.ntmps - vs.toArray.size) undef).size=fn.ntmps:=by
          simp; omega
         split at h
         ·cases h
         ·rename_i ex τ1 σ1 hne hev;split at h<;>cases h;rename_i xs hxs;refine calls_of_wp hfn hb ?_;refine bI hμ (qBp hμ hfs horc hmix L n) hmix b k _ σ ex τ1 σ' j _ w _ hk hev hrt hr hsz ?_;intro j1 a1 w1 hj1 ht1 hr1 hn1 hd1;obtain ⟨vs1,hrun,hrl⟩:=jSq (P:=P) (tmps:=a1.tmps) (df:=a1.defers) ht1 hr1 fn.results.toList rs xs hrs hxs;have hres:∃ v,(results fn a1.tmps).run P w1 = .ok v w1∧RV μ j1 (jZp xs) v:=by
           rw [jSr,Array.mapM_eq_mapM_toList];simp only [Sem.run_bind,Sem.run_map,hrun,Result.andThen_ok,Sem.run_pure];refine ⟨if h:vs1.toArray.size=1 then vs1.toArray[0] else .tuple vs1.toArray,?_,?_⟩
           ·rfl
           ·cases xs with
            | nil=>cases hrl; exact ⟨#[],rfl,rfl⟩
            | cons y r=>
             obtain ⟨u,t,rfl,h1,h2⟩:=hrl;cases r with
             | nil=>cases h2; exact h1
             | cons z r=>
              obtain ⟨u2,t2,rfl,h3,h4⟩:=h2;rw [dif_neg (by simp)]
              exact ⟨_,rfl,u,_,rfl,h1,u2,t2,rfl,h3,h4⟩
          obtain ⟨v,hv1,hv2⟩:=hres;have:a1.defers=[]∧∃ v,(results fn a1.tmps).run P w1 = .ok v w1∧∃ (j':J) (v_1:Value),Ending.returned v = .returned v_1∧j.le j'∧RV μ j' (jZp xs) v_1∧Rel μ B w0 j' σ' w1:=
           ⟨hd1,v,hv1,j1,v,rfl,hj1,hv2,hr1⟩
          cases ex with
          | nrm=>exact this
          | exit id=>exact (hne id rfl).elim
          | ret=>exact this
         ·cases h
        ·cases h
       ·cases hg
    ·cases hg
theorem qIz (hμ:uQ μ) {fs:Nat→Option F} (hfs:∀ f g,fs f=some g→jDm P f=some g) {orc:Nat→List AV→Mem→Option AV} (horc:jLx P μ orc) (hmix:P.follows .mixedOrders=true) {L n f:Nat} {args:List AV} {x:AV} {σ':Mem} (h:evF fs orc L n f args mP=some (x,σ')) (w:World) (hw:jQp μ w) (vs:List Value) (hl:RL μ j0 args vs) :
  Calls P f vs.toArray w fun e w'=>∃ (j':J) (v:Value),e = .returned v∧RV μ j' x v∧Rel μ (· < w.heap.size) w j' σ' w':=
 ((qBp hμ hfs horc hmix L n f args mP x σ' h (· < w.heap.size) w j0 w vs (qQe w hw) hl).2).mono fun e w' ⟨j',v,he,_,hv,hr⟩=>⟨j',v,he,hv,hr⟩
theorem qDx (hμ:uQ μ) {orc:Nat→List AV→Mem→Option AV} (horc:jLx P μ orc) (hmix:P.follows .mixedOrders=true) {L n f:Nat} {args:List AV} {x:AV} {σ':Mem} (h:evF (jDm P) orc L n f args mP=some (x,σ')) (w:World) (hw:jQp μ w) (vs:List Value) (hl:RL μ j0 args vs) :
  Calls P f vs.toArray w fun e w'=>∃ (j':J) (v:Value),e = .returned v∧RV μ j' x v∧Rel μ (· < w.heap.size) w j' σ' w':=
 qIz hμ (fun _ _ h=>h) horc hmix h w hw vs hl
end
end
end Go.Proofs.YtdlhiljbhepliaaGreatDoor.Ev
