/-
Every operation of the small language is the model's; regions in the text's order. No program is named here.
-/
import Derived.Test.YtdlhiljbhepliaaGreatDoorEvF
import Derived.Orders
namespace Go.Proofs.YtdlhiljbhepliaaGreatDoor.Ev
noncomputable section
set_option linter.all false
open Go Go.RowKit
section
variable {P:Program} {μ:Mu} {B:Nat→Prop} {w0 w:World} {j:J} {σ σ':Mem} {τ:T} {a:Act}
theorem qBs (hμ:uQ μ) (hr:Rel μ B w0 j σ w) (ht:RT μ j τ a) {call:yR} (hcall:kU P μ call) {o:Oper} {c:C} {x:AV} (hc:yH P o=some c) (hx:yE call c τ σ=some (x,σ')):tJ P μ B w0 j o a w x σ':=by
 have hc0:=hc;cases ho:o.op
 case alloc e=>
  simp only [yH,ho] at hc;split at hc<;>cases hc;exact jQq hr ho (by assumption) hx
 case box e y=>
  simp only [yH,ho] at hc;split at hc<;>cases hc;exact jZy hμ hr ht ho (by assumption) hx
 case buildSlice t len ps=>
  simp only [yH,ho] at hc;split at hc
  ·rename_i e hu;split at hc
   ·rename_i n z hn hz;split at hc
    ·rename_i hl;simp only [Bool.and_eq_true,Nat.ble_eq,Nat.blt_eq] at hl;split at hc<;>cases hc;rename_i ps' hps;exact qGe hμ hr ht ho hu hn hz hl.1.2 hl.2 hl.1.1 hps (by
      have:len*1≤len*n:=Nat.mul_le_mul_left _ hl.2;unfold maxLen; omega) hx
    ·cases hc
   ·cases hc
  ·cases hc
 case store t p y=>
  simp only [yH,ho] at hc;split at hc<;>cases hc;exact jQr hμ hr ht ho (by assumption) (by assumption) (by assumption) hx
 case convert src dst y=>
  simp only [yH,ho] at hc;split at hc
  ·cases hc; exact wH hμ hr ht hc0 hx
  ·split at hc<;>cases hc;exact wH hμ hr ht hc0 hx
  ·cases hc
 case call cl=>
  obtain ⟨callee,args,argTypes⟩:=cl;cases callee with
  | invoke r m=>
   simp only [yH,ho] at hc;cases hc
  | value f=>
   cases f with
   | func f=>
    simp only [yH,ho] at hc;split at hc
    ·rename_i xs hxs;unfold jQz at hc;split at hc
     ·cases hc;exact qGf hr ht hcall ho hxs hx
     ·split at hc<;>cases hc
      ·exact qGg hr ht hcall ho hxs hx
      ·exact jXg hr ht hcall ho hxs hx
    ·cases hc
   | tmp t=>
    simp only [yH,ho] at hc;split at hc<;>cases hc;exact jJj hr ht hcall ho (by assumption) (by assumption) hx
   | const v=>
    simp only [yH,ho] at hc;split at hc<;>cases hc;exact jJj hr ht hcall ho (by assumption) (by assumption) hx
   | global g=>
    simp only [yH,ho] at hc;split at hc<;>cases hc;exact jJj hr ht hcall ho (by assumption) (by assumption) hx
  | builtin bi=>
   cases bi<;>simp only [yH,ho] at hc<;>first | (cases hc; done) | skip
   case append=>
    split at hc
    ·rename_i t t' p y hat har;have hat':argTypes = #[t,t']:=by rw [←Array.toList_inj]; exact hat
     have har':args = #[p,y]:=by rw [←Array.toList_inj]; exact har
     subst hat'; subst har';split at hc
     ·rename_i htt;obtain rfl:t=t':=by simpa using htt
      split at hc
      ·rename_i e hu;split at hc
       ·rename_i i z p' y' hi hz hp hy;split at hc<;>cases hc;rename_i hs;simp only [Bool.and_eq_true,Nat.blt_eq] at hs;exact qGd hμ hr ht ho hu hi hz hs.1 hs.2 hp hy hx
       ·cases hc
      ·cases hc
     ·cases hc
    ·cases hc
   all_goals
    (repeat' split at hc)<;>first | (cases hc; done) | (cases hc; exact wH hμ hr ht hc0 hx)
 case makeFunc fn f1 f2=>
  cases fn<;>simp only [yH,ho] at hc<;>(repeat' split at hc)<;>first | (cases hc; done) | (cases hc; exact wH hμ hr ht hc0 hx)
 case slice t y lo hi mx=>
  cases mx<;>simp only [yH,ho] at hc<;>(repeat' split at hc)<;>first | (cases hc; done) | (cases hc; exact wH hμ hr ht hc0 hx)
 case binOp op t y z yt=>
  simp only [yH,ho] at hc;split at hc
  ·rename_i y' z' hy hz;have:∀ g,jXx P g op t y' z'=some c→tJ P μ B w0 j o a w x σ':=by
    intro g hc;unfold jXx at hc
    (repeat' split at hc)<;>first | (cases hc; done) | (cases hc; exact wH hμ hr ht hc0 hx)
   split at hc
   ·exact this false hc
   ·exact this true hc
   ·cases hc; exact wH hμ hr ht hc0 hx
  ·cases hc
 all_goals
  simp only [yH,ho] at hc<;>(repeat' split at hc)<;>first | (cases hc; done) | (cases hc; exact wH hμ hr ht hc0 hx)
theorem jKa (hμ:uQ μ) (hr:Rel μ B w0 j σ w) (ht:RT μ j τ a) {call:yR} (hcall:kU P μ call) {o:Oper} {c:C} {x:AV} (hc:cOp P o=c) (hx:yE call c τ σ=some (x,σ')):tJ P μ B w0 j o a w x σ':=by
 unfold cOp at hc;cases h:yH P o with
 | none=>rw [h] at hc; subst hc; cases hx
 | some c'=>rw [h] at hc; subst hc; exact qBs hμ hr ht hcall h hx
theorem eQ {ops:Array Oper} {g:Option (Nat×Bool)} {g':Option (Nat×Bool)} (h:jKg ops g=some g') {o:Oper} (ho:o.guard=g) (ht:RT μ j τ a) {b:Bool} (hw:kD g' τ=some b) :
  Region.wanted o (yielded ops a.tmps)=b:=by
 subst ho;unfold Region.wanted;unfold jKg at h;split at h
 ·rename_i hg;cases h;rw [hg];simpa [kD] using hw
 ·rename_i jj want hg;rw [hg];split at h
  ·rename_i o' ho';split at h<;>cases h;rename_i d hd;have h1:=ht d;simp only [kD] at hw;simp only [yielded,ho',hd,Option.bind_some];unfold qEv at hw;split at hw
   ·rename_i b' hb';cases hw;rw [hb'] at h1;have h1':a.tmps.getD d undef = .bool b':=h1;have h2:a.tmps[d]?=some (.bool b'):=by
     rcases Nat.lt_or_ge d a.tmps.size with hlt | hge
     ·rw [Array.getElem?_eq_getElem hlt];simp only [Array.getD_eq_getD_getElem?,Array.getElem?_eq_getElem hlt,Option.getD_some] at h1';rw [h1']
     ·simp only [Array.getD_eq_getD_getElem?,Array.getElem?_eq_none hge,Option.getD_none,undef] at h1';cases h1'
    rw [h2];rw [Bool.eq_iff_iff];simp
   ·rename_i hb';cases hw;rw [hb'] at h1;obtain ⟨vs,e1,e2⟩:=h1;have e3:vs = #[]:=by rw [←Array.toList_inj]; exact e2
    subst e3;have h2:a.tmps[d]?=some (.tuple #[])∨a.tmps[d]?=none:=by
     rcases Nat.lt_or_ge d a.tmps.size with hlt | hge
     ·left;rw [Array.getElem?_eq_getElem hlt];simp only [Array.getD_eq_getD_getElem?,Array.getElem?_eq_getElem hlt,Option.getD_some] at e1;rw [e1]
     ·exact .inr (Array.getElem?_eq_none hge)
    rcases h2 with h2 | h2<;>rw [h2]<;>rfl
   ·cases hw
  ·cases h
theorem jCj {nt:Nat} {ops:Array Oper} {o:Oper} {x:O} (h:jMp P nt ops o=some x):cOp P o=x.c∧jKg ops o.guard=some x.g∧x.d=o.dst∧aY nt o.dst=true∧x.rd=none:=by
 unfold jMp at h;split at h
 ·split at h<;>cases h;exact ⟨rfl,by assumption,rfl,by assumption,rfl⟩
 ·cases h
theorem jCk {nt:Nat} {ops:Array Oper}:∀ {l:List Oper} {ol:List O},tQ P nt ops l=some ol→ol.length=l.length∧∀ (i:Nat) (o:Oper),l[i]?=some o→∃ x:O,ol[i]?=some x∧jMp P nt ops o=some x
 | [],ol,h=>by cases h; exact ⟨rfl,fun i o h=>by simp at h⟩
 | o::r,ol,h=>by
  simp only [tQ] at h;split at h
  ·rename_i x l hx hl;cases h;obtain ⟨h1,h2⟩:=jCk hl;refine ⟨by simp [h1],fun i o' ho'=>?_⟩
   cases i with
   | zero=>simp at ho'; subst ho'; exact ⟨x,rfl,hx⟩
   | succ i=>simpa using h2 i o' (by simpa using ho')
  ·cases h
def jLv (μ:Mu) (B:Nat→Prop) (w0:World) (j:J) (nt:Nat) (a:Act) (τ':T) (σ':Mem) (R:Act→World→Prop):Prop:=
 ∀ (j':J) (a':Act) (w':World),j.le j'→RT μ j' τ' a'→Rel μ B w0 j' σ' w'→a'.tmps.size=nt→a'.defers=a.defers→R a' w'
theorem oT (hμ:uQ μ) {call:yR} (hcall:kU P μ call) {nt:Nat} {ops:Array Oper} {Q:Exit→Act→World→Prop} :
  ∀ (l:List Oper) (k:Nat) (ol:List O) (τ τ':T) (σ σ':Mem) (j:J) (a:Act) (w:World),(∀ i:Nat,l[i]?=ops[k+i]?)→tQ P nt ops l=some ol→gL call ol τ σ=some (τ',σ') →
   RT μ j τ a→Rel μ B w0 j σ w→a.tmps.size=nt→jLv μ B w0 j nt a τ' σ' (Q .normal)→wpOps P ops Q (List.range' k l.length) a w
 | [],k,ol,τ,τ',σ,σ',j,a,w,_,hc,hx,ht,hr,hn,hq=>by
  cases hc;cases hx;exact hq j a w (J.le.refl _) ht hr hn rfl
 | o::r,k,ol,τ,τ',σ,σ',j,a,w,hl,hc,hx,ht,hr,hn,hq=>by
  simp only [tQ] at hc;split at hc
  ·rename_i x ol' hx' hol';cases hc;obtain ⟨h1,h2,h3,h4,_⟩:=jCj hx';have ho:ops[k]?=some o:=by have:=hl 0; simpa using this.symm
   have hl':∀ i:Nat,r[i]?=ops[k+1+i]?:=fun i=>by
    have:=hl (i+1);simpa [Nat.add_assoc,Nat.add_comm 1 i] using this
   simp only [List.length_cons,List.range'_succ,wpOps,ho];simp only [gL] at hx;split at hx
   ·rename_i hw;rw [if_pos (eQ h2 rfl ht hw)];split at hx
    ·rename_i v s hv;refine .inl (jKa hμ hr ht hcall h1 hv _ _ fun j' u w' hj hu hr'=>?_);refine oT hμ hcall r (k+1) ol' _ τ' s σ' j' (a.put o.dst u) w' hl' hol' hx (by rw [h3]; exact (ht.mono hj).put h4 hn hu) hr' (by rw [jEx]; exact hn) ?_
     intro j2 a2 w2 hj2 ht2 hr2 hn2 hd2;exact hq j2 a2 w2 (hj.trans hj2) ht2 hr2 hn2 (by rw [hd2,aA])
    ·cases hx
   ·rename_i hw;rw [if_neg (by rw [eQ h2 rfl ht hw]; simp)]
    refine oT hμ hcall r (k+1) ol' _ τ' σ σ' j (a.put o.dst undef) w hl' hol' hx (by rw [h3]; exact ht.put h4 hn ⟨#[],rfl,rfl⟩) hr (by rw [jEx]; exact hn) ?_
    intro j2 a2 w2 hj2 ht2 hr2 hn2 hd2;exact hq j2 a2 w2 hj2 ht2 hr2 hn2 (by rw [hd2,aA])
   ·cases hx
  ·cases hc
end
end
noncomputable section
set_option linter.all false
open Go Go.RowKit
theorem kL {τ τ':T}:∀ {l:List X},(∀ t∈tms l,(X.t t).ev τ=(X.t t).ev τ')→evs τ l=evs τ' l
 | [],_=>rfl
 | x::r,h=>by
  have h1:x.ev τ=x.ev τ':=by
   cases x with
   | t n=>exact h n (by simp [tms,X.tm])
   | k v=>rfl
  simp only [evs,h1];rw [kL (l:=r) fun t ht=>h t (by simp only [tms,List.mem_append]; exact .inr ht)]
theorem jCx {τ τ':T} {x:X} (h:∀ t∈x.tm,(X.t t).ev τ=(X.t t).ev τ'):x.ev τ=x.ev τ':=by
 cases x with
 | t n=>exact h n (by simp [X.tm])
 | k v=>rfl
theorem qIe {x:X} {l:List X} (h:x∈l) {t:Nat} (ht:t∈x.tm):t∈tms l:=by
 induction l with
 | nil=>simp at h
 | cons y r ih=>
  simp only [tms,List.mem_append];rcases List.mem_cons.1 h with rfl | h
  ·exact .inl ht
  ·exact .inr (ih h)
theorem tV {τ τ':T}:∀ {ps:List (Nat×Nat×X)} {z:List AV},(∀ t∈tms (ps.map (·.2.2)),(X.t t).ev τ=(X.t t).ev τ')→kZ τ ps z=kZ τ' ps z
 | [],z,_=>rfl
 | (off,n,x)::r,z,h=>by
  have h1:x.ev τ=x.ev τ':=jCx fun t ht=>h t (by simp [tms,ht])
  simp only [kZ,h1];split
  ·split
   ·exact tV fun t ht=>h t (by simp only [List.map_cons,tms,List.mem_append]; exact .inr ht)
   ·rfl
  ·rfl
theorem rU {τ τ':T} {x:Option X} (h:∀ t∈tms (xo x),(X.t t).ev τ=(X.t t).ev τ'):X.evO τ x=X.evO τ' x:=by
 cases x with
 | none=>rfl
 | some x=>simp only [X.evO]; rw [jCx fun t ht=>h t (by simp [xo,tms,ht])]
theorem jRh {call:yR} {c:C} {τ τ':T} {σ:Mem} (h:∀ t∈tms c.xs,(X.t t).ev τ=(X.t t).ev τ'):yE call c τ σ=yE call c τ' σ:=by
 have m:∀ x∈c.xs,x.ev τ=x.ev τ':=fun x hx=>jCx fun t ht=>h t (qIe hx ht);cases c<;>simp only [C.xs] at h m<;>simp only [yE,qL,vC,xBd,xLd,xNc,xBe,xCi,xBt,xSs,xSl,xFa,xIa,xIx,xEx,xLn,xLm,xMx,xMn,eSt]
 case bd=>rw [tV h]
 case bs=>rw [tV h]
 case mf f a b=>
  rw [kL (l:=a) fun t ht=>h t (by
   have:tms (a++b)=tms a++tms b:=by
    clear h m ht
    induction a with
    | nil=>rfl
    | cons x r ih=>simp [tms,ih]
   rw [this]; simp [ht]),kL (l:=b) fun t ht=>h t (by
   have:tms (a++b)=tms a++tms b:=by
    clear h m ht
    induction a with
    | nil=>rfl
    | cons x r ih=>simp [tms,ih]
   rw [this]; simp [ht])]
 case cf=>rw [kL h]
 case cp=>rw [kL h]
 case cq=>rw [kL h]
 case cv x xs=>rw [m x (by simp),kL fun t ht=>h t (by simp [tms,ht])]
 case ss x lo hi=>
  rw [m x (by simp)]
  have e1:X.evO τ lo=X.evO τ' lo:=rU fun t ht=>h t (by cases lo<;>cases hi<;>simp_all [xo,tms])
  have e2:X.evO τ hi=X.evO τ' hi:=rU fun t ht=>h t (by cases lo<;>cases hi<;>simp_all [xo,tms])
  rw [e1,e2]
 case sl sz x lo hi=>
  rw [m x (by simp)]
  have e1:X.evO τ lo=X.evO τ' lo:=rU fun t ht=>h t (by cases lo<;>cases hi<;>simp_all [xo,tms])
  have e2:X.evO τ hi=X.evO τ' hi:=rU fun t ht=>h t (by cases lo<;>cases hi<;>simp_all [xo,tms])
  rw [e1,e2]
 all_goals (try simp only [List.mem_cons,List.not_mem_nil,or_false,forall_eq_or_imp,forall_eq] at m)
 all_goals (first | (simp only [m]; done) | (rw [m]; done) | (simp only [m.1,m.2]; done) | (simp only [m.1,m.2.1,m.2.2]; done) | rfl)
theorem jTe {g:Option (Nat×Bool)} {τ τ':T} (h:∀ t∈gtm g,(X.t t).ev τ=(X.t t).ev τ'):kD g τ=kD g τ':=by
 cases g with
 | none=>rfl
 | some p=>
  obtain ⟨t,w⟩:=p;simp only [kD,h t (by simp [gtm])]
theorem qBr {call:yR} {c:C} {τ:T} {σ:Mem} {x:AV} {σ':Mem} (h:yE call c τ σ=some (x,σ')) (h1:c.acts=false) (h2:c.reads=false):σ'=σ∧∀ σ2,yE call c τ σ2=some (x,σ2):=by
 have pure_:∀ {v:Option AV},eP σ v=some (x,σ')→σ'=σ∧v=some x:=by
  intro v hv;unfold eP at hv;split at hv<;>cases hv;exact ⟨rfl,rfl⟩
 cases c<;>simp only [C.acts,C.reads] at h1 h2<;>(try cases h1)<;>(try cases h2)<;>simp only [yE] at h ⊢
 case cp f xs=>
  unfold eCp at h ⊢;split at h
  ·rename_i hf;split at h
   ·rename_i v s hv;split at h<;>cases h;rename_i hvf;refine ⟨rfl,fun σ2=>?_⟩;rw [if_pos hf]
    first | (simp only [hv]; rw [if_pos hvf]) | rw [if_pos hvf]
   ·cases h
  ·cases h
 case cq f xs=>
  unfold eCq at h ⊢;split at h
  ·rename_i hf;unfold jRg at h;split at h
   ·rename_i v s hv;split at h<;>cases h;rename_i hin;refine ⟨rfl,fun σ2=>?_⟩;rw [if_pos hf];unfold jRg
    first | (simp only [hv]; rw [if_pos hin]) | rw [if_pos hin]
   ·cases h
  ·cases h
 all_goals
  obtain ⟨rfl,hv⟩:=pure_ h;exact ⟨rfl,fun σ2=>by simp only [qL] at hv ⊢; rw [hv]; rfl⟩
theorem jRi {call:yR} {c:C} {τ:T} {σ:Mem} {x:AV} {σ':Mem} (h:yE call c τ σ=some (x,σ')) (h2:c.reads=true):σ'=σ∧∀ σ2,qL c τ σ2=some x→yE call c τ σ2=some (x,σ2):=by
 cases c<;>simp only [C.reads] at h2<;>(try cases h2)<;>simp only [yE] at h ⊢
 all_goals
  unfold eP at h;split at h<;>cases h;exact ⟨rfl,fun σ2 h3=>by rw [h3]; rfl⟩
mutual
theorem beq_eq:∀ (x y:AV),AV.beq x y=true→x=y
 | .b x,y,h=>by
  cases y<;>simp only [AV.beq] at h<;>try cases h
  rename_i z; rw [show x=z by simpa using h]
 | .i k n,y,h=>by
  cases y<;>simp only [AV.beq] at h<;>try cases h
  simp only [Bool.and_eq_true] at h;rw [jBj h.1,jUl.1 h.2]
 | .s l v,y,h=>by
  cases y<;>simp only [AV.beq] at h<;>try cases h
  simp only [Bool.and_eq_true,Nat.beq_eq] at h;rw [h.1,h.2]
 | .p0,y,h=>by cases y<;>simp only [AV.beq] at h<;>first | rfl | cases h
 | .p b o,y,h=>by
  cases y<;>simp only [AV.beq] at h<;>try cases h
  simp only [Bool.and_eq_true,Nat.beq_eq] at h;rw [h.1,h.2]
 | .sl0,y,h=>by cases y<;>simp only [AV.beq] at h<;>first | rfl | cases h
 | .sl b o n z,y,h=>by
  cases y<;>simp only [AV.beq] at h<;>try cases h
  simp only [Bool.and_eq_true,Nat.beq_eq] at h;rw [h.1.1.1,h.1.1.2,h.1.2,h.2]
 | .f0,y,h=>by cases y<;>simp only [AV.beq] at h<;>first | rfl | cases h
 | .ni,y,h=>by cases y<;>simp only [AV.beq] at h<;>first | rfl | cases h
 | .f a b c,y,h=>by
  cases y<;>simp only [AV.beq] at h<;>try cases h
  simp only [Bool.and_eq_true,Nat.beq_eq] at h;rw [h.1.1,aQ _ _ h.1.2,aQ _ _ h.2]
 | .fi l,y,h=>by
  cases y<;>simp only [AV.beq] at h<;>try cases h
  rw [of_decide_eq_true h]
 | .fq z,y,h=>by
  cases y<;>simp only [AV.beq] at h<;>try cases h
  rw [of_decide_eq_true h]
 | .agg l,y,h=>by
  cases y<;>simp only [AV.beq] at h<;>try cases h
  rw [aQ _ _ h]
 | .tup l,y,h=>by
  cases y<;>simp only [AV.beq] at h<;>try cases h
  rw [aQ _ _ h]
theorem aQ:∀ (x y:List AV),jCg x y=true→x=y
 | [],y,h=>by cases y<;>simp_all [jCg]
 | x::r,y,h=>by
  cases y with
  | nil=>simp [jCg] at h
  | cons z t=>
   simp only [jCg,Bool.and_eq_true] at h;rw [beq_eq x z h.1,aQ r t h.2]
end
def atH (h:List Mem) (n k:Nat):Mem:=h.getD (n - k) mP
theorem jIz {c:C} {τ:T} {v:AV} {lo hi:Nat}:∀ {h:List Mem} {n:Nat},h.length=n+1→stable c τ v lo hi h n=true→∀ k,lo≤k→k≤hi→k≤n→qL c τ (atH h n k)=some v
 | [],n,hl,_=>by simp at hl
 | σ::r,n,hl,hs=>by
  intro k h1 h2 h3;simp only [stable,Bool.and_eq_true] at hs;by_cases e:k=n
  ·subst e;have h4:=hs.1;rw [if_pos ⟨Nat.ble_eq_true_of_le h1,Nat.ble_eq_true_of_le h2⟩] at h4;split at h4
   ·rename_i u hu;have:atH (σ::r) k k=σ:=by simp [atH]
    rw [this,hu,beq_eq _ _ h4]
   ·cases h4
  ·cases n with
   | zero=>omega
   | succ n=>
    have h4:=hs.2;simp only at h4;have:=jIz (h:=r) (n:=n) (by simpa using hl) h4 k h1 h2 (by omega)
    have e2:atH (σ::r) (n+1) k=atH r n k:=by
     unfold atH;rw [show n+1 - k=(n - k)+1 from by omega]
     rfl
    rw [e2]; exact this
theorem aM {h:List Mem} {n:Nat} (hl:h.length=n+1):∀ {rs:List Rd},fS h n rs=true→∀ x∈rs,∀ k,x.lo≤k→k≤x.hi→k≤n→qL x.c x.τ (atH h n k)=some x.v
 | [],_=>by simp
 | x::r,hs=>by
  simp only [fS,Bool.and_eq_true] at hs;intro y hy;rcases List.mem_cons.1 hy with rfl | hy
  ·exact jIz hl hs.1
  ·exact aM hl hs.2 y hy
inductive Lex (call:yR) (S:Nat→Mem) (N:Nat):List O→T→Nat→T→Nat→Prop where
 | nil {τ:T} {k:Nat}:Lex call S N [] τ k τ k
 | act {o:O} {r:List O} {τ τ':T} {k k':Nat} {v:AV} (hw:kD o.g τ=some true) (hx:yE call o.c τ (S k)=some (v,S (k+1))) (ha:o.c.acts=true) (hr:Lex call S N r (dO τ o.d v) (k+1) τ' k'):Lex call S N (o::r) τ k τ' k'
 | still {o:O} {r:List O} {τ τ':T} {k k':Nat} {v:AV} {σ:Mem} (hw:kD o.g τ=some true) (hx:yE call o.c τ (S k)=some (v,σ)) (ha:o.c.acts=false)
   (hs:∀ lo hi,o.rd=some (lo,hi)→∀ m,lo≤m→m≤hi→m≤N→qL o.c τ (S m)=some v) (hr:Lex call S N r (dO τ o.d v) k τ' k'):Lex call S N (o::r) τ k τ' k'
 | offAct {o:O} {r:List O} {τ τ':T} {k k':Nat} (hw:kD o.g τ=some false) (ha:o.c.acts=true) (hS:S (k+1)=S k) (hr:Lex call S N r (dO τ o.d wE) (k+1) τ' k'):Lex call S N (o::r) τ k τ' k'
 | off {o:O} {r:List O} {τ τ':T} {k k':Nat} (hw:kD o.g τ=some false) (ha:o.c.acts=false) (hr:Lex call S N r (dO τ o.d wE) k τ' k'):Lex call S N (o::r) τ k τ' k'
theorem aO {σ:Mem} {h:List Mem} {n k:Nat} (hk:k≤n):atH (σ::h) (n+1) k=atH h n k:=by
 unfold atH;rw [show n+1 - k=(n - k)+1 from by omega]
 rfl
theorem fC {call:yR}:∀ (l:List O) (τ:T) (h:List Mem) (k:Nat) (rs:List Rd) (τ':T) (σ':Mem),h.length=k+1→xJ call l τ h k rs=some (τ',σ') →
  ∃ (hf:List Mem) (N:Nat),hf.length=N+1∧k≤N∧(∀ m,m≤k→atH hf N m=atH h k m)∧(∀ x∈rs,∀ m,x.lo≤m→m≤x.hi→m≤N→qL x.c x.τ (atH hf N m)=some x.v) ∧
   Lex call (atH hf N) N l τ k τ' N∧σ'=atH hf N N
 | [],τ,h,k,rs,τ',σ',hl,hx=>by
  simp only [xJ] at hx;split at hx
  ·rename_i hs;split at hx
   ·rename_i σ r;cases hx;exact ⟨_,k,hl,Nat.le_refl _,fun _ _=>rfl,aM hl hs,.nil,by simp [atH]⟩
   ·cases hx
  ·cases hx
 | o::r,τ,h,k,rs,τ',σ',hl,hx=>by
  simp only [xJ] at hx;split at hx
  ·cases hx
  ·rename_i σ hr;have hcur:atH (σ::hr) k k=σ:=by simp [atH]
   split at hx
   ·rename_i hw;split at hx
    ·rename_i v σ1 hv;split at hx
     ·rename_i ha;obtain ⟨hf,N,g1,g2,g3,g4,g5,g6⟩:=fC r _ (σ1::σ::hr) (k+1) rs τ' σ' (by simpa using hl) hx
      refine ⟨hf,N,g1,by omega,fun m hm=>by rw [g3 m (by omega),aO hm],g4,?_,g6⟩
      refine .act (v:=v) hw ?_ ha g5;rw [g3 k (by omega),aO (Nat.le_refl _),hcur,g3 (k+1) (Nat.le_refl _)]
      simpa [atH] using hv
     ·rename_i ha;obtain ⟨hf,N,g1,g2,g3,g4,g5,g6⟩:=fC r _ (σ::hr) k _ τ' σ' hl hx;refine ⟨hf,N,g1,g2,g3,?_,?_,g6⟩
      ·intro x hx';exact g4 x (by unfold jEf; split<;>simp [hx'])
      ·refine .still (v:=v) (σ:=σ1) hw ?_ (by simpa using ha) ?_ g5
       ·rw [g3 k (Nat.le_refl _),hcur]; exact hv
       ·intro lo hi hrd m h1 h2 h3;exact g4 ⟨o.c,τ,v,lo,hi⟩ (by unfold jEf; rw [hrd]; simp) m h1 h2 h3
    ·cases hx
   ·rename_i hw;split at hx
    ·rename_i ha;obtain ⟨hf,N,g1,g2,g3,g4,g5,g6⟩:=fC r _ (σ::σ::hr) (k+1) rs τ' σ' (by simpa using hl) hx
     refine ⟨hf,N,g1,by omega,fun m hm=>by rw [g3 m (by omega),aO hm],g4,?_,g6⟩
     refine .offAct hw ha ?_ g5;rw [g3 (k+1) (Nat.le_refl _),g3 k (by omega),aO (Nat.le_refl _),hcur]
     simp [atH]
    ·rename_i ha;obtain ⟨hf,N,g1,g2,g3,g4,g5,g6⟩:=fC r _ (σ::hr) k rs τ' σ' hl hx;exact ⟨hf,N,g1,g2,g3,g4,.off hw (by simpa using ha) g5,g6⟩
   ·cases hx
end
noncomputable section
set_option linter.all false
open Go Go.RowKit
def wM:List O→(Nat→Bool)→Nat→Nat
 | [],_,_=>0
 | y::r,f,k=>(y.c.acts&&f k).toNat+wM r f (k+1)
theorem jHu (b:Bool):(if b=true then 1 else 0)=b.toNat:=by cases b<;>rfl
theorem jVd (m:Nat):∀ (l:List O) (k:Nat),jYn m l k=wM l (fun q=>bit m q) k
 | [],_=>rfl
 | y::r,k=>by simp only [jYn,wM,jVd m r,jHu]
theorem jUv (i:Nat) (full:List Nat):∀ (l:List O) (ms:List Nat) (k:Nat),ms=full.drop k→l.length=ms.length→jYi i l ms=wM l (fun q => !bit (full.getD q 0) i) k
 | [],ms,k,_,_=>by cases ms<;>rfl
 | y::r,[],k,_,h=>by simp at h
 | y::r,m::ms,k,h,hl=>by
  have hk:full[k]?=some m:=by
   have:=congrArg (fun (l:List Nat)=>l[0]?) h;simpa using this.symm
  have hd:ms=full.drop (k+1):=by
   have:=congrArg (fun (l:List Nat)=>l.drop 1) h;simpa [List.drop_drop,Nat.add_comm] using this
  have hm:full.getD k 0=m:=by simp [hk]
  simp only [jYi,wM,jUv i full r ms (k+1) hd (by simpa using hl),jHu,hm]
theorem fU {f g:Nat→Bool}:∀ (l:List O) (k:Nat),(∀ (i:Nat) (y:O),l[i]?=some y→y.c.acts=true→f (k+i)=true→g (k+i)=true)→wM l f k≤wM l g k
 | [],_,_=>Nat.le_refl _
 | y::r,k,h=>by
  have ih:=fU r (k+1) fun i z hz ha hf=>by
   have:=h (i+1) z (by simpa using hz) ha (by rw [show k+(i+1)=k+1+i from by omega]; exact hf)
   rwa [show k+(i+1)=k+1+i from by omega] at this
  have h0:=h 0 y rfl;simp only [Nat.add_zero] at h0;simp only [wM];have:(y.c.acts&&f k).toNat≤(y.c.acts&&g k).toNat:=by
   cases ha:y.c.acts
   ·simp
   ·cases hf:f k
    ·simp
    ·simp [h0 ha hf]
  omega
theorem mH {f g:Nat→Bool} (l:List O) (k:Nat) (h:∀ (i:Nat) (y:O),l[i]?=some y→y.c.acts=true→f (k+i)=g (k+i)):wM l f k=wM l g k:=
 Nat.le_antisymm (fU l k fun i y hy ha hf=>by rw [←h i y hy ha]; exact hf) (fU l k fun i y hy ha hf=>by rw [h i y hy ha]; exact hf)
theorem jCq {f:Nat→Bool}:∀ (l:List O) (k i:Nat) (o:O),l[i]?=some o→f (k+i)=false→wM l (fun q=>f q||q==k+i) k=wM l f k+o.c.acts.toNat
 | [],k,i,o,h,_=>by simp at h
 | y::r,k,0,o,h,hf=>by
  simp at h;subst h;simp only [Nat.add_zero] at hf ⊢;have:wM r (fun q=>f q||q==k) (k+1)=wM r f (k+1):=mH r (k+1) fun i z hz ha=>by
   have:(k+1+i==k)=false:=by simp; omega
   rw [this,Bool.or_false]
  simp only [wM,this,hf];cases ha:y.c.acts<;>simp;omega
 | y::r,k,i+1,o,h,hf=>by
  have ih:=jCq (f:=f) r (k+1) i o (by simpa using h) (by rw [show k+1+i=k+(i+1) from by omega]; exact hf)
  rw [show k+(i+1)=k+1+i from by omega]
  have:(k==k+1+i)=false:=by simp; omega
  simp only [wM,this,Bool.or_false,ih];omega
theorem jDj (acc:List Nat):∀ (l:List Edge) (s p:Nat),Nat.testBit (l.foldl (fun s e=>if Region.binds .any e then s ||| 2^e.on ||| acc.getD e.on 0 else s) s) p=true →
  Nat.testBit s p=true∨∃ e∈l,Region.binds .any e=true∧(p=e.on∨Nat.testBit (acc.getD e.on 0) p=true)
 | [],s,p,h=>.inl h
 | e::l,s,p,h=>by
  simp only [List.foldl_cons] at h;rcases jDj acc l _ p h with h1 | ⟨e',he,r⟩
  ·split at h1
   ·rename_i hb;rw [Nat.testBit_or,Nat.testBit_or,Bool.or_eq_true,Bool.or_eq_true] at h1;rcases h1 with (h1 | h1) | h1
    ·exact .inl h1
    ·refine .inr ⟨e,by simp,hb,.inl ?_⟩
     rw [Nat.testBit_two_pow] at h1;have:e.on=p:=by simpa using h1
     exact this.symm
    ·exact .inr ⟨e,by simp,hb,.inr h1⟩
   ·exact .inl h1
  ·exact .inr ⟨e',by simp [he],r⟩
theorem oF:∀ (l:List Oper) (acc:List Nat),∃ ext,nX l acc=acc++ext∧ext.length=l.length
 | [],acc=>⟨[],by simp [nX],rfl⟩
 | o::r,acc=>by
  obtain ⟨ext,h1,h2⟩:=oF r (acc++[o.after.toList.foldl (fun s e=>if Region.binds .any e then s ||| 2^e.on ||| acc.getD e.on 0 else s) 0])
  exact ⟨_::ext,by rw [nX,h1,List.append_assoc]; rfl,by simp [h2]⟩
theorem jEc:∀ (l:List Oper) (acc:List Nat) (i:Nat) (o:Oper) (m:Nat),l[i]?=some o→(nX l acc)[acc.length+i]?=some m→∀ p,Nat.testBit m p=true →
  ∃ e∈o.after.toList,Region.binds .any e=true∧(p=e.on∨∃ m',(nX l acc)[e.on]?=some m'∧Nat.testBit m' p=true)
 | [],acc,i,o,m,h,_=>by simp at h
 | o::r,acc,0,o',m,h,hm=>by
  simp at h;subst h;intro p hp;obtain ⟨ext,h1,h2⟩:=oF r (acc++[o.after.toList.foldl (fun s e=>if Region.binds .any e then s ||| 2^e.on ||| acc.getD e.on 0 else s) 0])
  have hmask:nX (o::r) acc=acc++(o.after.toList.foldl (fun s e=>if Region.binds .any e then s ||| 2^e.on ||| acc.getD e.on 0 else s) 0::ext):=by rw [nX,h1,List.append_assoc]; rfl
  rw [hmask] at hm;rw [List.getElem?_append_right (by omega),show acc.length+0 - acc.length=0 from by omega] at hm
  simp only [List.getElem?_cons_zero,Option.some.injEq] at hm;subst hm;rcases jDj acc _ 0 p hp with h0 | ⟨e,he,hb,h3⟩
  ·simp at h0
  ·refine ⟨e,he,hb,?_⟩;rcases h3 with h3 | h3
   ·exact .inl h3
   ·right;rcases Nat.lt_or_ge e.on acc.length with hlt | hge
    ·refine ⟨acc[e.on],?_,?_⟩
     ·rw [hmask,List.getElem?_append_left hlt]; exact List.getElem?_eq_getElem hlt
     ·simpa [List.getElem?_eq_getElem hlt] using h3
    ·simp [List.getElem?_eq_none hge] at h3
 | o::r,acc,i+1,o',m,h,hm=>by
  have:=jEc r (acc++[o.after.toList.foldl (fun s e=>if Region.binds .any e then s ||| 2^e.on ||| acc.getD e.on 0 else s) 0]) i o' m (by simpa using h)
  rw [nX] at hm ⊢;refine this ?_;simp only [List.length_append,List.length_cons,List.length_nil];rw [show acc.length+(0+1)+i=acc.length+(i+1) from by omega]
  exact hm
theorem jMz:∀ (l:List Oper) (k:Nat),jBg l k=true→∀ (i:Nat) (o:Oper),l[i]?=some o→∀ e∈o.after.toList,Region.binds .any e=true→e.on<k+i
 | [],k,_,i,o,h=>by simp at h
 | o::r,k,hk,i,o',h=>by
  simp only [jBg,Bool.and_eq_true,List.all_eq_true] at hk;cases i with
  | zero=>
   simp at h;subst h;intro e he hb;have:=hk.1 e he;simpa [hb] using this
  | succ i=>
   intro e he hb;have:=jMz r (k+1) hk.2 i o' (by simpa using h) e he hb
   omega
theorem jMa (x:O) (m:Nat):∀ (l:List O) (k:Nat),jBb x m l k=true→∀ (i:Nat) (y:O),l[i]?=some y→oM y x (bit m (k+i))=true
 | [],k,_,i,y,h=>by simp at h
 | z::r,k,hk,i,y,h=>by
  simp only [jBb,Bool.and_eq_true] at hk;cases i with
  | zero=>simp at h; subst h; exact hk.1
  | succ i=>
   have:=jMa x m r (k+1) hk.2 i y (by simpa using h)
   rwa [show k+1+i=k+(i+1) from by omega] at this
theorem jAf:∀ (l seen:List O) (ms:List Nat),bQ seen l ms=true→l.length=ms.length ∧
  ∀ (i':Nat) (x:O) (m:Nat),l[i']?=some x→ms[i']?=some m→∀ (i:Nat) (y:O),i<seen.length+i'→(seen++l)[i]?=some y→oM y x (bit m i)=true
 | [],seen,[],_=>⟨rfl,fun i' x m h=>by simp at h⟩
 | [],seen,m::ms,h=>by simp [bQ] at h
 | x::r,seen,[],h=>by simp [bQ] at h
 | x::r,seen,m::ms,h=>by
  simp only [bQ,Bool.and_eq_true] at h;obtain ⟨h1,h2⟩:=jAf r (seen++[x]) ms h.2;refine ⟨by simp [h1],fun i' x' m' hx hm i y hi hy=>?_⟩
  cases i' with
  | zero=>
   simp at hx hm;subst hx; subst hm;rw [List.getElem?_append_left (by omega)] at hy
   have:=jMa x m seen 0 h.1 i y hy
   rwa [Nat.zero_add] at this
  | succ i'=>
   refine h2 i' x' m' (by simpa using hx) (by simpa using hm) i y (by simp; omega) ?_
   rw [List.append_assoc]; exact hy
theorem jGc (all:List O) (ms0:List Nat):∀ (l:List O) (ms:List Nat) (k:Nat),l.length=ms.length→(aI all ms0 l ms k).length=l.length ∧
  ∀ (i:Nat) (x:O),l[i]?=some x→∃ m,ms[i]?=some m∧(aI all ms0 l ms k)[i]?=some (if x.c.reads then { x with rd:=some (jYn m all 0,jYi (k+i) all ms0) } else x)
 | [],ms,k,_=>⟨by cases ms<;>rfl,fun i x h=>by simp at h⟩
 | x::r,[],k,h=>by simp at h
 | x::r,m::ms,k,h=>by
  obtain ⟨h1,h2⟩:=jGc all ms0 r ms (k+1) (by simpa using h)
  refine ⟨by simp [aI,h1],fun i y hy=>?_⟩
  cases i with
  | zero=>simp at hy; subst hy; exact ⟨m,rfl,by simp [aI]⟩
  | succ i=>
   obtain ⟨m',a1,a2⟩:=h2 i y (by simpa using hy)
   refine ⟨m',by simpa using a1,?_⟩
   simp only [aI,List.getElem?_cons_succ,a2,show k+1+i=k+(i+1) from by omega]
def qKt (call:yR) (S:Nat→Mem) (N:Nat) (o:O) (τ:T) (k:Nat) (v:AV):Prop:=
 (kD o.g τ=some true∧((o.c.acts=true∧yE call o.c τ (S k)=some (v,S (k+1)))∨(o.c.acts=false∧(∃ σ,yE call o.c τ (S k)=some (v,σ))∧∀ lo hi,o.rd=some (lo,hi)→∀ m,lo≤m→m≤hi→m≤N→qL o.c τ (S m)=some v))) ∨
 (kD o.g τ=some false∧v=wE∧(o.c.acts=true→S (k+1)=S k))
def shift {α:Type} (x:α) (f:Nat→α):Nat→α
 | 0=>x
 | n+1=>f n
theorem qIa {call:yR} {S:Nat→Mem} {N:Nat} {l:List O} {τ τ':T} {k k':Nat} (h:Lex call S N l τ k τ' k') :
  ∃ (τs:Nat→T) (vs:Nat→AV) (ks:Nat→Nat),τs 0=τ∧ks 0=k∧τs l.length=τ'∧ks l.length=k' ∧
   ∀ (i:Nat) (o:O),l[i]?=some o→τs (i+1)=dO (τs i) o.d (vs i)∧ks (i+1)=ks i+o.c.acts.toNat∧qKt call S N o (τs i) (ks i) (vs i):=by
 induction h with
 | @nil τ k=>exact ⟨fun _=>τ,fun _=>wE,fun _=>k,rfl,rfl,rfl,rfl,fun i o h=>by simp at h⟩
 | @act o r τ τ' k k' v hw hx ha hr ih=>
  obtain ⟨τs,vs,ks,h1,h2,h3,h4,h5⟩:=ih;refine ⟨shift τ τs,shift v vs,shift k ks,rfl,rfl,h3,h4,fun i o' ho=>?_⟩;cases i with
  | zero=>simp at ho; subst ho; exact ⟨h1,by simp [shift,h2,ha],.inl ⟨hw,.inl ⟨ha,hx⟩⟩⟩
  | succ i=>exact h5 i o' (by simpa using ho)
 | @still o r τ τ' k k' v σ hw hx ha hs hr ih=>
  obtain ⟨τs,vs,ks,h1,h2,h3,h4,h5⟩:=ih;refine ⟨shift τ τs,shift v vs,shift k ks,rfl,rfl,h3,h4,fun i o' ho=>?_⟩;cases i with
  | zero=>simp at ho; subst ho; exact ⟨h1,by simp [shift,h2,ha],.inl ⟨hw,.inr ⟨ha,⟨σ,hx⟩,hs⟩⟩⟩
  | succ i=>exact h5 i o' (by simpa using ho)
 | @offAct o r τ τ' k k' hw ha hS hr ih=>
  obtain ⟨τs,vs,ks,h1,h2,h3,h4,h5⟩:=ih;refine ⟨shift τ τs,shift wE vs,shift k ks,rfl,rfl,h3,h4,fun i o' ho=>?_⟩;cases i with
  | zero=>simp at ho; subst ho; exact ⟨h1,by simp [shift,h2,ha],.inr ⟨hw,rfl,fun _=>hS⟩⟩
  | succ i=>exact h5 i o' (by simpa using ho)
 | @off o r τ τ' k k' hw ha hr ih=>
  obtain ⟨τs,vs,ks,h1,h2,h3,h4,h5⟩:=ih;refine ⟨shift τ τs,shift wE vs,shift k ks,rfl,rfl,h3,h4,fun i o' ho=>?_⟩;cases i with
  | zero=>simp at ho; subst ho; exact ⟨h1,by simp [shift,h2,ha],.inr ⟨hw,rfl,fun h=>by rw [ha] at h; cases h⟩⟩
  | succ i=>exact h5 i o' (by simpa using ho)
theorem qLg {τ:T} {d:Option Nat} {nt:Nat} (hd:aY nt d=true) (v:AV) (t:Nat):(X.t t).ev (dO τ d v)=if d=some t then v else (X.t t).ev τ:=by
 cases d with
 | none=>simp [dO]
 | some d=>
  simp only [aY,Bool.and_eq_true,Nat.blt_eq] at hd;simp only [X.ev,dO,Tr.get_set30 _ _ _ _ (Nat.zero_le _)];by_cases e:t=d
  ·subst e; simp
  ·rw [if_neg e,if_neg (fun h=>e (by cases h; rfl))]
def jLh (f:Nat→AV):Nat→T
 | 0=>.e
 | n+1=>Tr.put (jLh f n) n (some (f n))
theorem jPx (f:Nat→AV):∀ (n:Nat),n≤1000000000→∀ t,(jLh f n).get t=if t<n then some (f t) else none
 | 0,_,t=>by rw [jLh,Tr.get_e]; simp
 | n+1,h,t=>by
  rw [jLh,Tr.get_set30 _ _ _ _ (by omega),jPx f n (by omega)]
  by_cases e:t=n
  ·subst e; simp
  ·rw [if_neg e];by_cases e2:t<n
   ·rw [if_pos e2,if_pos (by omega)]
   ·rw [if_neg e2,if_neg (by omega)]
end
noncomputable section
set_option linter.all false
open Go Go.RowKit
def nO (l:List O) (i t:Nat):Bool:=match l[i]? with
 | some x=>(match x.d with | some d=>d==t | none=>false)
 | none=>false
def dT (l:List O) (vs:Nat→AV) (τ:T) (L:Nat→Bool) (t:Nat):Nat→AV
 | 0=>(X.t t).ev τ
 | i+1=>if L i&&nO l i t then vs i else dT l vs τ L t i
section
variable {l:List O} {vs:Nat→AV} {τ:T} {L L':Nat→Bool} {t:Nat}
theorem jFx {τs:Nat→T} {nt:Nat} (h0:τs 0=τ) (hs:∀ (i:Nat) (x:O),l[i]?=some x→τs (i+1)=dO (τs i) x.d (vs i)∧aY nt x.d=true):∀ i,i≤l.length→(X.t t).ev (τs i)=dT l vs τ (fun _=>true) t i
 | 0,_=>by rw [h0]; rfl
 | i+1,hi=>by
  have hx:l[i]?=some l[i]:=List.getElem?_eq_getElem (by omega)
  obtain ⟨h1,h2⟩:=hs i _ hx;rw [h1,qLg h2,jFx h0 hs i (by omega)]
  simp only [dT,nO,hx,Bool.true_and];cases hd:l[i].d with
  | none=>simp
  | some d=>
   by_cases e:d=t
   ·subst e; simp
   ·have:(d==t)=false:=by simpa using e
    rw [if_neg (by simpa using e)]; simp [this]
theorem nB (i:Nat):∀ k,(∀ m,i≤m→m<i+k→(L m&&nO l m t)=false)→dT l vs τ L t (i+k)=dT l vs τ L t i
 | 0,_=>rfl
 | k+1,h=>by
  rw [show i+(k+1)=(i+k)+1 from by omega,dT,h (i+k) (by omega) (by omega)]
  simp only [Bool.false_eq_true,if_false];exact nB i k fun m h1 h2=>h m h1 (by omega)
theorem sN:∀ i,(∀ m,m<i→nO l m t=true→L m=L' m)→dT l vs τ L t i=dT l vs τ L' t i
 | 0,_=>rfl
 | i+1,h=>by
  simp only [dT];rw [sN i fun m hm hd=>h m (by omega) hd]
  cases hd:nO l i t with
  | false=>simp
  | true=>rw [h i (by omega) hd]
end
def unl (L:Nat→Bool):Nat→Nat
 | 0=>0
 | k+1=>unl L k+(!L k).toNat
theorem jQc {L:Nat→Bool}:∀ n,unl L n=0→∀ i,i<n→L i=true
 | 0,_,i,hi=>by omega
 | n+1,h,i,hi=>by
  simp only [unl] at h;by_cases e:i=n
  ·subst e;cases hL:L i with
   | true=>rfl
   | false=>rw [hL] at h; simp at h
  ·exact jQc n (by omega) i (by omega)
theorem jWn {L:Nat→Bool} {i:Nat} (hi:L i=false):∀ n,i<n→unl (fun q=>L q||q==i) n+1=unl L n
 | 0,h=>by omega
 | n+1,h=>by
  simp only [unl];by_cases e:i=n
  ·subst e;have:unl (fun q=>L q||q==i) i=unl L i:=by
    have aux:∀ k,k≤i→unl (fun q=>L q||q==i) k=unl L k:=by
     intro k
     induction k with
     | zero=>intro _; rfl
     | succ k ih=>
      intro hk;simp only [unl,ih (by omega)]
      have:(k==i)=false:=by simp; omega
      rw [this,Bool.or_false]
    exact aux i (Nat.le_refl _)
   rw [this,hi];simp
  ·have:=jWn hi n (by omega)
   have e2:(n==i)=false:=by simp; omega
   rw [e2,Bool.or_false];omega
theorem jTc {μ:Mu} {j:J} (hμ:uQ μ) {x:AV} (h:RV μ j x undef):x=wE:=by
 cases x
 case tup l=>
  obtain ⟨a,e,h1⟩:=h;unfold undef at e;cases e;cases l with
  | nil=>rfl
  | cons y r=>obtain ⟨_,_,e,_⟩:=h1; cases e
 case fi=>obtain ⟨_,_,e,_⟩:=h; cases e
 case fq=>obtain ⟨_,_,_,_,_,e,_⟩:=h; cases e
 case b=>cases h
 case i=>cases h
 case s=>obtain ⟨_,e,_⟩:=h; cases e
 case p0=>cases h
 case p=>obtain ⟨_,_,e⟩:=h; cases e
 case sl0=>cases h
 case sl=>
  rcases h with ⟨_,_,_,_,e,_⟩ | ⟨_,_,_,e,_⟩<;>cases e
 case f0=>cases h
 case ni=>cases h
 case f=>obtain ⟨_,_,e,_⟩:=h; cases e
 case agg=>obtain ⟨_,e,_⟩:=h; cases e
section
variable {P:Program} {μ:Mu} {B:Nat→Prop} {w0 w:World} {j:J} {σ σ':Mem} {τ τ':T} {a:Act}
theorem qHp (hμ:uQ μ) {call:yR} (hcall:kU P μ call) {nt:Nat} {ops:Array Oper} {l:List O} (hc:qAl P nt ops=some l) (hx:xJ call l τ [σ] 0 []=some (τ',σ'))
  (ht:RT μ j τ a) (hr:Rel μ B w0 j σ w) (hn:a.tmps.size=nt) (hmix:P.follows .mixedOrders=true) {Q:Exit→Act→World→Prop} (hq:jLv μ B w0 j nt a τ' σ' (Q .normal)) {id:Nat}:(Code.region id ops true).wp P Q a w:=by
 unfold qAl at hc;split at hc
 ·cases hc
 ·rename_i l0 hl0;simp only at hc;split at hc
  ·rename_i hchk;simp only [Bool.and_eq_true,Nat.ble_eq] at hchk;obtain ⟨⟨hedge,hahead⟩,hnt⟩:=hchk;simp only [Option.some.injEq] at hc;obtain ⟨hlen0,hops0⟩:=jCk hl0;obtain ⟨ext,hms,hmslen⟩:=oF ops.toList [];obtain ⟨hlenms,hpair0⟩:=jAf _ _ _ hahead;generalize hmsv:nX ops.toList []=ms at hc hahead hlenms hpair0 hms;have hn0:l0.length=ops.size:=by simpa using hlen0
   obtain ⟨hlenl,hwith⟩:=jGc l0 ms l0 ms 0 hlenms;rw [hc] at hlenl hwith
   -- each operation,with all that is tH of it
   have hO:∀ (i:Nat) (o:Oper),ops[i]?=some o→∃ (x0 x:O) (m:Nat),l0[i]?=some x0∧l[i]?=some x∧ms[i]?=some m∧x.c=x0.c∧x.d=x0.d∧x.g=x0.g∧jMp P nt ops o=some x0∧(x0.c.reads=true→x.rd=some (jYn m l0 0,jYi i l0 ms)):=by
    intro i o ho;obtain ⟨x0,h1,h2⟩:=hops0 i o (by simpa using ho)
    obtain ⟨m,h3,h4⟩:=hwith i x0 h1;rw [Nat.zero_add] at h4;refine ⟨x0,_,m,h1,h4,h3,?_,?_,?_,h2,?_⟩
    ·split<;>rfl
    ·split<;>rfl
    ·split<;>rfl
    ·intro hrd; rw [if_pos hrd]
   have hpair:∀ (i i':Nat) (x x':O) (m:Nat),i<i'→l0[i]?=some x→l0[i']?=some x'→ms[i']?=some m→oM x x' (bit m i)=true:=by
    intro i i' x x' m hlt h1 h2 h3;exact hpair0 i' x' m h2 h3 i x (by simpa using hlt) (by simpa using h1)
   obtain ⟨hf,N,_,_,hS0,_,hlex,hσ'⟩:=fC l τ [σ] 0 [] τ' σ' rfl hx;generalize hS:atH hf N=S at hS0 hlex hσ';have hS00:S 0=σ:=by rw [hS0 0 (Nat.le_refl _)]; rfl
   obtain ⟨τs,vs,ks,e0,k0,en,kn,hstep⟩:=qIa hlex;rw [hlenl,hn0] at en kn;have hdst:∀ (i:Nat) (x:O),l0[i]?=some x→τs (i+1)=dO (τs i) x.d (vs i)∧aY nt x.d=true:=by
    intro i x hxi;have hi:i<ops.size:=by rw [←hn0]; exact (List.getElem?_eq_some_iff.1 hxi).1
    obtain ⟨x0,x1,m,h1,h2,h3,h4,h5,h6,h7,_⟩:=hO i ops[i] (Array.getElem?_eq_getElem hi);rw [hxi] at h1;cases h1;obtain ⟨c1,c2,c3,c4,_⟩:=jCj h7;exact ⟨by rw [(hstep i x1 h2).1,h5],by rw [c3]; exact c4⟩
   have hkst:∀ i,i≤ops.size→ks i=wM l0 (fun q=>decide (q<i)) 0:=by
    intro i
    induction i with
    | zero=>
     intro _;rw [k0];have aux:∀ (m:List O) (k:Nat),wM m (fun q=>decide (q<0)) k=0:=by
      intro m
      induction m with
      | nil=>intro k; rfl
      | cons y r ih=>intro k; simp only [wM,ih]; simp
     exact (aux l0 0).symm
    | succ i ih=>
     intro hi;obtain ⟨x0,x1,m,h1,h2,h3,h4,_⟩:=hO i ops[i] (Array.getElem?_eq_getElem (by omega))
     rw [(hstep i x1 h2).2.1,ih (by omega),h4]
     have:=jCq (f:=fun q=>decide (q<i)) l0 0 i x0 h1 (by simp)
     rw [←this];refine mH l0 0 fun q y _ _=>?_;rw [Bool.eq_iff_iff];simp only [Nat.zero_add,Bool.or_eq_true,decide_eq_true_eq,beq_iff_eq];omega
   -- the invariant
   let Inv:(Nat→Bool)→Act→World→Prop:=fun L a1 w1=>∃ j1:J,j.le j1∧a1.tmps.size=nt∧a1.defers=a.defers∧Rel μ B w0 j1 (S (wM l0 L 0)) w1∧∀ t,RV μ j1 (dT l0 vs τ L t ops.size) (a1.tmps.getD t undef)
   let Down:(Nat→Bool)→Prop:=fun L=>∀ (i m p:Nat),L i=true→ms[i]?=some m→bit m p=true→L p=true
   have step:∀ (L:Nat→Bool) (a1:Act) (w1:World) (i:Nat) (o:Oper) (K:Act→World→Prop),Inv L a1 w1→Down L→L i=false→ops[i]?=some o→(∀ e∈o.after,Region.binds .any e=true→L e.on=true) →
     (∀ a2 w2,Inv (fun q=>L q||q==i) a2 w2→K a2 w2)→wpOp P ops Q i K a1 w1:=by
    intro L a1 w1 i o K ⟨j1,hj1,hn1,hd1,hr1,hv1⟩ hdown hLi ho hready hK;obtain ⟨x0,x,mi,h1,h2,h3,h4,h5,h6,h7,h8⟩:=hO i o ho;obtain ⟨c1,c2,c3,c4,_⟩:=jCj h7;have hi:i<ops.size:=(Array.getElem?_eq_some_iff.1 ho).1;have hbits:∀ p,bit mi p=true→L p=true:=by
     intro p hp;obtain ⟨e,he,hb,h⟩:=jEc ops.toList [] i o mi (by simpa using ho) (by rw [hmsv]; simpa using h3) p hp
     have hLe:=hready e (by simpa using he) hb
     rcases h with rfl | ⟨m',hm',hp'⟩
     ·exact hLe
     ·rw [hmsv] at hm';exact hdown _ _ _ hLe hm' hp'
    -- later ones that have come up don't wait for it
    have later:∀ m,i<m→L m=true→∀ y,l0[m]?=some y→(x0.c.acts&&y.c.acts)=false∧(∀ d,y.d=some d→x0.names.contains d=false)∧∃ mm,ms[m]?=some mm∧bit mm i=false:=by
     intro m hm hLm y hy;obtain ⟨mm,hmm⟩:∃ mm,ms[m]?=some mm:=⟨ms[m]'(by rw [←hlenms]; exact (List.getElem?_eq_some_iff.1 hy).1),List.getElem?_eq_getElem _⟩
     have hb:bit mm i=false:=by
      cases hbb:bit mm i with
      | false=>rfl
      | true=>rw [hdown _ _ _ hLm hmm hbb] at hLi; cases hLi
     have hp:=hpair i m x0 y mm hm h1 hy hmm;simp only [oM,hb,Bool.false_or,Bool.and_eq_true,Bool.not_eq_true'] at hp;refine ⟨hp.1.1,fun d hd=>?_,mm,hmm,hb⟩;have:=hp.2;rw [hd] at this;simpa using this
    have earlier:∀ m,m<i→L m=false→∀ y,l0[m]?=some y→(y.c.acts&&x0.c.acts)=false∧∀ d,y.d=some d→x0.names.contains d=false:=by
     intro m hm hLm y hy;have hb:bit mi m=false:=by
      cases hbb:bit mi m with
      | false=>rfl
      | true=>rw [hbits m hbb] at hLm; cases hLm
     have hp:=hpair m i y x0 mi hm hy h1 h3;simp only [oM,hb,Bool.false_or,Bool.and_eq_true,Bool.not_eq_true'] at hp;refine ⟨hp.1.1,fun d hd=>?_⟩;have:=hp.1.2;rw [hd] at this;simpa using this
    have dis:∀ m t,nO l0 m t=true→∃ y,l0[m]?=some y∧y.d=some t:=by
     intro m t hd;unfold nO at hd;split at hd
     ·rename_i y hy;split at hd
      ·rename_i d hdd;refine ⟨y,hy,?_⟩;rw [hdd,show d=t by simpa using hd]
      ·cases hd
     ·cases hd
    have above:∀ t,x0.names.contains t=true→∀ m,i<m→(L m&&nO l0 m t)=false:=by
     intro t htn m hm;cases hLm:L m with
     | false=>rfl
     | true=>
      cases hd:nO l0 m t with
      | false=>rfl
      | true=>
       obtain ⟨y,hy,hyd⟩:=dis m t hd;have:=(later m hm hLm y hy).2.1 t hyd;rw [htn] at this;cases this
    have seen:∀ t,x0.names.contains t=true→dT l0 vs τ L t ops.size=(X.t t).ev (τs i):=by
     intro t htn;rw [jFx e0 hdst i (by omega)]
     have hup:=nB (l:=l0) (vs:=vs) (τ:=τ) (L:=L) (t:=t) i (ops.size - i) fun m h1' h2'=>by
      by_cases e:m=i
      ·rw [e,hLi]; rfl
      ·exact above t htn m (by omega)
     rw [show i+(ops.size - i)=ops.size from by omega] at hup
     rw [hup];refine sN i fun m hm hd=>?_;cases hLm:L m with
     | true=>rfl
     | false=>
      obtain ⟨y,hy,hyd⟩:=dis m t hd;have:=(earlier m hm hLm y hy).2 t hyd;rw [htn] at this;cases this
    -- the slots as a table
    have hev:∀ t,(X.t t).ev (jLh (fun t=>dT l0 vs τ L t ops.size) nt)=dT l0 vs τ L t ops.size:=by
     intro t;simp only [X.ev,jPx _ nt hnt];by_cases e:t<nt
     ·rw [if_pos e]
     ·rw [if_neg e];have:=hv1 t;rw [Array.getD_eq_getD_getElem?,Array.getElem?_eq_none (by omega),Option.getD_none] at this
      exact (jTc hμ this).symm
    have ht1:RT μ j1 (jLh (fun t=>dT l0 vs τ L t ops.size) nt) a1:=fun t=>by rw [hev]; exact hv1 t
    have hlooks:∀ t,t∈x0.looks→(X.t t).ev (jLh (fun t=>dT l0 vs τ L t ops.size) nt)=(X.t t).ev (τs i):=by
     intro t hl;rw [hev,seen t (by simp [O.names,hl])]
    have hwant:kD x0.g (jLh (fun t=>dT l0 vs τ L t ops.size) nt)=kD x.g (τs i):=by
     rw [h6];exact jTe fun t h=>hlooks t (by simp [O.looks,h])
    have hexec:∀ σ1,yE call x0.c (jLh (fun t=>dT l0 vs τ L t ops.size) nt) σ1=yE call x.c (τs i) σ1:=by
     intro σ1;rw [h4];exact jRh fun t h=>hlooks t (by simp [O.looks,h])
    have hcnt:wM l0 (fun q=>L q||q==i) 0=wM l0 L 0+x0.c.acts.toNat:=by
     have:=jCq (f:=L) l0 0 i x0 h1 (by rw [Nat.zero_add]; exact hLi)
     rwa [Nat.zero_add] at this
    -- the slots behind it
    have hval:∀ (j2:J) (v:Value),j1.le j2→RV μ j2 (vs i) v→∀ t,RV μ j2 (dT l0 vs τ (fun q=>L q||q==i) t ops.size) ((a1.put o.dst v).tmps.getD t undef):=by
     intro j2 v hj2 hv t;cases hd:nO l0 i t with
     | true=>
      obtain ⟨y,hy,hyd⟩:=dis i t hd;rw [h1] at hy;cases hy;have htn:x0.names.contains t=true:=by simp [O.names,hyd]
      have hup:=nB (l:=l0) (vs:=vs) (τ:=τ) (L:=fun q=>L q||q==i) (t:=t) (i+1) (ops.size - (i+1)) fun m h1' h2'=>by
       have:(m==i)=false:=by simp; omega
       rw [this,Bool.or_false];exact above t htn m (by omega)
      rw [show i+1+(ops.size - (i+1))=ops.size from by omega] at hup
      rw [hup];simp only [dT,hd,beq_self_eq_true,Bool.or_true,Bool.and_self,if_true];have hod:o.dst=some t:=by rw [←c3,hyd]
      have htlt:t<nt:=by
       rw [hod] at c4;simp only [aY,Bool.and_eq_true,Nat.blt_eq] at c4;omega
      rw [hod];simp only [Act.put,Array.getD_eq_getD_getElem?,Array.getElem?_setIfInBounds_self_of_lt (show t<a1.tmps.size by omega),Option.getD_some]
      exact hv
     | false=>
      rw [sN (L':=L) ops.size fun m _ hm=>by
       by_cases e:m=i
       ·rw [e] at hm; rw [hm] at hd; cases hd
       ·have:(m==i)=false:=by simpa using e
        rw [this,Bool.or_false]]
      have hne:o.dst≠some t:=by
       intro e;rw [←c3] at e;unfold nO at hd;rw [h1] at hd;simp [e] at hd
      have:(a1.put o.dst v).tmps.getD t undef=a1.tmps.getD t undef:=by
       cases hod:o.dst with
       | none=>rfl
       | some d=>
        have:d≠t:=fun e=>hne (by rw [hod,e])
        simp only [Act.put,Array.getD_eq_getD_getElem?,Array.getElem?_setIfInBounds_ne this]
      rw [this];exact (hv1 t).mono hj2
    have fin:∀ (j2:J) (v:Value) (w2:World),j1.le j2→RV μ j2 (vs i) v→Rel μ B w0 j2 (S (wM l0 L 0+x0.c.acts.toNat)) w2→K (a1.put o.dst v) w2:=by
     intro j2 v w2 hj2 hv hr2;refine hK _ _ ⟨j2,hj1.trans hj2,by rw [jEx]; exact hn1,by rw [aA]; exact hd1,by rw [hcnt]; exact hr2,hval j2 v hj2 hv⟩
    have hacts:x0.c.acts=true→wM l0 L 0=ks i:=by
     intro ha;rw [hkst i (by omega)]
     refine mH l0 0 fun q y hy hya=>?_;rw [Nat.zero_add];rcases Nat.lt_trichotomy q i with hlt | rfl | hgt
     ·rw [show decide (q<i)=true by simpa using hlt]
      cases hLq:L q with
      | true=>rfl
      | false=>
       have:=(earlier q hlt hLq y hy).1;rw [hya,ha] at this;cases this
     ·rw [hLi]; simp
     ·rw [show decide (q<i)=false by simp; omega]
      cases hLq:L q with
      | false=>rfl
      | true=>
       have:=(later q hgt hLq y hy).1;rw [hya,ha] at this;cases this
    obtain ⟨_,_,hst⟩:=hstep i x h2;unfold wpOp;rw [ho];simp only;rcases hst with ⟨hw,hst⟩ | ⟨hw,hvu,hoff⟩
    ·rw [if_pos (eQ c2 rfl ht1 (by rw [hwant]; exact hw))]
     left;rcases hst with ⟨ha,hex⟩ | ⟨ha,⟨σ1,hex⟩,hstab⟩
     ·have ha0:x0.c.acts=true:=by rw [←h4]; exact ha
      have hk:=hacts ha0;refine jKa hμ (hk ▸ hr1) ht1 hcall c1 (by rw [hexec]; exact hex) K Q fun j2 v w2 hj2 hv hr2=>fin j2 v w2 hj2 hv ?_
      rw [hk,ha0]; exact hr2
     ·have ha0:x0.c.acts=false:=by rw [←h4]; exact ha
      have hsame:yE call x.c (τs i) (S (wM l0 L 0))=some (vs i,S (wM l0 L 0)):=by
       cases hrd:x.c.reads with
       | false=>exact (qBr hex ha hrd).2 _
       | true=>
        have hrd0:x0.c.reads=true:=by rw [←h4]; exact hrd
        refine (jRi hex hrd).2 _ (hstab _ _ (h8 hrd0) _ ?_ ?_ ?_)
        ·rw [jVd];exact fU l0 0 fun q y _ _ hb=>by rw [Nat.zero_add] at hb ⊢; exact hbits q hb
        ·rw [jUv i ms l0 ms 0 rfl hlenms];refine fU l0 0 fun q y hy _ hLq=>?_;rw [Nat.zero_add] at hLq ⊢;obtain ⟨mm,hmm⟩:∃ mm,ms[q]?=some mm:=⟨ms[q]'(by rw [←hlenms]; exact (List.getElem?_eq_some_iff.1 hy).1),List.getElem?_eq_getElem _⟩
         rw [List.getD_eq_getElem?_getD,hmm,Option.getD_some];cases hb:bit mm i with
         | false=>rfl
         | true=>rw [hdown _ _ _ hLq hmm hb] at hLi; cases hLi
        ·have hkn:=hkst ops.size (Nat.le_refl _);rw [kn] at hkn;rw [hkn];refine fU l0 0 fun q y hy _ _=>?_;have:=(List.getElem?_eq_some_iff.1 hy).1;simp; omega
      refine jKa hμ hr1 ht1 hcall c1 (by rw [hexec]; exact hsame) K Q fun j2 v w2 hj2 hv hr2=>fin j2 v w2 hj2 hv ?_
      rw [ha0]; exact hr2
    ·rw [if_neg (by rw [eQ c2 rfl ht1 (by rw [hwant]; exact hw)]; simp)]
     refine fin j1 undef w1 (J.le.refl _) (by rw [hvu]; exact ⟨#[],rfl,rfl⟩) ?_
     cases ha:x0.c.acts with
     | false=>exact hr1
     | true=>
      have hk:=hacts ha;have hSS:=hoff (by rw [h4]; exact ha)
      rw [hk] at hr1 ⊢;show Rel μ B w0 j1 (S (ks i+1)) w1;rw [hSS]; exact hr1
   have main:∀ (fuel:Nat) (listed:Array Bool) (a1:Act) (w1:World),listed.size=ops.size→unl (fun q=>listed.getD q false) ops.size≤fuel→Inv (fun q=>listed.getD q false) a1 w1→Down (fun q=>listed.getD q false)→wpAny P .any ops Q fuel listed a1 w1:=by
    -- where nothing is ready,all have come up
    have alldone:∀ listed:Array Bool,listed.size=ops.size→Region.ready .any ops listed=[]→∀ i,i<ops.size→listed.getD i false=true:=by
     intro listed hsz hnil i
     induction i using Nat.strongRecOn with
     | ind i ih=>
      intro hi;cases hLi:listed.getD i false with
      | true=>rfl
      | false=>
       have hmem:i∈Region.ready .any ops listed:=by
        rw [mem_ready];refine ⟨?_,ops[i],Array.getElem?_eq_getElem hi,fun e he hb=>?_⟩
        ·have:i<listed.size:=by omega
         simp only [Array.getD_eq_getD_getElem?,Array.getElem?_eq_getElem this,Option.getD_some] at hLi ⊢;exact hLi
        ·have:=jMz ops.toList 0 hedge i ops[i] (by simp [hi]) e (by simpa using he) hb
         exact ih e.on (by omega) (by omega)
       rw [hnil] at hmem;cases hmem
    have finish:∀ (listed:Array Bool) (a1:Act) (w1:World),(∀ i,i<ops.size→listed.getD i false=true)→Inv (fun q=>listed.getD q false) a1 w1→Q .normal a1 w1:=by
     intro listed a1 w1 hall ⟨j1,hj1,hn1,hd1,hr1,hv1⟩;have hcn:wM l0 (fun q=>listed.getD q false) 0=N:=by
      rw [←kn,hkst ops.size (Nat.le_refl _)];refine mH l0 0 fun q y hy _=>?_;have hq':q<ops.size:=by rw [←hn0]; exact (List.getElem?_eq_some_iff.1 hy).1
      rw [Nat.zero_add,hall q hq'];simpa using hq'
     rw [hcn] at hr1;rw [←hσ'] at hr1;refine hq j1 a1 w1 hj1 (fun t=>?_) hr1 hn1 hd1;rw [←en,jFx e0 hdst ops.size (by omega)]
     rw [←sN (L:=fun q=>listed.getD q false) ops.size fun m hm _=>hall m hm];exact hv1 t
    intro fuel
    induction fuel with
    | zero=>
     intro listed a1 w1 hsz hun hinv hdown;have hall:=jQc (L:=fun q=>listed.getD q false) ops.size (by omega)
     refine ⟨?_,finish listed a1 w1 hall hinv⟩;cases hrd:Region.ready .any ops listed with
     | nil=>rfl
     | cons i r=>
      have hmem:i∈Region.ready .any ops listed:=by rw [hrd]; simp
      obtain ⟨h1,o,ho,_⟩:=mem_ready.1 hmem;have hi:i<ops.size:=(Array.getElem?_eq_some_iff.1 ho).1;have:=hall i hi;simp only [Array.getD_eq_getD_getElem?,Array.getElem?_eq_getElem (show i<listed.size by omega),Option.getD_some] at this h1
      rw [h1] at this; cases this
    | succ fuel ih=>
     intro listed a1 w1 hsz hun hinv hdown;refine ⟨fun hnil=>finish listed a1 w1 (alldone listed hsz hnil) hinv,fun i hmem=>?_⟩;obtain ⟨h1,o,ho,h2⟩:=mem_ready.1 hmem;have hi:i<ops.size:=(Array.getElem?_eq_some_iff.1 ho).1;have hLi:listed.getD i false=false:=by
      simp only [Array.getD_eq_getD_getElem?,Array.getElem?_eq_getElem (show i<listed.size by omega),Option.getD_some] at h1 ⊢
      exact h1
     have hset:(fun q=>(listed.setIfInBounds i true).getD q false)=fun q=>listed.getD q false||q==i:=by
      funext q;by_cases e:q=i
      ·subst e;simp only [Array.getD_eq_getD_getElem?,Array.getElem?_setIfInBounds_self_of_lt (show q<listed.size by omega),Option.getD_some,beq_self_eq_true,Bool.or_true]
      ·have e2:(q==i)=false:=by simpa using e
       simp only [Array.getD_eq_getD_getElem?,Array.getElem?_setIfInBounds_ne (Ne.symm e),e2,Bool.or_false]
     refine step (fun q=>listed.getD q false) a1 w1 i o _ hinv hdown hLi ho h2 fun a2 w2 hinv2=>?_;refine ih (listed.setIfInBounds i true) a2 w2 (by simpa using hsz) ?_ (by rw [hset]; exact hinv2) ?_
     ·rw [hset];have:=jWn (L:=fun q=>listed.getD q false) hLi ops.size hi;omega
     ·rw [hset];intro i2 m2 p hL2 hm2 hb2;simp only [Bool.or_eq_true,beq_iff_eq] at hL2 ⊢;left;rcases hL2 with hL2 | rfl
      ·exact hdown i2 m2 p hL2 hm2 hb2
      ·obtain ⟨e,he,hbd,h⟩:=jEc ops.toList [] i2 o m2 (by simpa using ho) (by rw [hmsv]; simpa using hm2) p hb2
       have hLe:=h2 e (by simpa using he) hbd
       rcases h with rfl | ⟨m',hm',hp'⟩
       ·exact hLe
       ·rw [hmsv] at hm';exact hdown _ _ _ hLe hm' hp'
   refine wp_region_any hmix (main ops.size _ a _ (by simp) ?_ ?_ ?_)
   ·have aux:∀ (L:Nat→Bool) (n:Nat),unl L n≤n:=by
     intro L n
     induction n with
     | zero=>exact Nat.le_refl _
     | succ n ih=>
      simp only [unl];have:(!L n).toNat≤1:=Bool.toNat_le _;omega
    exact aux _ _
   ·have hfalse:(fun q=>(Array.replicate ops.size false).getD q false)=fun _=>false:=by
     funext q;simp only [Array.getD_eq_getD_getElem?,Array.getElem?_replicate];split<;>rfl
    rw [hfalse];have hc0:wM l0 (fun _=>false) 0=0:=by
     have aux:∀ (m:List O) (k:Nat),wM m (fun _=>false) k=0:=by
      intro m
      induction m with
      | nil=>intro k; rfl
      | cons y r ih=>intro k; simp only [wM,ih]; simp
     exact aux l0 0
    refine ⟨j,J.le.refl _,hn,rfl,by rw [hc0,hS00]; exact hr.drew,fun t=>?_⟩
    have:dT l0 vs τ (fun _=>false) t ops.size=(X.t t).ev τ:=by
     have:=nB (l:=l0) (vs:=vs) (τ:=τ) (L:=fun _=>false) (t:=t) 0 ops.size fun m _ _=>rfl;rw [Nat.zero_add] at this;exact this
    rw [this];exact ht t
   ·have hfalse:(fun q=>(Array.replicate ops.size false).getD q false)=fun _=>false:=by
     funext q;simp only [Array.getD_eq_getD_getElem?,Array.getElem?_replicate];split<;>rfl
    rw [hfalse];intro i m p h;cases h
  ·cases hc
end
end
end Go.Proofs.YtdlhiljbhepliaaGreatDoor.Ev
