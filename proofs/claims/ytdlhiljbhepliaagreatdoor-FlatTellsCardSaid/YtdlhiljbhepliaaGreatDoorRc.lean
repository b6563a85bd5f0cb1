/-
A checker of the conditions of runs: terms, what is tH, and steps. What they promise is so. No program is named here.
-/
import Derived.Test.YtdlhiljbhepliaaGreatDoorRa
namespace Go.Proofs.YtdlhiljbhepliaaGreatDoor.Ev.Rf
noncomputable section
set_option linter.all false
open Go
def ok (a:An):Prop:=∃ s s',a s = .ok s'
theorem jA {c:Bool} {tag:Nat} {st:Sx} {g:List LT} {r:An} (h:ok (jJ c tag st g r)):c=true∧ok r:=by
 cases c with
 | true=>exact ⟨rfl,h⟩
 | false=>obtain ⟨s,s',h⟩:=h; cases h
theorem jB {tag:Nat} {st:Sx} (h:ok (no1 tag st)):False:=by obtain ⟨s,s',h⟩:=h; cases h
theorem zJ {a b:An} (h:ok (aR a b)):ok a∧ok b:=by
 obtain ⟨s,s',h⟩:=h;unfold aR at h;split at h
 ·rename_i s1 e; exact ⟨⟨_,_,e⟩,⟨_,_,h⟩⟩
 ·cases h
theorem mS {st:Sx} {f:qKs→Nat} {k:Nat→An} (h:ok (pop st f k)):∃ c,ok (k c):=by
 obtain ⟨s,s',h⟩:=h;unfold pop at h;split at h
 ·exact ⟨_,_,_,h⟩
 ·split at h
  ·cases h
  ·exact ⟨_,_,_,h⟩
theorem jVr {k:Nat→An} {s:Tp} {st:Sx}:∀ {l:List An} {i:Nat} {s':Tp},qDz k s st l i = .ok s'→∃ j a,l[j]?=some a∧ok a∧ok (k (i+j))
 | [],i,s',h=>by simp only [qDz] at h; cases h
 | a::r,i,s',h=>by
  simp only [qDz] at h;split at h
  ·rename_i s1 e; exact ⟨0,a,rfl,⟨_,_,e⟩,⟨_,_,h⟩⟩
  ·obtain ⟨j,b,h1,h2,h3⟩:=jVr h;exact ⟨j+1,b,by simpa using h1,h2,by rw [show i+(j+1)=Nat.succ i+j by omega]; exact h3⟩
theorem pE {st:Sx} {l:List An} {k:Nat→An} (h:ok (sel st l k)):∃ j a,l[j]?=some a∧ok a∧ok (k j):=by
 obtain ⟨s,s',h⟩:=h;unfold sel at h;split at h
 ·obtain ⟨j,a,h1,h2,h3⟩:=jVr h;rw [Nat.zero_add] at h3;exact ⟨j,a,h1,h2,h3⟩
 ·split at h
  ·cases h
  ·rw [jZ] at h;split at h
   ·rename_i c r _ _ a e;obtain ⟨h1,h2⟩:=zJ ⟨_,_,h⟩;exact ⟨_,a,e,h1,h2⟩
   ·cases h
theorem zE {b:Bool} {a c:An} (h:ok (bif b then a else c)):(b=true∧ok a)∨(b=false∧ok c):=by cases b; exact .inr ⟨rfl,h⟩; exact .inl ⟨rfl,h⟩
theorem xP {α:Type} (n:Nat) (k:Nat→α):qH n k=k n:=by cases n<;>rfl
theorem yO {α:Type} (n:Int) (k:Int→α):bJ n k=k n:=by
 cases n with
 | ofNat m=>exact xP m (fun m=>k (.ofNat m))
 | negSucc m=>exact xP m (fun m=>k (.negSucc m))
theorem mK {z:Int} (h:geZ z=true):0≤z:=by cases z; exact Int.ofNat_nonneg _; simp [geZ] at h
theorem jUq {z:Int}:geZ z=decide (0≤z):=by
 cases z with
 | ofNat n=>simp [geZ]
 | negSucc n=>simp only [geZ]; exact (decide_eq_false (by omega)).symm
theorem wW {z:Int}:isZ z=decide (z=0):=by
 cases z with
 | ofNat n=>simp only [isZ]; cases n with
  | zero=>rfl
  | succ n=>exact (decide_eq_false (by intro h; cases h)).symm
 | negSucc n=>simp only [isZ]; exact (decide_eq_false (by intro h; cases h)).symm
theorem jJx {a b:Int} (h:eqI a b=true):a=b:=by
 unfold eqI at h;split at h
 ·rw [Nat.eq_of_beq_eq_true h]
 ·rw [Nat.eq_of_beq_eq_true h]
 ·cases h
theorem jNf (ρ:Rho) (v:Nat) (a:Int):∀ l,evL ρ (jNv v a l)=a*(ρ v).z+evL ρ l
 | []=>by simp [jNv,evL]
 | p::r=>by
  simp only [jNv];cases h1:Nat.beq v p.1 with
  | true=>
   have e:=Nat.eq_of_beq_eq_true h1;subst e;simp only [cond_true,yO,wW];by_cases hz:a+p.2=0
   ·simp only [hz,decide_true,cond_true,evL];have:a*(ρ p.1).z+p.2*(ρ p.1).z=0:=by rw [←Int.add_mul,hz,Int.zero_mul]
    omega
   ·simp only [hz,decide_false,cond_false,evL,Int.add_mul]; omega
  | false=>
   simp only [cond_false];cases h2:Nat.blt p.1 v with
   | true=>simp only [cond_true,evL]
   | false=>simp only [cond_false,evL,jNf ρ v a r]; omega
theorem jNe (ρ:Rho):∀ l m,evL ρ (jQs l m)=evL ρ l+evL ρ m
 | [],m=>by simp [jQs,evL]
 | p::r,m=>by simp only [jQs,jNf,jNe ρ r m,evL]; omega
theorem jHk (ρ:Rho) (k:Int):∀ l,evL ρ (jFn k l)=k*evL ρ l
 | []=>by simp [jFn,evL]
 | p::r=>by simp only [jFn,yO,evL,jHk ρ k r,Int.mul_add,Int.mul_assoc]
@[simp] theorem qR (ρ:Rho) (c:Int):(LT.con c).ev ρ=c:=by simp [LT.con,LT.ev,evL]
@[simp] theorem qC (ρ:Rho) (v:Nat):(LT.var v).ev ρ=(ρ v).z:=by simp [LT.var,LT.ev,evL]
@[simp] theorem yA (ρ:Rho) (s t:LT):(s.add t).ev ρ=s.ev ρ+t.ev ρ:=by simp only [LT.add,yO,LT.ev,jNe]; omega
@[simp] theorem vZ (ρ:Rho) (k:Int) (t:LT):(t.smul k).ev ρ=k*t.ev ρ:=by
 unfold LT.smul;rw [wW];by_cases h:k=0
 ·subst h; simp [LT.ev,evL]
 ·simp only [h,decide_false,cond_false,yO,LT.ev,jHk,Int.mul_add]
@[simp] theorem jT (ρ:Rho) (s t:LT):(s.sub t).ev ρ=s.ev ρ - t.ev ρ:=by simp only [LT.sub,yA,vZ]; omega
@[simp] theorem jF (ρ:Rho) (k:Int) (t:LT):(t.addc k).ev ρ=t.ev ρ+k:=by simp only [LT.addc,yO,LT.ev]; omega
@[simp] theorem qY (ρ:Rho) (t:LT):(t.neg).ev ρ = - t.ev ρ:=by simp only [LT.neg,vZ]; omega
@[simp] theorem qBq (ρ:Rho) (t:LT):(t.not).ev ρ = - t.ev ρ - 1:=by simp only [LT.not,vZ,jF]; omega
theorem jTu:∀ {l m:List (Nat×Int)},jXk l m=true→l=m
 | [],[],_=>rfl
 | [],_::_,h=>by simp [jXk] at h
 | _::_,[],h=>by simp [jXk] at h
 | p::r,q::s,h=>by
  simp only [jXk,Bool.and_eq_true] at h;obtain ⟨h1,h2,h3⟩:=h;obtain ⟨a,b⟩:=p;obtain ⟨c,d⟩:=q;have e1:=Nat.eq_of_beq_eq_true h1;have e2:=jJx h2;dsimp only at e1 e2;subst e1; subst e2;rw [jTu h3]
theorem LT.beq_ok {s t:LT} (h:s.beq t=true):s=t:=by
 simp only [LT.beq,Bool.and_eq_true] at h;obtain ⟨a,b⟩:=s;obtain ⟨c,d⟩:=t;have e1:=jJx h.1;have e2:=jTu h.2;dsimp only at e1 e2;subst e1; subst e2; rfl
theorem wC {t:LT} (h:t.isC=true) (ρ:Rho):t.ev ρ=t.c:=by
 unfold LT.isC at h;split at h
 ·rename_i e; simp only [LT.ev,e,evL,Int.add_zero]
 ·cases h
theorem qBj {ρ:Rho} {a b:Int} {t f u:LT} (h:qBi a b t f=some u) (hf:0≤f.ev ρ) (hu:0≤u.ev ρ):0≤t.ev ρ:=by
 have key:∀ (k m:Nat),0≤(Int.ofNat (k+1))*t.ev ρ+(Int.negSucc m)*f.ev ρ→0≤t.ev ρ:=by
  intro k m q;have h1:(Int.negSucc m)*f.ev ρ≤0:=by
   have:=Int.mul_nonneg (show (0:Int)≤(m+1:Int) by omega) hf
   have e:(Int.negSucc m)*f.ev ρ = - ((m+1:Int)*f.ev ρ):=by
    rw [show Int.negSucc m = - ((m:Int)+1) from Int.negSucc_eq m,Int.neg_mul]
   omega
  have h2:0≤(Int.ofNat (k+1))*t.ev ρ:=by omega
  by_cases hn:0≤t.ev ρ
  ·exact hn
  ·exfalso;have:(Int.ofNat (k+1))*t.ev ρ<0:=Int.mul_neg_of_pos_of_neg (by show (0:Int)<((k+1:Nat):Int); omega) (by omega)
   omega
 unfold qBi at h;split at h
 ·split at h
  ·cases h
  ·cases h
  ·cases h;simp only [yA,vZ] at hu;exact key _ _ hu
 ·cases h;simp only [yA,vZ] at hu;exact key _ _ hu
 ·cases h
theorem jRb {ρ:Rho} {F:List LT} (hF:∀ f,f∈F→0≤f.ev ρ):∀ {n c:Nat} {t:LT},chk F n c t=true→0≤t.ev ρ
 | 0,c,t,h=>by simp [chk] at h
 | n+1,c,t,h=>by
  simp only [chk] at h;split at h
  ·rename_i e; have:=mK h; simp only [LT.ev,e,evL]; omega
  ·rw [jZ] at h;split at h
   ·rename_i f e;split at h
    ·rename_i u hu;exact qBj hu (hF f (List.mem_of_getElem? e)) (jRb hF h)
    ·cases h
   ·cases h
theorem jHj {ρ ρ':Rho} {n:Nat} (ag:∀ k,k<n→ρ' k=ρ k):∀ {l:List (Nat×Int)},scL n l=true→evL ρ' l=evL ρ l
 | [],_=>rfl
 | p::r,h=>by
  simp only [scL,Bool.and_eq_true] at h;simp only [evL,ag p.1 (Nat.le_of_ble_eq_true h.1),jHj ag h.2]
theorem jI {ρ ρ':Rho} {n:Nat} (ag:∀ k,k<n→ρ' k=ρ k) {t:LT} (h:t.sc n=true):t.ev ρ'=t.ev ρ:=by simp only [LT.ev,jHj ag h]
theorem jPi {n v:Nat} {a:Int} (hv:v<n):∀ {l:List (Nat×Int)},scL n l=true→scL n (jNv v a l)=true
 | [],_=>by simp only [jNv,scL,Bool.and_true]; exact Nat.ble_eq_true_of_le hv
 | p::r,h=>by
  simp only [scL,Bool.and_eq_true] at h;simp only [jNv];cases h1:Nat.beq v p.1 with
  | true=>
   simp only [cond_true,yO];cases isZ (a+p.2) with
   | true=>exact h.2
   | false=>simp only [cond_false,scL,Bool.and_eq_true]; exact ⟨Nat.ble_eq_true_of_le hv,h.2⟩
  | false=>
   simp only [cond_false];cases h2:Nat.blt p.1 v with
   | true=>simp only [cond_true,scL,Bool.and_eq_true]; exact ⟨Nat.ble_eq_true_of_le hv,h.1,h.2⟩
   | false=>simp only [cond_false,scL,Bool.and_eq_true]; exact ⟨h.1,jPi hv h.2⟩
theorem jPh {n:Nat}:∀ {l m:List (Nat×Int)},scL n l=true→scL n m=true→scL n (jQs l m)=true
 | [],m,_,h=>h
 | p::r,m,h,k=>by
  simp only [scL,Bool.and_eq_true] at h;simp only [jQs];exact jPi (Nat.le_of_ble_eq_true h.1) (jPh h.2 k)
theorem jIq {n:Nat} {k:Int}:∀ {l:List (Nat×Int)},scL n l=true→scL n (jFn k l)=true
 | [],_=>rfl
 | p::r,h=>by
  simp only [scL,Bool.and_eq_true] at h;simp only [jFn,yO,scL,Bool.and_eq_true];exact ⟨h.1,jIq h.2⟩
theorem jPj {n m:Nat} (h:n≤m):∀ {l:List (Nat×Int)},scL n l=true→scL m l=true
 | [],_=>rfl
 | p::r,k=>by
  simp only [scL,Bool.and_eq_true] at k ⊢;exact ⟨Nat.ble_eq_true_of_le (Nat.le_trans (Nat.le_of_ble_eq_true k.1) h),jPj h k.2⟩
theorem xT {n:Nat} (c:Int):(LT.con c).sc n=true:=rfl
theorem fJ {n v:Nat} (h:v<n):(LT.var v).sc n=true:=by simp only [LT.var,LT.sc,scL,Bool.and_true]; exact Nat.ble_eq_true_of_le h
theorem qMk {n:Nat} {s t:LT} (h:s.sc n=true) (k:t.sc n=true):(s.add t).sc n=true:=by simp only [LT.add,yO,LT.sc]; exact jPh h k
theorem jBw {n:Nat} {k:Int} {t:LT} (h:t.sc n=true):(t.smul k).sc n=true:=by
 unfold LT.smul;cases isZ k with
 | true=>rfl
 | false=>simp only [cond_false,yO,LT.sc]; exact jIq h
theorem pM {n:Nat} {s t:LT} (h:s.sc n=true) (k:t.sc n=true):(s.sub t).sc n=true:=qMk h (jBw k)
theorem oW {n:Nat} {t:LT} (h:t.sc n=true):(t.neg).sc n=true:=jBw h
theorem kB {n:Nat} {k:Int} {t:LT} (h:t.sc n=true):(t.addc k).sc n=true:=by simp only [LT.addc,yO,LT.sc]; exact h
theorem jE {n m:Nat} (h:n≤m) {t:LT} (k:t.sc n=true):t.sc m=true:=jPj h k
theorem Gn.agree {ρ ρ':Rho} {n:Nat} (ag:∀ k,k<n→ρ' k=ρ k) {g:Gn} (h:g.sc n=true):g.den ρ'=g.den ρ:=by
 obtain ⟨v,o⟩:=g;cases v with
 | zero=>rfl
 | succ j=>simp only [Gn.den]; rw [ag j (Nat.le_of_ble_eq_true h)]
theorem Gn.mono {n m:Nat} (h:n≤m) {g:Gn} (k:g.sc n=true):g.sc m=true:=Nat.ble_eq_true_of_le (Nat.le_trans (Nat.le_of_ble_eq_true k) h)
mutual
theorem SX.agree {ρ ρ':Rho} {n:Nat} (ag:∀ k,k<n→ρ' k=ρ k):∀ {x:SX},x.sc n=true→x.den ρ'=x.den ρ
 | .b _,_=>rfl
 | .bv t,h=>by simp only [SX.den,jI ag (t:=t) h]
 | .i k t,h=>by simp only [SX.den,jI ag (t:=t) h]
 | .s a c,h=>by simp only [SX.sc,Bool.and_eq_true] at h; simp only [SX.den,jI ag h.1,jI ag h.2]
 | .p0,_=>rfl
 | .sl0,_=>rfl
 | .tp i g o,h=>by simp only [SX.den,Gn.agree ag (g:=g) h]
 | .te i g k o,h=>by simp only [SX.sc,Bool.and_eq_true] at h; simp only [SX.den,Gn.agree ag h.1,jI ag h.2]
 | .ts i g k o,h=>by simp only [SX.sc,Bool.and_eq_true] at h; simp only [SX.den,Gn.agree ag h.1,jI ag h.2]
 | .q T r k,h=>by simp only [SX.sc,Bool.and_eq_true] at h; simp only [SX.den,jI ag h.1,jI ag h.2]
 | .qp T r o,h=>by simp only [SX.den,jI ag (t:=r) h]
 | .qs j,h=>by simp only [SX.den,ag j (Nat.le_of_ble_eq_true h)]
 | .xs a c,h=>by simp only [SX.sc,Bool.and_eq_true] at h; simp only [SX.den,jI ag h.1,jI ag h.2]
 | .f fn a c,h=>by simp only [SX.sc,Bool.and_eq_true] at h; simp only [SX.den,xN ag h.1,xN ag h.2]
 | .agg l,h=>by simp only [SX.den,xN ag (l:=l) h]
 | .tup l,h=>by simp only [SX.den,xN ag (l:=l) h]
 | .fis t,h=>by simp only [SX.den,jI ag (t:=t) h]
 | .fqs,_=>rfl
theorem xN {ρ ρ':Rho} {n:Nat} (ag:∀ k,k<n→ρ' k=ρ k):∀ {l:List SX},scs n l=true→jR ρ' l=jR ρ l
 | [],_=>rfl
 | x::l,h=>by simp only [scs,Bool.and_eq_true] at h; simp only [jR,SX.agree ag h.1,xN ag h.2]
end
mutual
theorem SX.mono {n m:Nat} (h:n≤m):∀ {x:SX},x.sc n=true→x.sc m=true
 | .b _,_=>rfl
 | .bv t,k=>jE h k
 | .i _ t,k=>jE h k
 | .s a c,k=>by simp only [SX.sc,Bool.and_eq_true] at k ⊢; exact ⟨jE h k.1,jE h k.2⟩
 | .p0,_=>rfl
 | .sl0,_=>rfl
 | .tp i g o,k=>Gn.mono h k
 | .te i g j o,k=>by simp only [SX.sc,Bool.and_eq_true] at k ⊢; exact ⟨Gn.mono h k.1,jE h k.2⟩
 | .ts i g j o,k=>by simp only [SX.sc,Bool.and_eq_true] at k ⊢; exact ⟨Gn.mono h k.1,jE h k.2⟩
 | .q T r j,k=>by simp only [SX.sc,Bool.and_eq_true] at k ⊢; exact ⟨jE h k.1,jE h k.2⟩
 | .qp T r o,k=>jE h k
 | .qs j,k=>Nat.ble_eq_true_of_le (Nat.le_trans (Nat.le_of_ble_eq_true k) h)
 | .xs a c,k=>by simp only [SX.sc,Bool.and_eq_true] at k ⊢; exact ⟨jE h k.1,jE h k.2⟩
 | .f fn a c,k=>by simp only [SX.sc,Bool.and_eq_true] at k ⊢; exact ⟨yV h k.1,yV h k.2⟩
 | .agg l,k=>yV h k
 | .tup l,k=>yV h k
 | .fis t,k=>jE h k
 | .fqs,_=>rfl
theorem yV {n m:Nat} (h:n≤m):∀ {l:List SX},scs n l=true→scs m l=true
 | [],_=>rfl
 | x::l,k=>by simp only [scs,Bool.and_eq_true] at k ⊢; exact ⟨SX.mono h k.1,yV h k.2⟩
end
theorem HCX.agree {ρ ρ':Rho} {n:Nat} (ag:∀ k,k<n→ρ' k=ρ k) {c:HCX} (h:c.sc n=true):c.den ρ'=c.den ρ:=by
 cases c with
 | l m=>simp only [HCX.den,xN ag (l:=m) h]
 | r T R k=>simp only [HCX.sc,Bool.and_eq_true] at h; simp only [HCX.den,jI ag h.1,jI ag h.2]
 | xs j=>simp only [HCX.den,ag j (Nat.le_of_ble_eq_true h)]
 | rl T R k m=>simp only [HCX.sc,Bool.and_eq_true] at h; simp only [HCX.den,jI ag h.1,jI ag h.2.1,xN ag (l:=m) h.2.2]
 | dead=>rfl
theorem HCX.mono {n m:Nat} (h:n≤m) {c:HCX} (k:c.sc n=true):c.sc m=true:=by
 cases c with
 | l l=>exact yV h k
 | r T R j=>simp only [HCX.sc,Bool.and_eq_true] at k ⊢; exact ⟨jE h k.1,jE h k.2⟩
 | xs j=>exact Nat.ble_eq_true_of_le (Nat.le_trans (Nat.le_of_ble_eq_true k) h)
 | rl T R j m=>simp only [HCX.sc,Bool.and_eq_true] at k ⊢; exact ⟨jE h k.1,jE h k.2.1,yV h k.2.2⟩
 | dead=>rfl
theorem xM {ρ ρ':Rho} {n:Nat} (ag:∀ k,k<n→ρ' k=ρ k):∀ {H:List HX},scH n H=true→denH ρ' H=denH ρ H
 | [],_=>rfl
 | x::l,h=>by
  simp only [scH,Bool.and_eq_true] at h;have:=xM ag h.2.2;simp only [denH,List.map_cons,HX.den,Gn.agree ag h.1,HCX.agree ag h.2.1] at this ⊢;rw [this]
theorem vW {n m:Nat} (h:n≤m):∀ {H:List HX},scH n H=true→scH m H=true
 | [],_=>rfl
 | x::l,k=>by simp only [scH,Bool.and_eq_true] at k ⊢; exact ⟨Gn.mono h k.1,HCX.mono h k.2.1,vW h k.2.2⟩
theorem uR {ρ ρ':Rho} {n:Nat} (ag:∀ k,k<n→ρ' k=ρ k):∀ {E:EX},scE n E=true→denE ρ' E=denE ρ E
 | [],_=>rfl
 | x::l,h=>by simp only [scE,Bool.and_eq_true] at h; simp only [denE,SX.agree ag h.1,uR ag h.2]
theorem iN {n m:Nat} (h:n≤m):∀ {E:EX},scE n E=true→scE m E=true
 | [],_=>rfl
 | x::l,k=>by simp only [scE,Bool.and_eq_true] at k ⊢; exact ⟨SX.mono h k.1,iN h k.2⟩
theorem iO {n:Nat}:∀ {l:List LT},scF n l=true↔∀ t,t∈l→t.sc n=true
 | []=>by simp [scF]
 | x::l=>by simp [scF,Bool.and_eq_true,iO (l:=l)]
theorem jBu {n:Nat}:∀ {l:List TE},scB n l=true↔∀ t,t∈l→t.sc n=true
 | []=>by simp [scB]
 | x::l=>by simp [scB,Bool.and_eq_true,jBu (l:=l)]
theorem sJ {n:Nat}:∀ {l:List SX},scs n l=true↔∀ t,t∈l→t.sc n=true
 | []=>by simp [scs]
 | x::l=>by simp [scs,Bool.and_eq_true,sJ (l:=l)]
def TE.holds (G:Nat→List SV→SV→Prop) (ρ:Rho):TE→Prop
 | .by_ c t r=>byZ (c.ev ρ).toNat (t.ev ρ)=r.ev ρ
 | .el j t n c=>(ρ j).l[(t.ev ρ).toNat]?=some ((n.ev ρ).toNat,(c.ev ρ).toNat)
 | .ln j n m=>((ρ j).l.length:Int)=n.ev ρ∧∀ p,p∈(ρ j).l→(p.1:Int)≤m.ev ρ
 | .ca f a r=>G f (jR ρ a) (r.den ρ)
 | .dv a b q=>a.ev ρ / b=q.ev ρ
 | .ng g c a b=>g.ev ρ=2→∀ k:Int,a.ev ρ≤k→k<b.ev ρ→byZ (c.ev ρ).toNat k≠10
theorem TE.agree {G:Nat→List SV→SV→Prop} {ρ ρ':Rho} {n:Nat} (ag:∀ k,k<n→ρ' k=ρ k) {t:TE} (h:t.sc n=true):t.holds G ρ'↔t.holds G ρ:=by
 cases t with
 | by_ c i r=>simp only [TE.sc,Bool.and_eq_true] at h; simp only [TE.holds,jI ag h.1,jI ag h.2.1,jI ag h.2.2]
 | el j i a c=>simp only [TE.sc,Bool.and_eq_true] at h; simp only [TE.holds,ag j (Nat.le_of_ble_eq_true h.1),jI ag h.2.1,jI ag h.2.2.1,jI ag h.2.2.2]
 | ln j a m=>simp only [TE.sc,Bool.and_eq_true] at h; simp only [TE.holds,ag j (Nat.le_of_ble_eq_true h.1),jI ag h.2.1,jI ag h.2.2]
 | ca f a r=>simp only [TE.sc,Bool.and_eq_true] at h; simp only [TE.holds,xN ag h.1,SX.agree ag h.2]
 | dv a b q=>simp only [TE.sc,Bool.and_eq_true] at h; simp only [TE.holds,jI ag h.1,jI ag h.2]
 | ng g c a b=>simp only [TE.sc,Bool.and_eq_true] at h; simp only [TE.holds,jI ag h.1,jI ag h.2.1,jI ag h.2.2.1,jI ag h.2.2.2]
theorem TE.mono {n m:Nat} (h:n≤m) {t:TE} (k:t.sc n=true):t.sc m=true:=by
 have lt:∀ {j:Nat},Nat.blt j n=true→Nat.blt j m=true:=fun k=>Nat.ble_eq_true_of_le (Nat.le_trans (Nat.le_of_ble_eq_true k) h);cases t with
 | by_ c i r=>simp only [TE.sc,Bool.and_eq_true] at k ⊢; exact ⟨jE h k.1,jE h k.2.1,jE h k.2.2⟩
 | el j i a c=>simp only [TE.sc,Bool.and_eq_true] at k ⊢; exact ⟨lt k.1,jE h k.2.1,jE h k.2.2.1,jE h k.2.2.2⟩
 | ln j a m=>simp only [TE.sc,Bool.and_eq_true] at k ⊢; exact ⟨lt k.1,jE h k.2.1,jE h k.2.2⟩
 | ca f a r=>simp only [TE.sc,Bool.and_eq_true] at k ⊢; exact ⟨yV h k.1,SX.mono h k.2⟩
 | dv a b q=>simp only [TE.sc,Bool.and_eq_true] at k ⊢; exact ⟨jE h k.1,jE h k.2⟩
 | ng g c a b=>simp only [TE.sc,Bool.and_eq_true] at k ⊢; exact ⟨jE h k.1,jE h k.2.1,jE h k.2.2.1,jE h k.2.2.2⟩
structure Inv (G:Nat→List SV→SV→Prop) (ρ:Rho) (st:Sx):Prop where
 e:scE st.n st.E=true
 h:scH st.n st.H=true
 f:∀ t,t∈st.F→t.sc st.n=true
 n:∀ t,t∈st.N→t.sc st.n=true
 b:∀ t,t∈st.B→t.sc st.n=true
 F:∀ t,t∈st.F→0≤t.ev ρ
 N:∀ t,t∈st.N→t.ev ρ≠0
 B:∀ t,t∈st.B→t.holds G ρ
structure Nx (G:Nat→List SV→SV→Prop) (ρ:Rho) (st:Sx) (ρ':Rho) (st':Sx):Prop where
 n:st.n≤st'.n
 ag:∀ k,k<st.n→ρ' k=ρ k
 E:st'.E=st.E
 H:st'.H=st.H
 inv:Inv G ρ' st'
section
variable {G:Nat→List SV→SV→Prop} {ρ ρ' ρ2:Rho} {st st' st2:Sx}
theorem Nx.refl (h:Inv G ρ st):Nx G ρ st ρ st:=⟨Nat.le_refl _,fun _ _=>rfl,rfl,rfl,h⟩
theorem Nx.trans (h:Nx G ρ st ρ' st') (k:Nx G ρ' st' ρ2 st2):Nx G ρ st ρ2 st2:=
 ⟨Nat.le_trans h.n k.n,fun j hj=>(k.ag j (Nat.lt_of_lt_of_le hj h.n)).trans (h.ag j hj),k.E.trans h.E,k.H.trans h.H,k.inv⟩
theorem Nx.sx (h:Nx G ρ st ρ' st') {x:SX} (k:x.sc st.n=true):x.den ρ'=x.den ρ:=SX.agree h.ag k
theorem Nx.lt (h:Nx G ρ st ρ' st') {x:LT} (k:x.sc st.n=true):x.ev ρ'=x.ev ρ:=jI h.ag k
theorem Nx.denE (h:Nx G ρ st ρ' st') (hi:Inv G ρ st):denE ρ' st'.E=denE ρ st.E:=by rw [h.E]; exact uR h.ag hi.e
theorem Nx.denH (h:Nx G ρ st ρ' st') (hi:Inv G ρ st):denH ρ' st'.H=denH ρ st.H:=by rw [h.H]; exact xM h.ag hi.h
theorem Inv.addF (h:Inv G ρ st) {t:LT} (hs:t.sc st.n=true) (hp:0≤t.ev ρ):Nx G ρ st ρ (st.addF t):=
 ⟨Nat.le_refl _,fun _ _=>rfl,rfl,rfl,h.e,h.h,fun x hx=>by rcases List.mem_cons.1 hx with rfl | hx; exact hs; exact h.f x hx,h.n,h.b,fun x hx=>by rcases List.mem_cons.1 hx with rfl | hx; exact hp; exact h.F x hx,h.N,h.B⟩
theorem Inv.addN (h:Inv G ρ st) {t:LT} (hs:t.sc st.n=true) (hp:t.ev ρ≠0):Nx G ρ st ρ (st.addN t):=
 ⟨Nat.le_refl _,fun _ _=>rfl,rfl,rfl,h.e,h.h,h.f,fun x hx=>by rcases List.mem_cons.1 hx with rfl | hx; exact hs; exact h.n x hx,h.b,h.F,fun x hx=>by rcases List.mem_cons.1 hx with rfl | hx; exact hp; exact h.N x hx,h.B⟩
theorem Inv.addB (h:Inv G ρ st) {t:TE} (hs:t.sc st.n=true) (hp:t.holds G ρ):Nx G ρ st ρ (st.addB t):=
 ⟨Nat.le_refl _,fun _ _=>rfl,rfl,rfl,h.e,h.h,h.f,h.n,fun x hx=>by rcases List.mem_cons.1 hx with rfl | hx; exact hs; exact h.b x hx,h.F,h.N,fun x hx=>by rcases List.mem_cons.1 hx with rfl | hx; exact hp; exact h.B x hx⟩
theorem Inv.addFs (h:Inv G ρ st):∀ {l:List LT},(∀ t,t∈l→t.sc st.n=true∧0≤t.ev ρ)→Nx G ρ st ρ (addFs st l)
 | [],_=>Nx.refl h
 | t::r,k=>by
  have h1:=Inv.addFs h (l:=r) fun t ht=>k t (List.mem_cons_of_mem _ ht);obtain ⟨k1,k2⟩:=k t (List.mem_cons_self ..);exact h1.trans (h1.inv.addF (jE h1.n k1) k2)
def Rho.set (ρ:Rho) (n:Nat) (x:Rv):Rho:=fun k=>if k=n then x else ρ k
theorem Inv.up (h:Inv G ρ st) {ρ':Rho} {m:Nat} (hm:st.n≤m) (ag:∀ k,k<st.n→ρ' k=ρ k):Nx G ρ st ρ' (st.up m):=
 ⟨hm,ag,rfl,rfl,iN hm h.e,vW hm h.h,fun t ht=>jE hm (h.f t ht),fun t ht=>jE hm (h.n t ht),fun t ht=>TE.mono hm (h.b t ht),
  fun t ht=>by rw [jI ag (h.f t ht)]; exact h.F t ht,fun t ht=>by rw [jI ag (h.n t ht)]; exact h.N t ht,fun t ht=>(TE.agree ag (h.b t ht)).2 (h.B t ht)⟩
theorem zU {k:LT→Sx→An} (h:ok (fresh st k)) (hi:Inv G ρ st) (x:Rv):Nx G ρ st (ρ.set st.n x) (st.up (st.n+1))∧(ρ.set st.n x) st.n=x∧ok (k (.var st.n) (st.up (st.n+1))):=by
 unfold fresh at h;rw [xP] at h;exact ⟨hi.up (Nat.le_succ _) fun k hk=>by unfold Rho.set; rw [if_neg (by omega)],by simp [Rho.set],h⟩
theorem jD {t:LT} {r:An} (h:ok (ask st t r)) (hi:Inv G ρ st):0≤t.ev ρ∧ok r:=by
 unfold ask at h;split at h
 ·rename_i e;obtain ⟨h1,h2⟩:=jA h;have:=mK h1;exact ⟨by simp only [LT.ev,e,evL]; omega,h2⟩
 ·obtain ⟨c,h⟩:=mS h;obtain ⟨h1,h2⟩:=jA h;exact ⟨jRb hi.F h1,h2⟩
theorem aN:∀ {l:List LT} {r:An},ok (jQv st l r)→Inv G ρ st→(∀ t,t∈l→0≤t.ev ρ)∧ok r
 | [],r,h,hi=>⟨fun t ht=>(by cases ht),h⟩
 | t::l,r,h,hi=>by
  obtain ⟨h1,h2⟩:=jD (r:=jQv st l r) h hi;obtain ⟨h3,h4⟩:=aN h2 hi;exact ⟨fun x hx=>by rcases List.mem_cons.1 hx with rfl | hx; exact h1; exact h3 x hx,h4⟩
theorem jQx {k:Sx→An}:∀ {n c:Nat} {t:LT},ok (jBc st t k n c)→Inv G ρ st→0≤t.ev ρ→∃ st',Nx G ρ st ρ st'∧ok (k st'):=by
 intro n
 induction n with
 | zero=>
  intro c t h hi hp;obtain ⟨h1,h2⟩:=jA h;exact ⟨_,hi.addF h1 hp,h2⟩
 | succ n ih=>
  intro c t h hi hp;simp only [jBc] at h;split at h
  ·obtain ⟨h1,h2⟩:=jA h;exact ⟨_,hi.addF h1 hp,h2⟩
  ·exact ⟨st,Nx.refl hi,h⟩
  ·obtain ⟨h1,_⟩:=jA h;have:=jRb hi.F h1;rw [qBq] at this;omega
  ·rw [jZ] at h;split at h
   ·rename_i d hd;obtain ⟨h1,h2⟩:=jA h;have hn:=hi.N d (List.mem_of_getElem? hd);obtain ⟨c',h2⟩:=mS h2;have ht:t.ev ρ≠0:=by
     rw [Bool.or_eq_true] at h1;rcases h1 with h1 | h1
     ·rw [←LT.beq_ok h1]; exact hn
     ·have:=LT.beq_ok h1;rw [←this,qY]; omega
    exact ih h2 hi (by rw [jF]; omega)
   ·exact (jB h).elim
theorem qK {k:Sx→An} {t:LT} (h:ok (xZ st t k)) (hi:Inv G ρ st) (hp:0≤t.ev ρ):∃ st',Nx G ρ st ρ st'∧ok (k st'):=by
 unfold xZ at h;split at h
 ·rename_i e;rw [jUq] at h;have:0≤t.c:=by simp only [LT.ev,e,evL] at hp; omega
  rw [decide_eq_true this] at h;exact ⟨st,Nx.refl hi,h⟩
 ·obtain ⟨c,h⟩:=mS h;exact jQx h hi hp
theorem jAd {k:Bool→Sx→An} {t:LT} (h:ok (xge st t k)) (hi:Inv G ρ st):∃ st',Nx G ρ st ρ st'∧ok (k (decide (0≤t.ev ρ)) st'):=by
 unfold xge at h;split at h
 ·rename_i e;have:t.c=t.ev ρ:=by simp only [LT.ev,e,evL]; omega
  rw [jUq,this] at h;exact ⟨st,Nx.refl hi,h⟩
 ·obtain ⟨h1,h2⟩:=zJ h;by_cases q:0≤t.ev ρ
  ·rw [decide_eq_true q]; exact qK h1 hi q
  ·rw [decide_eq_false q]; exact qK h2 hi (by rw [qBq]; omega)
theorem jRm {d:LT}:∀ {l:List LT},inN d l=true→(∀ t,t∈l→t.ev ρ≠0)→d.ev ρ≠0
 | [],h,_=>by simp [inN] at h
 | x::r,h,k=>by
  simp only [inN,Bool.or_eq_true] at h;rcases h with h | h | h
  ·rw [LT.beq_ok h]; exact k x (List.mem_cons_self ..)
  ·have:=LT.beq_ok h;have h2:=k x (List.mem_cons_self ..);rw [←this,qY] at h2; omega
  ·exact jRm h fun t ht=>k t (List.mem_cons_of_mem _ ht)
theorem jTs {k:Sx→An} {d:LT} (h:ok (qGl st d k)) (hi:Inv G ρ st) (hp:d.ev ρ≠0):∃ st',Nx G ρ st ρ st'∧ok (k st'):=by
 unfold qGl at h;split at h
 ·rename_i e;have hc:d.c≠0:=by simp only [LT.ev,e,evL] at hp; omega
  rw [wW,decide_eq_false hc] at h;exact ⟨st,Nx.refl hi,h⟩
 ·obtain ⟨j,a,hj,ha,h⟩:=pE h;split at h
  ·simp at hj; subst hj;obtain ⟨h1,_⟩:=jD ha hi;exact qK h hi (by rw [jF]; omega)
  ·simp at hj; subst hj;obtain ⟨h1,_⟩:=jD ha hi;rw [qY] at h1;exact qK h hi (by rw [jF,qY]; omega)
  ·obtain ⟨h1,h2⟩:=jA h;exact ⟨_,hi.addN h1 hp,h2⟩
theorem qFt {k:Bool→Sx→An} {d:LT} (h:ok (xeq st d k)) (hi:Inv G ρ st):∃ st',Nx G ρ st ρ st'∧ok (k (decide (d.ev ρ=0)) st'):=by
 unfold xeq at h;split at h
 ·rename_i e;have:d.c=d.ev ρ:=by simp only [LT.ev,e,evL]; omega
  rw [wW,this] at h;exact ⟨st,Nx.refl hi,h⟩
 ·rcases zE h with ⟨h1,h⟩ | ⟨_,h⟩
  ·rw [decide_eq_false (jRm h1 hi.N)];exact ⟨st,Nx.refl hi,h⟩
  ·obtain ⟨h1,h2⟩:=zJ h;by_cases q:d.ev ρ=0
   ·rw [decide_eq_true q];obtain ⟨s1,n1,h1⟩:=qK h1 hi (by omega)
    obtain ⟨s2,n2,h1⟩:=qK h1 n1.inv (by rw [qY]; omega)
    exact ⟨s2,n1.trans n2,h1⟩
   ·rw [decide_eq_false q]; exact jTs h2 hi q
theorem qT {a b:LT} {r:An} (h:ok (kE st a b r)) (hi:Inv G ρ st):a.ev ρ=b.ev ρ∧ok r:=by
 unfold kE at h;rcases zE h with ⟨h1,h⟩ | ⟨_,h⟩
 ·rw [LT.beq_ok h1]; exact ⟨rfl,h⟩
 ·obtain ⟨h1,h⟩:=jD h hi;obtain ⟨h2,h⟩:=jD h hi;rw [jT] at h1 h2;exact ⟨by omega,h⟩
theorem yU:∀ {E:EX} {n:Nat},look (denE ρ E) n=(uV E n).map (SX.den ρ)
 | [],n=>rfl
 | p::l,n=>by
  simp only [denE,look,jEa];cases Nat.beq p.1 n with
  | true=>rfl
  | false=>simpa using yU (E:=l)
theorem vU {m:Nat}:∀ {E:EX} {n:Nat} {v:SX},scE m E=true→uV E n=some v→v.sc m=true
 | [],n,v,h,e=>by cases e
 | p::l,n,v,h,e=>by
  simp only [scE,Bool.and_eq_true] at h;simp only [jEa] at e;cases hb:Nat.beq p.1 n with
  | true=>rw [hb] at e; simp at e; subst e; exact h.1
  | false=>rw [hb] at e; exact vU h.2 e
mutual
theorem jVo:∀ (v:AV),okA v=true→(ofX v).den ρ=ofA v
 | .b _,_=>rfl
 | .i _ n,_=>by simp [ofX,SX.den,ofA]
 | .s n v,_=>by simp [ofX,SX.den,ofA]
 | .p0,_=>rfl
 | .sl0,_=>rfl
 | .agg l,h=>by simp only [ofX,SX.den,ofA,dL l h]
 | .tup l,h=>by simp only [ofX,SX.den,ofA,dL l h]
 | .p _ _,k=>by simp [okA] at k
 | .sl _ _ _ _,k=>by simp [okA] at k
 | .f0,k=>by simp [okA] at k
 | .f _ a c,k=>by
  simp only [okA,Bool.and_eq_true] at k;simp only [ofX,SX.den,ofA,dL a k.1,dL c k.2]
 | .ni,k=>by simp [okA] at k
 | .fi _,k=>by simp [okA] at k
 | .fq _,k=>by simp [okA] at k
theorem dL:∀ (l:List AV),gJ l=true→jR ρ (oJ l)=ofAs l
 | [],_=>rfl
 | a::l,h=>by
  simp only [gJ,Bool.and_eq_true] at h;simp only [oJ,jR,ofAs,jVo a h.1,dL l h.2]
end
mutual
theorem qDe {n:Nat}:∀ (v:AV),(ofX v).sc n=true
 | .b _=>rfl
 | .i _ _=>rfl
 | .s _ _=>rfl
 | .p0=>rfl
 | .sl0=>rfl
 | .agg l=>iE l
 | .tup l=>iE l
 | .p _ _=>rfl
 | .sl _ _ _ _=>rfl
 | .f0=>rfl
 | .f _ a c=>by simp only [ofX,SX.sc,iE a,iE c,Bool.and_self]
 | .ni=>rfl
 | .fi _=>rfl
 | .fq _=>rfl
theorem iE {n:Nat}:∀ (l:List AV),scs n (oJ l)=true
 | []=>rfl
 | a::l=>by simp only [oJ,scs,Bool.and_eq_true]; exact ⟨qDe a,iE l⟩
end
theorem zL {x:X} {k:SX→An} {P:P1} (h:ok (xv st x k)) (hi:Inv G ρ st) (hk:∀ v,v.sc st.n=true→ok (k v)→P (v.den ρ)):vx (denE ρ st.E) x P:=by
 cases x with
 | k v=>
  obtain ⟨h1,h2⟩:=jA h;simp only [vx,h1,req];rw [←jVo (ρ:=ρ) v h1];exact hk _ (qDe v) h2
 | t n=>
  simp only [xv] at h;simp only [vx,fL,yU];split at h
  ·rename_i v e;rw [e];exact hk v (vU hi.e e) h
  ·exact (jB h).elim
theorem aL:∀ {l:List X} {k:List SX→An} {P:List SV→Prop},ok (xvs st l k)→Inv G ρ st→(∀ v,scs st.n v=true→ok (k v)→P (jR ρ v))→vxs (denE ρ st.E) l P
 | [],k,P,h,hi,hk=>hk [] rfl h
 | x::r,k,P,h,hi,hk=>zL (P:=fun v=>vxs (denE ρ st.E) r fun l=>P (v::l)) h hi fun v hv h=>aL h hi fun l hl h=>hk (v::l) (by simp only [scs,Bool.and_eq_true]; exact ⟨hv,hl⟩) h
end
end
noncomputable section
set_option linter.all false
open Go
section
variable {G:Nat→List SV→SV→Prop} {ρ ρ' ρ2:Rho} {st st' st2:Sx}
def HK (G:Nat→List SV→SV→Prop) (ρ:Rho) (st:Sx) (k:K1) (Q:P1):Prop:=∀ v st' ρ',Nx G ρ st ρ' st'→ok (k v st')→Q (v.den ρ')
theorem HK.go {k:K1} {Q:P1} (h:HK G ρ st k Q) (n:Nx G ρ st ρ' st'):HK G ρ' st' k Q:=fun v st2 ρ2 m h2=>h v st2 ρ2 (n.trans m) h2
theorem HK.now {k:K1} {Q:P1} (h:HK G ρ st k Q) (hi:Inv G ρ st) {v:SX} (h2:ok (k v st)):Q (v.den ρ):=h v st ρ (Nx.refl hi) h2
theorem jLa {k:IntKind} {t:LT} (h:∀ f,f∈jKz k t→0≤f.ev ρ):rng k (t.ev ρ):=by
 cases k<;>simp [jKz] at h<;>simp only [rng]<;>omega
theorem qIw {k:IntKind} {t:LT} {n:Nat} (hk:okK k=true) (h:rng k (t.ev ρ)) (hs:t.sc n=true):∀ f,f∈jKz k t→f.sc n=true∧0≤f.ev ρ:=by
 cases k<;>simp only [okK,Bool.false_eq_true] at hk<;>simp only [rng] at h<;>intro f hf<;>simp only [jKz,List.mem_cons,List.not_mem_nil,or_false] at hf<;>rcases hf with rfl | rfl <;>
  first
  | exact ⟨kB hs,by rw [jF]; omega⟩
  | exact ⟨kB (oW hs),by rw [jF,qY]; omega⟩
  | exact ⟨hs,by omega⟩
theorem iX {k:IntKind} {Q':K1} {Q:P1} (h:ok (jZs k st Q')) (hi:Inv G ρ st) (hk:HK G ρ st Q' Q):jMe k Q:=by
 obtain ⟨h1,h2⟩:=jA h;simp only [jMe,h1,req];intro m hm;obtain ⟨n1,e,h3⟩:=zU h2 hi ⟨m,[],0⟩;have n2:=n1.inv.addFs (l:=jKz k (.var st.n)) (qIw h1 (by rw [qC,e]; exact hm) (fJ (Nat.lt_succ_self _)))
 have:=hk _ _ _ (n1.trans n2) h3;simp only [SX.den,qC,e] at this;exact this
theorem sQ {k:IntKind} {t:LT} {Q':K1} {Q:P1} (h:ok (jTj k t st Q')) (hi:Inv G ρ st) (hk:HK G ρ st Q' Q):rng k (t.ev ρ)∧Q (.i k (t.ev ρ)):=by
 obtain ⟨h1,h2⟩:=aN h hi;exact ⟨jLa h1,hk.now hi h2⟩
theorem jSw {p:Prop} [Decidable p] {Q:P1} (h:Q (.b (decide p))):spl p Q:=⟨fun q=>by rwa [decide_eq_true q] at h,fun q=>by rwa [decide_eq_false q] at h⟩
theorem jWd {p:Prop} [Decidable p] {Q:P1} (h:Q (.b (!decide p))):qJg p Q:=⟨fun q=>by rwa [decide_eq_false q] at h,fun q=>by rwa [decide_eq_true q] at h⟩
theorem jCu {p q:Prop} [Decidable p] [Decidable q] (h:p↔q):decide p=decide q:=by simp [h]
theorem jBy {t:LT} {p:Prop} [Decidable p] {Q':K1} {Q:P1} (hp:0≤t.ev ρ↔p) (h:ok (xge st t fun r st=>Q' (.b r) st)) (hi:Inv G ρ st) (hk:HK G ρ st Q' Q):spl p Q:=by
 obtain ⟨s1,n1,h⟩:=jAd h hi;rw [jCu hp] at h;exact jSw (hk _ _ _ n1 h)
theorem oD {a:LT} {b:Int} {q:LT}:∀ {B:List TE},jDy a b B=some q→(.dv a b q:TE)∈B
 | [],h=>by cases h
 | t::r,h=>by
  simp only [jDy] at h;split at h
  ·rename_i a' b' q';cases e:(a'.beq a&&eqI b' b) with
   | true=>
    rw [e] at h;simp at h;subst h;rw [Bool.and_eq_true] at e;rw [←LT.beq_ok e.1,←jJx e.2];exact List.mem_cons_self ..
   | false=>rw [e] at h; exact List.mem_cons_of_mem _ (oD h)
  ·exact List.mem_cons_of_mem _ (oD h)
theorem qFf {a b:LT} {k:LT→Sx→An} (h:ok (xDv a b st k)) (hi:Inv G ρ st):0≤a.ev ρ∧0<b.ev ρ∧∃ q ρ' st',Nx G ρ st ρ' st'∧q.ev ρ'=a.ev ρ / b.ev ρ∧a.ev ρ'=a.ev ρ∧b.c=b.ev ρ∧ok (k q st'):=by
 obtain ⟨e,h⟩:=jA h;simp only [Bool.and_eq_true,decide_eq_true_eq] at e;obtain ⟨e1,e2,e3⟩:=e;obtain ⟨h1,h⟩:=jD h hi;have eb:=wC e1 ρ;split at h
 ·rename_i q e;have:=hi.B _ (oD e);simp only [TE.holds] at this;exact ⟨h1,by omega,q,ρ,st,Nx.refl hi,by rw [←this,eb],rfl,eb.symm,h⟩
 obtain ⟨n1,q,h⟩:=zU h hi ⟨a.ev ρ / b.ev ρ,[],0⟩;have sv:(LT.var st.n).sc (st.n+1)=true:=fJ (Nat.lt_succ_self _);have sa:a.sc (st.n+1)=true:=jE (Nat.le_succ _) e3;have d1:=Int.mul_ediv_add_emod (a.ev ρ) (b.ev ρ);have d2:=Int.emod_nonneg (a.ev ρ) (b:=b.ev ρ) (by omega)
 have d3:=Int.emod_lt_of_pos (a.ev ρ) (b:=b.ev ρ) (by omega)
 have n2:=n1.inv.addFs (l:=[.var st.n,a.sub ((LT.var st.n).smul b.c),(((LT.var st.n).smul b.c).sub a).addc (b.c - 1)]) (by
  intro t ht;simp only [List.mem_cons,List.not_mem_nil,or_false] at ht;rcases ht with rfl | rfl | rfl
  ·exact ⟨sv,by rw [qC,q]; exact Int.ediv_nonneg h1 (by omega)⟩
  ·exact ⟨pM sa (jBw sv),by rw [jT,vZ,qC,q,n1.lt e3,←eb]; show 0≤_ - b.ev ρ*(a.ev ρ / b.ev ρ); omega⟩
  ·exact ⟨kB (pM (jBw sv) sa),by rw [jF,jT,vZ,qC,q,n1.lt e3,←eb]; show 0≤b.ev ρ*(a.ev ρ / b.ev ρ) - _+(b.ev ρ - 1); omega⟩)
 have n3:=n2.inv.addB (t:=.dv a b.c (.var st.n)) (by simp only [TE.sc,Bool.and_eq_true]; exact ⟨sa,sv⟩) (by show a.ev _ / b.c=(LT.var st.n).ev _; rw [qC,q,n1.lt e3,eb])
 exact ⟨h1,by omega,.var st.n,_,_,(n1.trans n2).trans n3,by rw [qC,q],n1.lt e3,eb.symm,h⟩
theorem qOo {a b:LT} {k:LT→Sx→An} (h:ok (xRm a b st k)) (hi:Inv G ρ st):0≤a.ev ρ∧0<b.ev ρ∧∃ ρ' st',Nx G ρ st ρ' st'∧ρ' st.n=⟨a.ev ρ % b.ev ρ,[],0⟩∧ok (k (.var st.n) st'):=by
 obtain ⟨e,h⟩:=jA h;simp only [Bool.and_eq_true] at e;obtain ⟨e1,e2⟩:=e;obtain ⟨h1,h⟩:=jD h hi;obtain ⟨h2,h⟩:=jD h hi;rw [jF] at h2;obtain ⟨n1,q,h⟩:=zU h hi ⟨a.ev ρ % b.ev ρ,[],0⟩;have sv:(LT.var st.n).sc (st.n+1)=true:=fJ (Nat.lt_succ_self _);have sa:a.sc (st.n+1)=true:=jE (Nat.le_succ _) e1;have sb:b.sc (st.n+1)=true:=jE (Nat.le_succ _) e2;have d2:=Int.emod_nonneg (a.ev ρ) (b:=b.ev ρ) (by omega)
 have d3:=Int.emod_lt_of_pos (a.ev ρ) (b:=b.ev ρ) (by omega)
 have d4:a.ev ρ % b.ev ρ≤a.ev ρ:=by
  have d1:=Int.mul_ediv_add_emod (a.ev ρ) (b.ev ρ);have:=Int.mul_nonneg (a:=b.ev ρ) (b:=a.ev ρ / b.ev ρ) (by omega) (Int.ediv_nonneg h1 (by omega))
  omega
 have n2:=n1.inv.addFs (l:=[.var st.n,(b.sub (.var st.n)).addc (-1),a.sub (.var st.n)]) (by
  intro t ht;simp only [List.mem_cons,List.not_mem_nil,or_false] at ht;rcases ht with rfl | rfl | rfl
  ·exact ⟨sv,by rw [qC,q]; exact d2⟩
  ·exact ⟨kB (pM sb sv),by rw [jF,jT,qC,q,n1.lt e2]; show 0≤_ - (a.ev ρ % b.ev ρ) + -1; omega⟩
  ·exact ⟨pM sa sv,by rw [jT,qC,q,n1.lt e1]; show 0≤_ - (a.ev ρ % b.ev ρ); omega⟩)
 exact ⟨h1,by omega,_,_,n1.trans n2,q,h⟩
theorem qRm {o:BinOp} {k:IntKind} {a b:LT} {Q':K1} {Q:P1} (h:ok (xI o k a b st Q')) (hi:Inv G ρ st) (hk:HK G ρ st Q' Q):wI o k (a.ev ρ) (b.ev ρ) Q:=by
 cases o<;>simp only [xI] at h<;>simp only [wI]<;>try exact (jB h).elim
 case add=>have:=sQ h hi hk; rwa [yA] at this
 case sub=>have:=sQ h hi hk; rwa [jT] at this
 case mul=>
  rcases zE h with ⟨e,h⟩ | ⟨_,h⟩
  ·have:=sQ h hi hk; rw [vZ,←wC e ρ] at this; exact this
  ·rcases zE h with ⟨e,h⟩ | ⟨_,h⟩
   ·have:=sQ h hi hk; rw [vZ,←wC e ρ,Int.mul_comm] at this; exact this
   ·exact (jB h).elim
 case quo=>
  obtain ⟨h1,h2,qq,ρ',st',n,q,_,_,h⟩:=qFf h hi;have:=sQ h n.inv (hk.go n);rw [q] at this;exact ⟨⟨h1,h2⟩,this⟩
 case rem=>
  rcases zE h with ⟨_,h⟩ | ⟨_,h⟩
  ·obtain ⟨h1,h2,qq,ρ',st',n,q,ea,eb,h⟩:=qFf h hi;have:=hk _ _ _ n h;simp only [SX.den,jT,vZ,q,ea,eb] at this;exact ⟨⟨h1,h2⟩,by rw [Int.emod_def]; exact this⟩
  ·obtain ⟨h1,h2,ρ',st',n,q,h⟩:=qOo h hi;have:=hk _ _ _ n h;simp only [SX.den,qC,q] at this;exact ⟨⟨h1,h2⟩,this⟩
 case and=>exact iX h hi hk
 case or=>exact iX h hi hk
 case eql=>
  obtain ⟨s1,n1,h⟩:=qFt h hi;rw [jCu (show (a.sub b).ev ρ=0↔a.ev ρ=b.ev ρ by rw [jT]; omega)] at h
  exact jSw (hk _ _ _ n1 h)
 case neq=>
  obtain ⟨s1,n1,h⟩:=qFt h hi;rw [jCu (show (a.sub b).ev ρ=0↔a.ev ρ=b.ev ρ by rw [jT]; omega)] at h
  exact jWd (hk _ _ _ n1 h)
 case lss=>exact jBy (by rw [jF,jT]; omega) h hi hk
 case leq=>exact jBy (by rw [jT]; omega) h hi hk
 case gtr=>exact jBy (by rw [jF,jT]; omega) h hi hk
 case geq=>exact jBy (by rw [jT]; omega) h hi hk
theorem qOp {o:BinOp} {k:IntKind} {a b:LT} {Q':K1} {Q:P1} (h:ok (xSh o k a b st Q')) (hi:Inv G ρ st) (hk:HK G ρ st Q' Q):wSh o k (a.ev ρ) (b.ev ρ) Q:=by
 cases o<;>simp only [xSh] at h<;>simp only [wSh]<;>try exact (jB h).elim
 case shl=>
  obtain ⟨h1,h⟩:=jD h hi;exact ⟨h1,iX h hi hk⟩
 case shr=>
  obtain ⟨h1,h⟩:=jD h hi;obtain ⟨h2,h⟩:=aN h hi;exact ⟨h1,jLa h2,iX h hi hk⟩
theorem jBt {n v:Nat} (h:v<256^n):n=0→v=0:=by intro e; subst e; simpa using h
theorem jWw {n v m u:LT} {k:Bool→Sx→An} (h:ok (qJw n v m u st k)) (hi:Inv G ρ st) (h0:(n.ev ρ).toNat=0→(v.ev ρ).toNat=0) (h1:(m.ev ρ).toNat=0→(u.ev ρ).toNat=0) :
  ∃ st',Nx G ρ st ρ st'∧ok (k (decide ((n.ev ρ).toNat=(m.ev ρ).toNat∧(v.ev ρ).toNat=(u.ev ρ).toNat)) st'):=by
 unfold qJw at h;rcases zE h with ⟨e,h⟩ | ⟨_,h⟩
 ·rw [Bool.and_eq_true] at e;rw [LT.beq_ok e.1,LT.beq_ok e.2,decide_eq_true ⟨rfl,rfl⟩];exact ⟨st,Nx.refl hi,h⟩
 rcases zE h with ⟨e,h⟩ | ⟨_,h⟩
 ·simp only [Bool.and_eq_true] at e;obtain ⟨⟨e1,e2,e3,e4⟩,⟨e5,e6⟩,e7,e8⟩:=e;rw [wC e1,wC e2,wC e3,wC e4];have q5:=mK e5; have q6:=mK e6; have q7:=mK e7; have q8:=mK e8
  refine ⟨st,Nx.refl hi,?_⟩;have:(eqI n.c m.c&&eqI v.c u.c)=decide (n.c.toNat=m.c.toNat∧v.c.toNat=u.c.toNat):=by
   rw [tU,tU];by_cases a:n.c=m.c<;>by_cases b:v.c=u.c<;>simp [a,b]<;>omega
  rw [←this]; exact h
 obtain ⟨hn,h⟩:=jD h hi;obtain ⟨hm,h⟩:=jD h hi;obtain ⟨ha,hb⟩:=zJ h;by_cases q:(n.ev ρ).toNat=(m.ev ρ).toNat∧(v.ev ρ).toNat=(u.ev ρ).toNat
 ·rw [decide_eq_true q];obtain ⟨s1,n1,ha⟩:=qK ha hi (by rw [jT]; omega)
  obtain ⟨s2,n2,ha⟩:=qK ha n1.inv (by rw [jT]; omega)
  exact ⟨s2,n1.trans n2,ha⟩
 ·rw [decide_eq_false q];rcases zE hb with ⟨e,hb⟩ | ⟨_,hb⟩
  ·rw [Bool.and_eq_true,wW,decide_eq_true_eq] at e;have em:m.ev ρ=0:=by rw [wC e.1,e.2]
   refine qK hb hi ?_;rw [jF];by_cases z:(n.ev ρ).toNat=0
   ·exact absurd ⟨by rw [z,em]; rfl,by rw [h0 z,h1 (by rw [em]; rfl)]⟩ q
   ·omega
  rcases zE hb with ⟨e,hb⟩ | ⟨_,hb⟩
  ·rw [Bool.and_eq_true,wW,decide_eq_true_eq] at e;have en:n.ev ρ=0:=by rw [wC e.1,e.2]
   refine qK hb hi ?_;rw [jF];by_cases z:(m.ev ρ).toNat=0
   ·exact absurd ⟨by rw [z,en]; rfl,by rw [h1 z,h0 (by rw [en]; rfl)]⟩ q
   ·omega
  ·exact ⟨st,Nx.refl hi,hb⟩
theorem qRo {o:BinOp} {n v m u:LT} {Q':K1} {Q:P1} (h:ok (xS o n v m u st Q')) (hi:Inv G ρ st) (hn':n.sc st.n=true) (hm':m.sc st.n=true) (hk:HK G ρ st Q' Q):wS o (n.ev ρ).toNat (v.ev ρ).toNat (m.ev ρ).toNat (u.ev ρ).toNat Q:=by
 cases o<;>simp only [xS] at h<;>simp only [wS]<;>try exact (jB h).elim
 case add=>
  obtain ⟨hn,h⟩:=jD h hi;obtain ⟨hm,h⟩:=jD h hi;obtain ⟨hl,h⟩:=jD h hi;rw [jF,qY,yA] at hl;have hb:qJz=1000000000000:=rfl;refine ⟨by omega,fun _ _=>?_⟩
  obtain ⟨n1,e,h⟩:=zU h hi ⟨(((v.ev ρ).toNat+(u.ev ρ).toNat*256^(n.ev ρ).toNat:Nat):Int),[],0⟩;have:=hk _ _ _ n1 h;simp only [SX.den,qC,e,yA,n1.lt hn',n1.lt hm'] at this;rw [show (n.ev ρ+m.ev ρ).toNat=(n.ev ρ).toNat+(m.ev ρ).toNat by omega] at this
  simpa only [Int.toNat_natCast] using this
 case eql=>
  intro h0 h1;obtain ⟨s1,n1,h⟩:=jWw h hi (jBt h0) (jBt h1);exact jSw (hk _ _ _ n1 h)
 case neq=>
  intro h0 h1;obtain ⟨s1,n1,h⟩:=jWw h hi (jBt h0) (jBt h1);exact jWd (hk _ _ _ n1 h)
theorem qNy {o:BinOp} {x y:SX} {Q':K1} {Q:P1} (h:ok (xBi o x y st Q')) (hi:Inv G ρ st) (hx:x.sc st.n=true) (hy:y.sc st.n=true) (hk:HK G ρ st Q' Q):wBi o (x.den ρ) (y.den ρ) Q:=by
 unfold xBi at h;split at h
 ·simp only [SX.den,wBi];rcases zE h with ⟨e,h⟩ | ⟨e,h⟩
  ·rw [e]; exact qOp h hi hk
  ·rw [e];obtain ⟨h1,h⟩:=jA h;simp only [brn,h1,req];exact qRm h hi hk
 ·simp only [SX.sc,Bool.and_eq_true] at hx hy;simp only [SX.den,wBi];exact qRo h hi hx.1 hy.1 hk
 ·exact (jB h).elim
theorem qOt {o:UnOp} {x:SX} {Q':K1} {Q:P1} (h:ok (xUn o x st Q')) (hi:Inv G ρ st) (hk:HK G ρ st Q' Q):wUn o (x.den ρ) Q:=by
 unfold xUn at h;split at h
 ·rename_i b;have:=hk.now hi h;simp only [SX.den,wUn] at this ⊢;cases b<;>exact this
 ·rename_i t;have:=hk.now hi h;simp only [SX.den,wUn,jF,qY] at this ⊢;by_cases q:0<t.ev ρ
  ·rw [decide_eq_true q]; rw [decide_eq_false (by omega)] at this; exact this
  ·rw [decide_eq_false q]; rw [decide_eq_true (by omega)] at this; exact this
 ·have:=sQ h hi hk;simp only [SX.den,wUn];rw [qY] at this;rw [show ∀ a:Int,0 - a = -a by intro a; omega]; exact this
 ·exact (jB h).elim
theorem iY {v:SX} {k:Bool→Sx→An} (h:ok (jJe v st k)) (hi:Inv G ρ st):∃ b st',v.den ρ = .b b∧Nx G ρ st ρ st'∧ok (k b st'):=by
 unfold jJe at h;split at h
 ·exact ⟨_,st,rfl,Nx.refl hi,h⟩
 ·rename_i t;obtain ⟨s1,n1,h⟩:=jAd h hi;refine ⟨_,s1,?_,n1,h⟩;simp only [SX.den];rw [jCu (show 0<t.ev ρ↔0≤(t.addc (-1)).ev ρ by rw [jF]; omega)]
 ·exact (jB h).elim
theorem qFh {c a b:SX} {Q':K1} {Q:P1} (h:ok (vC c a b st Q')) (hi:Inv G ρ st) (hk:HK G ρ st Q' Q):jWq (c.den ρ) (a.den ρ) (b.den ρ) Q:=by
 obtain ⟨x,s1,e,n1,h⟩:=iY h hi;have:=hk _ _ _ n1 h;rw [e];cases x<;>exact this
theorem qNx {g:Bool} {x y:SX} {Q':K1} {Q:P1} (h:ok (xBe g x y st Q')) (hi:Inv G ρ st) (hk:HK G ρ st Q' Q):wBe g (x.den ρ) (y.den ρ) Q:=by
 obtain ⟨a,s1,e1,n1,h⟩:=iY h hi;obtain ⟨b,s2,e2,n2,h⟩:=iY h n1.inv;have:=hk _ _ _ (n1.trans n2) h;rw [e1,e2];cases g<;>exact this
theorem dF {v k b:LT}:∀ {B:List TE},hU v k B=some b→(.by_ v k b:TE)∈B
 | [],h=>by cases h
 | t::r,h=>by
  simp only [hU] at h;split at h
  ·rename_i c i b';cases q:(c.beq v&&i.beq k) with
   | true=>
    rw [q] at h;simp at h;subst h;rw [Bool.and_eq_true] at q;rw [←LT.beq_ok q.1,←LT.beq_ok q.2];exact List.mem_cons_self ..
   | false=>rw [q] at h; exact List.mem_cons_of_mem _ (dF h)
  ·exact List.mem_cons_of_mem _ (dF h)
theorem jMn (v k:Int):jTx v k=byZ v.toNat k:=by unfold jTx byZ; rfl
theorem qOh {x i:SX} {Q':K1} {Q:P1} (h:ok (xIx x i st Q')) (hi:Inv G ρ st) (hx:x.sc st.n=true) (hy:i.sc st.n=true) (hk:HK G ρ st Q' Q):wIx (x.den ρ) (i.den ρ) Q:=by
 unfold xIx at h;split at h
 ·rename_i n v _ k;obtain ⟨h1,h⟩:=jD h hi;obtain ⟨h2,h⟩:=jD h hi;rw [jF,jT] at h2;simp only [SX.den,wIx];refine ⟨⟨h1,by omega⟩,fun b0 b1=>?_⟩
  rcases zE h with ⟨e,h⟩ | ⟨_,h⟩
  ·rw [Bool.and_eq_true] at e;have:=hk.now hi h;simp only [SX.den,qR,jMn] at this;rw [wC e.1,wC e.2]; exact this
  ·split at h
   ·rename_i b e;have hB:=hi.B _ (dF e);have:=hk.now hi h;simp only [SX.den,←show byZ (v.ev ρ).toNat (k.ev ρ)=b.ev ρ from hB] at this;exact this
   ·obtain ⟨e,h⟩:=jA h;rw [Bool.and_eq_true] at e;obtain ⟨n1,q,h⟩:=zU h hi ⟨byZ (v.ev ρ).toNat (k.ev ρ),[],0⟩;have sv:(LT.var st.n).sc (st.n+1)=true:=fJ (Nat.lt_succ_self _);have n2:=n1.inv.addFs (l:=[.var st.n,(LT.var st.n).neg.addc 255]) (by
     intro t ht;simp only [List.mem_cons,List.not_mem_nil,or_false] at ht;rcases ht with rfl | rfl
     ·exact ⟨sv,by rw [qC,q]; exact b0⟩
     ·exact ⟨kB (oW sv),by rw [jF,qY,qC,q]; show 0 ≤ -byZ _ _+255; omega⟩)
    have n3:=n2.inv.addB (t:=.by_ v k (.var st.n)) (by
     simp only [TE.sc,Bool.and_eq_true];exact ⟨jE (Nat.le_trans n1.n n2.n) e.1,jE (Nat.le_trans n1.n n2.n) e.2,jE n2.n sv⟩) (by
     simp only [TE.holds,n1.lt e.1,n1.lt e.2,qC,q])
    have:=hk _ _ _ ((n1.trans n2).trans n3) h;simp only [SX.den,qC,q] at this;exact this
 ·exact (jB h).elim
theorem jXc {x:SX} {Q':LT→An} {Q:Int→Prop} (h:ok (qFu x st Q')) (hx:x.sc st.n=true) (hk:∀ a,a.sc st.n=true→ok (Q' a)→Q (a.ev ρ)):iOf (x.den ρ) Q:=by
 unfold qFu at h;split at h
 ·exact hk _ hx h
 ·exact (jB h).elim
theorem vX {x:Option X} {d:LT} {z:Int} {Q':LT→An} {Q:Int→Prop} (h:ok (pZ st x d Q')) (hi:Inv G ρ st) (hd:d.sc st.n=true) (hz:z=d.ev ρ) (hk:∀ a,a.sc st.n=true→ok (Q' a)→Q (a.ev ρ)):jAx (denE ρ st.E) x z Q:=by
 cases x with
 | some x=>exact zL (k:=fun v=>qFu v st Q') (P:=fun v=>iOf v Q) h hi fun v hv h=>jXc h hv hk
 | none=>subst hz; exact hk _ hd h
theorem qOj {x:SX} {Q':K1} {Q:P1} (h:ok (xLn x st Q')) (hi:Inv G ρ st) (hk:HK G ρ st Q' Q):wLn (x.den ρ) Q:=by
 unfold xLn at h;split at h
 ·obtain ⟨hn,h⟩:=jD h hi;have:=hk.now hi h;simp only [SX.den,wLn] at this ⊢;rw [Int.toNat_of_nonneg hn]; exact this
 ·exact (jB h).elim
theorem qOm {x y:SX} {Q':K1} {Q:P1} (h:ok (xMx x y st Q')) (hi:Inv G ρ st) (hk:HK G ρ st Q' Q):wMx (x.den ρ) (y.den ρ) Q:=by
 unfold xMx at h;split at h
 ·rename_i k a k' b;obtain ⟨h1,h⟩:=jA h;obtain ⟨s1,n1,h⟩:=jAd h hi;have:=hk _ _ _ n1 h;simp only [SX.den,wMx,h1,req];by_cases q:0≤(b.sub a).ev ρ
  ·rw [decide_eq_true q] at this;rw [jT] at q;rw [Int.max_eq_right (by omega)]; exact this
  ·rw [decide_eq_false q] at this;rw [jT] at q;rw [Int.max_eq_left (by omega)]; exact this
 ·exact (jB h).elim
theorem qOk {x y:SX} {Q':K1} {Q:P1} (h:ok (xMn x y st Q')) (hi:Inv G ρ st) (hk:HK G ρ st Q' Q):wMn (x.den ρ) (y.den ρ) Q:=by
 unfold xMn at h;split at h
 ·rename_i k a k' b;obtain ⟨h1,h⟩:=jA h;obtain ⟨s1,n1,h⟩:=jAd h hi;have:=hk _ _ _ n1 h;simp only [SX.den,wMn,h1,req];by_cases q:0≤(b.sub a).ev ρ
  ·rw [decide_eq_true q] at this;rw [jT] at q;rw [Int.min_eq_left (by omega)]; exact this
  ·rw [decide_eq_false q] at this;rw [jT] at q;rw [Int.min_eq_right (by omega)]; exact this
 ·exact (jB h).elim
theorem qOa {k:IntKind} {x:SX} {Q':K1} {Q:P1} (h:ok (xCi k x st Q')) (hi:Inv G ρ st) (hk:HK G ρ st Q' Q):wCi k (x.den ρ) Q:=by
 unfold xCi at h;split at h
 ·rename_i k0 n;simp only [SX.den,wCi];obtain ⟨j,a,hj,ha,h⟩:=pE h;split at h
  ·simp at hj; subst hj;obtain ⟨h1,_⟩:=aN ha hi;obtain ⟨h2,h⟩:=jA h;simp only [h2,req];intro m _ hm;rw [hm (jLa h1)];exact hk.now hi h
  ·have:=iX h hi hk;unfold jMe at this;obtain ⟨h1,h2⟩:=jH this;simp only [h1,req];exact fun m hm _=>h2 m hm
 ·exact (jB h).elim
theorem xV:∀ (l:List SX),jR ρ l=l.map (SX.den ρ)
 | []=>rfl
 | x::l=>by simp only [jR,List.map_cons,xV l]
theorem qOe {n:Nat} {x:SX} {Q':K1} {Q:P1} (h:ok (xEx n x st Q')) (hi:Inv G ρ st) (hk:HK G ρ st Q' Q):wEx n (x.den ρ) Q:=by
 unfold xEx at h;split at h
 ·rename_i l;simp only [SX.den,wEx];rw [jZ] at h;rw [jZ,xV,List.getElem?_map];split at h
  ·rename_i v e;rw [e];exact hk.now hi h
  ·exact (jB h).elim
 ·exact (jB h).elim
theorem rY (hi:Inv G ρ st):∀ {l:List LT} {k:An},ok (jNq st l k)→(∀ t,t∈l→t.ev ρ≠0)∧ok k
 | [],k,h=>⟨fun t ht=>(by cases ht),h⟩
 | d::r,k,h=>by
  have one:∀ {a:An},d.ev ρ≠0→ok a→(ok a→(∀ t,t∈r→t.ev ρ≠0)∧ok k)→(∀ t,t∈d::r→t.ev ρ≠0)∧ok k:=fun h1 h2 h3=>by
   obtain ⟨h4,h5⟩:=h3 h2;exact ⟨fun t ht=>by rcases List.mem_cons.1 ht with rfl | ht; exact h1; exact h4 t ht,h5⟩
  simp only [jNq] at h;split at h
  ·rename_i e;obtain ⟨h1,h⟩:=jA h;refine one ?_ h (fun h=>rY hi h);rw [wW] at h1;simp only [LT.ev,e,evL];simp at h1;omega
  ·rcases zE h with ⟨h1,h⟩ | ⟨_,h⟩
   ·exact one (jRm h1 hi.N) h (fun h=>rY hi h)
   ·obtain ⟨j,a,hj,ha,h⟩:=pE h;refine one ?_ h (fun h=>rY hi h)
    match j,hj with
    | 0,hj=>
     simp at hj; subst hj;obtain ⟨h1,_⟩:=jD ha hi;rw [jF] at h1; omega
    | 1,hj=>
     simp at hj; subst hj;obtain ⟨h1,_⟩:=jD ha hi;rw [jF,qY] at h1; omega
    | j+2,hj=>simp at hj
theorem qCz {v:Int}:∀ {n:Nat} {k:Int},nlC v n k=true→∀ i:Int,k≤i→i<k+n→byZ v.toNat i≠10
 | 0,k,_,i,h1,h2=>by omega
 | n+1,k,h,i,h1,h2=>by
  simp only [nlC,Bool.and_eq_true] at h;by_cases e:i=k
  ·subst e;have:=h.1;rw [wW,jMn] at this;simp at this;omega
  ·exact qCz h.2 i (by omega) (by omega)
theorem gE (hi:Inv G ρ st) {g c b:LT}:∀ {f:Nat} {a:LT} {k:An},ok (eR st g c b f a k)→(TE.ng g c a b).holds G ρ∧ok k
 | 0,a,k,h=>(jB h).elim
 | f+1,a,k,h=>by
  unfold eR at h;obtain ⟨x,h⟩:=mS h;rcases zE h with ⟨_,h⟩ | ⟨_,h⟩
  ·obtain ⟨h1,h⟩:=jD h hi;rw [jT] at h1;exact ⟨fun _ k k0 k1=>by omega,h⟩
  rcases zE h with ⟨_,h⟩ | ⟨_,h⟩
  ·obtain ⟨h1,h⟩:=jD h hi;rw [jF] at h1;exact ⟨fun hg=>by omega,h⟩
  rcases zE h with ⟨_,h⟩ | ⟨_,h⟩
  ·obtain ⟨h1,h⟩:=jD h hi;rw [jF,qY] at h1;exact ⟨fun hg=>by omega,h⟩
  rcases zE h with ⟨_,h⟩ | ⟨_,h⟩
  ·obtain ⟨h1,h⟩:=jA h;simp only [Bool.and_eq_true] at h1;obtain ⟨e1,e2,e3,e4⟩:=h1;refine ⟨fun _ k k0 k1=>?_,h⟩;rw [wC e2] at k0;rw [wC e3] at k1;rw [wC e1];exact qCz e4 k k0 (by omega)
  split at h
  ·rename_i g' c' a' m e;obtain ⟨h1,h⟩:=jA h;rw [Bool.and_eq_true] at h1;obtain ⟨h2,h⟩:=jD h hi;rw [jT] at h2;obtain ⟨h3,h⟩:=gE hi h;refine ⟨fun hg k k0 k1=>?_,h⟩;have hB:=hi.B _ (List.mem_of_getElem? (by rw [←jZ]; exact e))
   have hg':g'.ev ρ=2:=by
    rcases Bool.or_eq_true_iff.1 h1.2 with q | q
    ·rw [LT.beq_ok q]; exact hg
    ·rw [LT.beq_ok q,qR]
   by_cases q:k<m.ev ρ
   ·have:=hB hg' k (by omega) q
    rw [LT.beq_ok h1.1]; exact this
   ·exact h3 hg k (by omega) k1
  ·rename_i c' i x e;obtain ⟨h1,h⟩:=jA h;obtain ⟨h2,h⟩:=qT h hi;obtain ⟨h3,h⟩:=rY hi h;obtain ⟨h4,h⟩:=gE hi h;refine ⟨fun hg k k0 k1=>?_,h⟩;have hB:=hi.B _ (List.mem_of_getElem? (by rw [←jZ]; exact e))
   by_cases q:k=a.ev ρ
   ·have h5:=h3 _ (List.mem_cons_self ..);rw [jF] at h5;have h6:byZ (c'.ev ρ).toNat (i.ev ρ)=x.ev ρ:=hB;rw [LT.beq_ok h1,q,h2,h6];omega
   ·exact h4 hg k (by rw [jF]; omega) k1
  ·exact (jB h).elim
theorem qCy {n c:LT} (h:∀ k:Int,(LT.con 0).ev ρ≤k→k<n.ev ρ→byZ (c.ev ρ).toNat k≠10):nlP (n.ev ρ).toNat (c.ev ρ).toNat:=by
 intro k hk e;have:=h (k:Int) (by rw [qR]; omega) (by omega)
 unfold byZ at this;rw [Int.toNat_natCast,e] at this;exact this rfl
theorem qPc {x:SX} {n v:Nat} (h:x.den ρ = .s n v):∃ a b,x = .s a b∧n=(a.ev ρ).toNat∧v=(b.ev ρ).toNat:=by
 cases x with
 | s a b=>simp only [SX.den,SV.s.injEq] at h; exact ⟨a,b,rfl,h.1.symm,h.2.symm⟩
 | _=>simp [SX.den] at h
theorem qPb {x:SX} {k:IntKind} {z:Int} (h:x.den ρ = .i k z):∃ t,x = .i k t∧z=t.ev ρ:=by
 cases x with
 | i k' t=>simp only [SX.den,SV.i.injEq] at h; exact ⟨t,by rw [h.1],h.2.symm⟩
 | _=>simp [SX.den] at h
theorem jGf (hi:Inv G ρ st) {r:List SX}:∀ {l:List (Nat×Option Nat)} {k:An},ok (xRk st r l k)→rsK l (jR ρ r)∧ok k
 | [],k,h=>⟨fun p hp=>(by cases hp),h⟩
 | p::l,k,h=>by
  have get:∀ {i:Nat} {x:SV},(jR ρ r)[i]?=some x→∃ y,zO r i=some y∧y.den ρ=x:=fun {i x} e=>by
   rw [xV,List.getElem?_map,Option.map_eq_some_iff] at e;obtain ⟨y,e1,e2⟩:=e;exact ⟨y,by rw [jZ]; exact e1,e2⟩
  have cons:∀ {Pr:Prop},(Pr→∀ n v,(jR ρ r)[p.1]?=some (.s n v)→nlP n v)→((match p.2 with | none=>True | some g=>∃ k,(jR ρ r)[g]?=some (.i k 2))→Pr)→rsK l (jR ρ r)→rsK (p::l) (jR ρ r):=fun h1 h2 h3 q hq hg=>by
   rcases List.mem_cons.1 hq with rfl | hq
   ·exact h1 (h2 hg)
   ·exact h3 q hq hg
  unfold xRk at h;split at h
  ·rename_i n c e;split at h
   ·rename_i e2;obtain ⟨h1,h⟩:=gE hi h;obtain ⟨h2,h⟩:=jGf hi h;refine ⟨cons (Pr:=True) (fun _ n' v' e3=>?_) (fun _=>trivial) h2,h⟩;obtain ⟨y,y1,y2⟩:=get e3;rw [e] at y1; cases y1;simp only [SX.den,SV.s.injEq] at y2;rw [←y2.1,←y2.2];exact qCy (h1 (by rw [qR]))
   ·rename_i g e2;split at h
    ·rename_i kk t e4;obtain ⟨h1,h⟩:=gE hi h;obtain ⟨h2,h⟩:=jGf hi h;refine ⟨cons (Pr:=t.ev ρ=2) (fun ht n' v' e3=>?_) (fun hg=>?_) h2,h⟩
     ·obtain ⟨y,y1,y2⟩:=get e3;rw [e] at y1; cases y1;simp only [SX.den,SV.s.injEq] at y2;rw [←y2.1,←y2.2];exact qCy (h1 ht)
     ·rw [e2] at hg;obtain ⟨k2,hg⟩:=hg;obtain ⟨y,y1,y2⟩:=get hg;rw [e4] at y1; cases y1;simp only [SX.den,SV.i.injEq] at y2;exact y2.2
    ·rename_i hno;obtain ⟨h2,h⟩:=jGf hi h;refine ⟨cons (Pr:=False) (fun q=>q.elim) (fun hg=>?_) h2,h⟩;rw [e2] at hg;obtain ⟨k2,hg⟩:=hg;obtain ⟨y,y1,y2⟩:=get hg;obtain ⟨t,rfl,_⟩:=qPb y2;exact hno _ _ y1
  ·rename_i hno;obtain ⟨h2,h⟩:=jGf hi h;refine ⟨cons (Pr:=True) (fun _ n' v' e3=>?_) (fun _=>trivial) h2,h⟩;obtain ⟨y,y1,y2⟩:=get e3;obtain ⟨a,b,rfl,_⟩:=qPc y2;exact (hno _ _ y1).elim
theorem dX (hi:Inv G ρ st):∀ {l:List SX} {k:An},ok (aJ st l k)→jOo (jR ρ l)∧ok k
 | [],k,h=>⟨trivial,h⟩
 | x::r,k,h=>by
  unfold aJ at h;split at h
  ·rename_i kk t;obtain ⟨h1,h⟩:=rY hi h;obtain ⟨h2,h⟩:=dX hi h;have:=h1 _ (List.mem_cons_self ..);rw [jF] at this;exact ⟨⟨by show t.ev ρ≠2; omega,h2⟩,h⟩
  ·rename_i n c;obtain ⟨h1,h⟩:=gE hi h;obtain ⟨h2,h⟩:=dX hi h;exact ⟨⟨qCy (h1 (by rw [qR])),h2⟩,h⟩
  ·rename_i h1 h2;obtain ⟨h3,h⟩:=dX hi h;refine ⟨⟨?_,h3⟩,h⟩;cases x with
   | i k t=>exact absurd rfl (h1 k t)
   | s n c=>exact absurd rfl (h2 n c)
   | _=>trivial
theorem qOr {x:SX} {lo hi':Option X} {Q':K1} {Q:P1} (h:ok (xSs x lo hi' st Q')) (hi:Inv G ρ st) (hx:x.sc st.n=true) (hk:HK G ρ st Q' Q):wSs (x.den ρ) lo hi' (denE ρ st.E) Q:=by
 unfold xSs at h;split at h
 ·rename_i n v;simp only [SX.sc,Bool.and_eq_true] at hx;obtain ⟨hn,h⟩:=jD h hi;simp only [SX.den,wSs];refine vX h hi (xT _) (by rw [qR]) fun a ha h=>?_
  refine vX h hi hx.1 (by omega) fun b hb h=>?_
  obtain ⟨h1,h⟩:=jD h hi;obtain ⟨h2,h⟩:=jD h hi;obtain ⟨h3,h⟩:=jD h hi;rw [jT] at h2 h3;refine ⟨⟨h1,by omega,by omega⟩,fun m w hm _ hbs=>?_⟩
  obtain ⟨xx,h⟩:=mS h;rcases zE h with ⟨_,h⟩ | ⟨_,h⟩
  ·obtain ⟨n1,e,h⟩:=zU h hi ⟨(w:Int),[],0⟩;have:=hk _ _ _ n1 h;simp only [SX.den,qC,e,jT,n1.lt ha,n1.lt hb] at this;rw [show (b.ev ρ - a.ev ρ).toNat=m by omega] at this
   exact this
  ·obtain ⟨hB,h⟩:=gE hi h;obtain ⟨n1,e,h⟩:=zU h hi ⟨(w:Int),[],0⟩;have n2:=n1.inv.addB (t:=.ng (.con 2) (.var st.n) (.con 0) (b.sub a)) (by
    simp only [TE.sc,Bool.and_eq_true];exact ⟨xT _,fJ (Nat.lt_succ_self _),xT _,jE n1.n (pM hb ha)⟩) (by
    intro _ k k0 k1;rw [qR] at k0;rw [jT,n1.lt ha,n1.lt hb] at k1;have h4:=hB (by rw [qR]) (a.ev ρ+k) (by omega) (by omega)
    have h5:=hbs k.toNat (by omega)
    have h6:(a.ev ρ+k).toNat=(a.ev ρ).toNat+k.toNat:=by omega
    unfold byZ at h4 ⊢;rw [h6,←h5] at h4;simpa only [qC,e,Int.toNat_natCast] using h4)
   have:=hk _ _ _ (n1.trans n2) h;simp only [SX.den,qC,e,jT,n1.lt ha,n1.lt hb] at this;rw [show (b.ev ρ - a.ev ρ).toNat=m by omega] at this
   exact this
 ·exact (jB h).elim
end
end
noncomputable section
set_option linter.all false
open Go
section
variable {α β:Type}
theorem dS (f:α→β):∀ (n:Nat) (l:List α),yG n (l.map f)=(yG n l).map (List.map f)
 | 0,l=>rfl
 | n+1,[]=>rfl
 | n+1,a::l=>by
  simp only [List.map_cons,yG,dS f n l];cases yG n l<;>rfl
theorem bV (f:α→β) (n:Nat) (l:List α):yB n (l.map f)=(yB n l).map f:=by rw [xA,xA,List.map_drop]
theorem jOv (f:α→β):∀ (v l:List α),jAz (v.map f) (l.map f)=(jAz v l).map (List.map f)
 | [],l=>rfl
 | v::vs,[]=>rfl
 | v::vs,a::l=>by
  simp only [List.map_cons,jAz,jOv f vs l];cases jAz vs l<;>rfl
theorem jIm (f:α→β):∀ (n:Nat) (v l:List α),yF n (v.map f) (l.map f)=(yF n v l).map (List.map f)
 | 0,v,l=>by simp only [yF]; exact jOv f v l
 | n+1,v,[]=>rfl
 | n+1,v,a::l=>by
  simp only [List.map_cons,yF,jIm f n v l];cases yF n v l<;>rfl
theorem jFk (f:α→β):∀ (l:List α) (i:Nat) (x:α),jG (l.map f) i (f x)=(jG l i x).map f
 | [],_,_=>rfl
 | a::l,0,x=>rfl
 | a::l,i+1,x=>by simp only [List.map_cons,jG,jFk f l i x]
theorem jIv (f:α→β):∀ (n:Nat) (l:List α),xL n (l.map f)=xL n l
 | 0,[]=>rfl
 | 0,_::_=>rfl
 | n+1,[]=>rfl
 | n+1,a::l=>by simp only [List.map_cons,xL,jIv f n l]
theorem jDw (f:α→β) (l:List α):jP (l.map f)=jP l:=by rw [qG,qG,List.length_map]
end
section
variable {P:PX} {G:Nat→List SV→SV→Prop} {ρ ρ' ρ2:Rho} {st st' st2:Sx}
theorem aG {n:Nat} {l r:List SX} (h:yG n l=some r):yG n (jR ρ l)=some (jR ρ r):=by rw [xV,dS,h,xV]; rfl
theorem tS {n:Nat} {l:List SX}:yB n (jR ρ l)=jR ρ (yB n l):=by rw [xV,bV,xV]
theorem jEv {n:Nat} {v l r:List SX} (h:yF n v l=some r):yF n (jR ρ v) (jR ρ l)=some (jR ρ r):=by rw [xV,xV,jIm,h,xV]; rfl
theorem mX {n:Nat} {l:List SX}:xL n (jR ρ l)=xL n l:=by rw [xV,jIv]
theorem pD {n:Nat} {l:List SX} {v:SX} (h:zO l n=some v):zO (jR ρ l) n=some (v.den ρ):=by
 rw [jZ] at *; rw [xV,List.getElem?_map,h]; rfl
theorem lG (x:SX):yK (x.den ρ)=jR ρ (vL x):=by cases x<;>rfl
theorem qIh (x:SX):qZ (x.den ρ)=qPt x:=by cases x<;>rfl
theorem pG:∀ (l:List SX),qF (jR ρ l)=gV l
 | []=>rfl
 | x::l=>by simp only [jR,qF,gV,qIh,pG l]
theorem bU {H:List HX} {i:Nat} {hb:HX} (h:zO H i=some hb):zO (denH ρ H) i=some (hb.den ρ):=by
 rw [jZ] at *; rw [denH,List.getElem?_map,h]; rfl
theorem lN {H:List HX} {i:Nat} (h:zO H i=none):zO (denH ρ H) i=none:=by
 rw [jZ] at *; rw [denH,List.getElem?_map,h]; rfl
theorem uH {H:List HX} {i:Nat} {hb:HX}:jG (denH ρ H) i (hb.den ρ)=denH ρ (jG H i hb):=jFk _ _ _ _
theorem aW {H K:List HX}:denH ρ (H++K)=denH ρ H++denH ρ K:=List.map_append ..
theorem wT (H:List HX):jP (denH ρ H)=jP H:=jDw _ _
theorem Gn.beq_ok {g h:Gn} (k:g.beq h=true):g=h:=by
 simp only [Gn.beq,Bool.and_eq_true] at k;obtain ⟨a,b⟩:=g;obtain ⟨c,d⟩:=h;have e1:=Nat.eq_of_beq_eq_true k.1;have e2:=Nat.eq_of_beq_eq_true k.2;dsimp only at e1 e2;subst e1; subst e2; rfl
theorem Gn.up_den (g:Gn):g.up.den ρ=Nat.succ (g.den ρ):=by obtain ⟨v,o⟩:=g; cases v<;>simp [Gn.up,Gn.den]<;>omega
theorem Gn.up_sc {n:Nat} {g:Gn} (h:g.sc n=true):g.up.sc n=true:=h
@[simp] theorem bK:g0.den ρ=0:=rfl
theorem jHp (n:Nat):g0.sc n=true:=Nat.ble_eq_true_of_le (Nat.zero_le _)
theorem jOe (n:Nat):Nat.beq n n=true:=by simp
theorem fO {H:List HX} {i:Nat} {g:Gn} {hb:HX} (h:hbX H i g=some hb):zO H i=some hb∧hb.g=g:=by
 unfold hbX at h;split at h
 ·rename_i hb' e;cases q:hb'.g.beq g with
  | true=>rw [q] at h; simp at h; subst h; exact ⟨e,Gn.beq_ok q⟩
  | false=>rw [q] at h; simp at h
 ·cases h
theorem uT {H:List HX} {i:Nat} {g:Gn} {hb:HX} (h:hbX H i g=some hb) {Q:HB→Prop} (hq:Q (hb.den ρ)):wU (denH ρ H) i (g.den ρ) Q:=by
 obtain ⟨h1,h2⟩:=fO h;unfold wU;rw [bU h1];show req (Nat.beq (hb.g.den ρ) (g.den ρ)) _;rw [h2,jOe]; exact hq
theorem kA {n:Nat}:∀ {H:List HX} {i:Nat} {hb:HX},scH n H=true→zO H i=some hb→hb.g.sc n=true∧hb.c.sc n=true
 | [],i,hb,h,e=>by cases i<;>cases e
 | a::l,0,hb,h,e=>by simp only [scH,Bool.and_eq_true] at h; cases e; exact ⟨h.1,h.2.1⟩
 | a::l,i+1,hb,h,e=>by simp only [scH,Bool.and_eq_true] at h; exact kA h.2.2 e
theorem vH {n:Nat} {hb:HX} (hg:hb.g.sc n=true) (hc:hb.c.sc n=true):∀ {H:List HX} {i:Nat},scH n H=true→scH n (jG H i hb)=true
 | [],i,h=>h
 | a::l,0,h=>by simp only [scH,jG,Bool.and_eq_true] at h ⊢; exact ⟨hg,hc,h.2.2⟩
 | a::l,i+1,h=>by simp only [scH,jG,Bool.and_eq_true] at h ⊢; exact ⟨h.1,h.2.1,vH hg hc h.2.2⟩
theorem jBv {n:Nat} {hb:HX} (hg:hb.g.sc n=true) (hc:hb.c.sc n=true):∀ {H:List HX},scH n H=true→scH n (H++[hb])=true
 | [],h=>by simp only [List.nil_append,scH,Bool.and_eq_true]; exact ⟨hg,hc,trivial⟩
 | a::l,h=>by simp only [List.cons_append,scH,Bool.and_eq_true] at h ⊢; exact ⟨h.1,h.2.1,jBv hg hc h.2.2⟩
theorem jWb {n:Nat} {l:List SX} {i:Nat} {v:SX} (h:scs n l=true) (e:zO l i=some v):v.sc n=true:=by
 rw [jZ] at e; exact sJ.1 h v (List.mem_of_getElem? e)
theorem Inv.setH (h:Inv G ρ st) {H:List HX} (hs:scH st.n H=true):Inv G ρ (st.setH H):=⟨h.e,hs,h.f,h.n,h.b,h.F,h.N,h.B⟩
theorem Inv.setE (h:Inv G ρ st) {E:EX} (hs:scE st.n E=true):Inv G ρ (st.setE E):=⟨hs,h.h,h.f,h.n,h.b,h.F,h.N,h.B⟩
structure Ny (G:Nat→List SV→SV→Prop) (ρ:Rho) (st:Sx) (ρ':Rho) (st':Sx):Prop where
 n:st.n≤st'.n
 ag:∀ k,k<st.n→ρ' k=ρ k
 E:st'.E=st.E
 inv:Inv G ρ' st'
theorem Nx.ny (h:Nx G ρ st ρ' st'):Ny G ρ st ρ' st':=⟨h.n,h.ag,h.E,h.inv⟩
theorem Nx.ny2 (h:Nx G ρ st ρ' st') (k:Ny G ρ' st' ρ2 st2):Ny G ρ st ρ2 st2:=
 ⟨Nat.le_trans h.n k.n,fun j hj=>(k.ag j (Nat.lt_of_lt_of_le hj h.n)).trans (h.ag j hj),k.E.trans h.E,k.inv⟩
theorem Ny.trans (h:Ny G ρ st ρ' st') (k:Ny G ρ' st' ρ2 st2):Ny G ρ st ρ2 st2:=
 ⟨Nat.le_trans h.n k.n,fun j hj=>(k.ag j (Nat.lt_of_lt_of_le hj h.n)).trans (h.ag j hj),k.E.trans h.E,k.inv⟩
theorem Nx.setH (h:Nx G ρ st ρ' st') {H:List HX} (hs:scH st'.n H=true):Ny G ρ st ρ' (st'.setH H):=⟨h.n,h.ag,h.E,h.inv.setH hs⟩
def HO (G:Nat→List SV→SV→Prop) (ρ:Rho) (st:Sx) (k:KO) (Q:QO):Prop:=∀ v st' t ρ',Ny G ρ st ρ' st'→ok (k v st' t)→Q (v.den ρ') (denH ρ' st'.H) t
theorem HO.go {k:KO} {Q:QO} (h:HO G ρ st k Q) (n:Nx G ρ st ρ' st'):HO G ρ' st' k Q:=fun v st2 t ρ2 m h2=>h v st2 t ρ2 (n.ny2 m) h2
theorem HO.k1 {k:KO} {Q:QO} (hi:Inv G ρ st) (h:HO G ρ st k Q):HK G ρ st (fun v st=>k v st t0) fun v=>Q v (denH ρ st.H) t0:=fun v st' ρ' n h2=>by
 have:=h v st' t0 ρ' n.ny h2
 rwa [n.denH hi] at this
theorem ctC (T r:Nat):(P.C G).ct T r=(P.ct T).map (TyX.at r):=rfl
theorem lZ (T r:Nat):jP ((P.C G).ct T r)=jP (P.ct T):=jDw _ _
theorem jKy (R:LT) (d:Option Nat):((jZi R d).ev ρ).toNat=(match d with | none=>0 | some d=>(R.ev ρ).toNat - d):=by
 cases d with
 | none=>simp [jZi]
 | some d=>
  simp only [jZi,jF];show (R.ev ρ+(0 - (d:Int))).toNat=_;omega
theorem jVy {n:Nat} {R:LT} (h:R.sc n=true) (d:Option Nat):(jZi R d).sc n=true:=by
 cases d with
 | none=>rfl
 | some d=>exact kB h
theorem qGm (r T:Nat) (d:Option Nat):TyX.at r (.q T d) = .q T (match d with | none=>0 | some d=>r - d):=by cases d<;>rfl
theorem lU {k:LT→LT→Sx→An} (h:ok (fresh st fun a st=>fresh st fun c st=>k a c st)) (hi:Inv G ρ st) (x y:Rv) :
  ∃ ρ',Nx G ρ st ρ' (st.up (st.n+2))∧ρ' st.n=x∧ρ' (st.n+1)=y∧ok (k (.var st.n) (.var (st.n+1)) (st.up (st.n+2))):=by
 obtain ⟨n1,e1,h⟩:=zU h hi x;obtain ⟨n2,e2,h⟩:=zU h n1.inv y;exact ⟨_,n1.trans n2,by rw [n2.ag st.n (Nat.lt_succ_self _)]; exact e1,e2,h⟩
theorem qFk {R:LT} {t:TyX} {Q':K1} {Q:P1} (h:ok (xTy R t st Q')) (hi:Inv G ρ st) (hR:R.sc st.n=true) (hk:∀ v st' ρ',Nx G ρ st ρ' st'→v.sc st'.n=true→ok (Q' v st')→Q (v.den ρ')):qIt (t.at (R.ev ρ).toNat) Q:=by
 have sv:∀ n:Nat,(LT.var n).sc (n+1)=true:=fun n=>fJ (Nat.lt_succ_self _);cases t with
 | i k=>
  simp only [xTy] at h;intro m;obtain ⟨n1,e,h⟩:=zU h hi ⟨m,[],0⟩;have:=hk (.i k (.var st.n)) _ _ n1 (sv _) h;simp only [SX.den,qC,e] at this;exact this
 | b=>
  simp only [xTy] at h;intro x;obtain ⟨n1,e,h⟩:=zU h hi ⟨if x then 1 else 0,[],0⟩
  have n2:=n1.inv.addFs (l:=[.var st.n,(LT.var st.n).neg.addc 1]) (by
   intro t ht;simp only [List.mem_cons,List.not_mem_nil,or_false] at ht;rcases ht with rfl | rfl
   ·exact ⟨sv _,by rw [qC,e]; cases x<;>decide⟩
   ·exact ⟨kB (oW (sv _)),by rw [jF,qY,qC,e]; cases x<;>decide⟩)
  have:=hk (.bv (.var st.n)) _ _ (n1.trans n2) (jE n2.n (sv _)) h;simp only [SX.den,qC,e] at this;cases x<;>exact this
 | s m=>
  simp only [xTy] at h;intro n w hn h0;obtain ⟨ρ',n1,e1,e2,h⟩:=lU h hi ⟨(n:Int),[],0⟩ ⟨(w:Int),[],0⟩;have svn:(LT.var st.n).sc (st.n+2)=true:=fJ (by omega)
  have n3:=n1.inv.addFs (l:=[.var st.n,(LT.var st.n).neg.addc (SSi + .ofNat m)]) (by
   intro t ht;simp only [List.mem_cons,List.not_mem_nil,or_false] at ht;rcases ht with rfl | rfl
   ·exact ⟨svn,by rw [qC,e1]; exact Int.natCast_nonneg n⟩
   ·refine ⟨kB (oW svn),?_⟩;rw [jF,qY,qC,e1];show 0 ≤ -(n:Int)+((22200:Int)+(m:Int));have:SS=22200:=rfl;omega)
  have:=hk (.s (.var st.n) (.var (st.n+1))) _ _ (n1.trans n3) (by simp only [SX.sc,Bool.and_eq_true]; exact ⟨jE n3.n svn,jE n3.n (fJ (by show st.n+1<st.n+2; omega))⟩) h
  simp only [SX.den,qC,e1,e2] at this;exact this
 | t d=>
  simp only [xTy] at h;intro n w hn h0;obtain ⟨hd,h⟩:=jD h hi;have hd':=hd;rw [jF] at hd';obtain ⟨ρ',n1,e1,e2,h⟩:=lU h hi ⟨(n:Int),[],0⟩ ⟨(w:Int),[],0⟩;have svn:(LT.var st.n).sc (st.n+2)=true:=fJ (by omega)
  have svR:(R.addc (0 - .ofNat d)).sc (st.n+2)=true:=kB (jE (by omega) hR)
  have n3:=n1.inv.addFs (l:=[.var st.n,(R.addc (0 - .ofNat d)).sub (.var st.n),(LT.var st.n).neg.addc TBi]) (by
   intro t ht;simp only [List.mem_cons,List.not_mem_nil,or_false] at ht;rcases ht with rfl | rfl | rfl
   ·exact ⟨svn,by rw [qC,e1]; exact Int.natCast_nonneg n⟩
   rotate_left
   ·refine ⟨kB (oW svn),?_⟩;rw [jF,qY,qC,e1];show 0 ≤ -(n:Int)+(4000000000:Int);have:TB=4000000000:=rfl;omega
   ·refine ⟨pM svR svn,?_⟩;rw [jT,jF,qC,e1,n1.lt hR];change 0≤R.ev ρ+(0 - (d:Int)) at hd';show 0≤R.ev ρ+(0 - (d:Int)) - (n:Int);omega)
  have:=hk (.s (.var st.n) (.var (st.n+1))) _ _ (n1.trans n3) (by simp only [SX.sc,Bool.and_eq_true]; exact ⟨jE n3.n svn,jE n3.n (fJ (by show st.n+1<st.n+2; omega))⟩) h
  simp only [SX.den,qC,e1,e2] at this;exact this
 | q T d=>
  simp only [xTy] at h;rw [qGm];intro n;intro hNB;obtain ⟨n1,e,h⟩:=zU h hi ⟨(n:Int),[],0⟩;have n2:=n1.inv.addFs (l:=[.var st.n,(LT.var st.n).neg.addc jGk]) (by
   intro t ht;simp only [List.mem_cons,List.not_mem_nil,or_false] at ht;rcases ht with rfl | rfl
   ·exact ⟨sv _,by rw [qC,e]; exact Int.natCast_nonneg n⟩
   ·refine ⟨kB (oW (sv _)),?_⟩;rw [jF,qY,qC,e];show 0 ≤ -(n:Int)+1000000;have:NB=1000000:=rfl;omega)
  have:=hk _ _ _ (n1.trans n2) (by simp only [SX.sc,Bool.and_eq_true]; exact ⟨jE (n1.trans n2).n (jVy hR d),jE n2.n (sv _)⟩) h
  simp only [SX.den,qC,e,n1.lt (jVy hR d),jKy] at this;exact this
theorem jWy {R:LT}:∀ {l:List TyX} {st:Sx} {ρ:Rho} {Q':List SX→Sx→An} {Q:List SV→Prop},ok (qJx R l st Q')→Inv G ρ st→R.sc st.n=true →
  (∀ v st' ρ',Nx G ρ st ρ' st'→scs st'.n v=true→ok (Q' v st')→Q (jR ρ' v))→jIp (l.map (TyX.at (R.ev ρ).toNat)) Q
 | [],st,ρ,Q',Q,h,hi,hR,hk=>hk [] st ρ (Nx.refl hi) rfl h
 | t::r,st,ρ,Q',Q,h,hi,hR,hk=>by
  simp only [List.map_cons,jIp];simp only [qJx] at h;refine qFk (Q:=fun v=>jIp (r.map (TyX.at (R.ev ρ).toNat)) fun l=>Q (v::l)) h hi hR fun v st1 ρ1 n1 hv h1=>?_;have:=jWy (Q:=fun l=>Q (v.den ρ1::l)) h1 n1.inv (jE n1.n hR) fun l st2 ρ2 n2 hl h2=>by
   have:=hk (v::l) st2 ρ2 (n1.trans n2) (by simp only [scs,Bool.and_eq_true]; exact ⟨SX.mono n2.n hv,hl⟩) h2
   simp only [jR,n2.sx hv] at this;exact this
  rw [n1.lt hR] at this;exact this
end
end
noncomputable section
set_option linter.all false
open Go
section
variable {P:PX} {G:Nat→List SV→SV→Prop} {ρ ρ' ρ2:Rho} {st st' st2:Sx}
theorem qDa {g n c:LT} (h:nlP (n.ev ρ).toNat (c.ev ρ).toNat):(TE.ng g c (.con 0) n).holds G ρ:=by
 intro _ k k0 k1;rw [qR] at k0;have:=h k.toNat (by omega)
 unfold byZ;omega
theorem sH {t:TE} {off:Nat} {m c:LT}:∀ {l:List (Nat×Option Nat)},t∈jIo l off m c→t = .ng (.con 2) c (.con 0) m∧∃ p,p∈l∧p.1=off∧p.2=none
 | [],h=>by cases h
 | p::l,h=>by
  simp only [jIo] at h;split at h
  ·rename_i e;cases q:Nat.beq p.1 off with
   | true=>
    rw [q] at h;rcases List.mem_cons.1 h with h | h
    ·exact ⟨h,p,List.mem_cons_self .., Nat.eq_of_beq_eq_true q,e⟩
    ·obtain ⟨h1,p',h2,h3⟩:=sH h;exact ⟨h1,p',List.mem_cons_of_mem _ h2,h3⟩
   | false=>
    rw [q] at h;obtain ⟨h1,p',h2,h3⟩:=sH h;exact ⟨h1,p',List.mem_cons_of_mem _ h2,h3⟩
  ·obtain ⟨h1,p',h2,h3⟩:=sH h;exact ⟨h1,p',List.mem_cons_of_mem _ h2,h3⟩
theorem jVu {t:TE} {r:List SX}:∀ {l:List (Nat×Option Nat)},t∈rdR r l→∃ p,p∈l∧∃ m c,zO r p.1=some (.s m c)∧((p.2=none∧t = .ng (.con 2) c (.con 0) m)∨∃ g k t',p.2=some g∧zO r g=some (.i k t')∧t = .ng t' c (.con 0) m)
 | [],h=>by cases h
 | p::l,h=>by
  have back:t∈rdR r l→∃ q,q∈p::l∧∃ m c,zO r q.1=some (.s m c)∧((q.2=none∧t = .ng (.con 2) c (.con 0) m)∨∃ g k t',q.2=some g∧zO r g=some (.i k t')∧t = .ng t' c (.con 0) m):=fun h=>by
   obtain ⟨q,h1,h2⟩:=jVu h;exact ⟨q,List.mem_cons_of_mem _ h1,h2⟩
  simp only [rdR] at h;split at h
  ·rename_i m c e;split at h
   ·rename_i e2;rcases List.mem_cons.1 h with h | h
    ·exact ⟨p,List.mem_cons_self .., m,c,e,.inl ⟨e2,h⟩⟩
    ·exact back h
   ·rename_i g e2;split at h
    ·rename_i k t' e3;rcases List.mem_cons.1 h with h | h
     ·exact ⟨p,List.mem_cons_self .., m,c,e,.inr ⟨g,k,t',e2,e3,h⟩⟩
     ·exact back h
    ·exact back h
  ·exact back h
theorem jVv {l:List (Nat×Option Nat)} {off n0:Nat} {n:Option Nat} {v:SX} (hv:v.sc n0=true) (hrd:rdK l off n (v.den ρ)):∀ t,t∈qIs l off n v→t.sc n0=true∧t.holds G ρ:=by
 intro t ht;unfold qIs at ht;split at ht
 ·rename_i m c;obtain ⟨rfl,p,h1,h2,h3⟩:=sH ht;simp only [SX.sc,Bool.and_eq_true] at hv;refine ⟨by simp only [TE.sc,Bool.and_eq_true]; exact ⟨xT _,hv.2,xT _,hv.1⟩,qDa (hrd p h1 h2 h3 _ _ rfl)⟩
 ·rename_i k r;cases q:Nat.beq off 0 with
  | false=>rw [q] at ht; cases ht
  | true=>
   rw [q] at ht;obtain ⟨p,h1,m,c,h2,h3⟩:=jVu ht;simp only [SX.sc] at hv;have hr:rsK l (jR ρ r):=hrd (Nat.eq_of_beq_eq_true q) _ (by simp only [SX.den])
   have hmc:=jWb hv h2;simp only [SX.sc,Bool.and_eq_true] at hmc;have e1:=pD (ρ:=ρ) h2;rw [jZ] at e1;simp only [SX.den] at e1;rcases h3 with ⟨e2,rfl⟩ | ⟨g,k,t',e2,e3,rfl⟩
   ·exact ⟨by simp only [TE.sc,Bool.and_eq_true]; exact ⟨xT _,hmc.2,xT _,hmc.1⟩,qDa (hr p h1 (by rw [e2]; trivial) _ _ e1)⟩
   ·have hg:=jWb hv e3;have e4:=pD (ρ:=ρ) e3;rw [jZ] at e4;simp only [SX.den] at e4;refine ⟨by simp only [TE.sc,Bool.and_eq_true]; exact ⟨hg,hmc.2,xT _,hmc.1⟩,fun hg2=>?_⟩
    exact qDa (G:=G) (g:=t') (hr p h1 (by rw [e2]; exact ⟨k,by rw [e4,hg2]⟩) _ _ e1) hg2
 ·cases ht
theorem jCb (hi:Inv G ρ st):∀ {l:List TE},(∀ t,t∈l→t.sc st.n=true∧t.holds G ρ)→Nx G ρ st ρ (jTl st l)
 | [],_=>Nx.refl hi
 | t::r,k=>by
  have h1:=jCb hi (l:=r) fun t ht=>k t (List.mem_cons_of_mem _ ht);obtain ⟨k1,k2⟩:=k t (List.mem_cons_self ..);exact h1.trans (h1.inv.addB (TE.mono h1.n k1) k2)
theorem jQn {R:LT} {l:List TyX} {off:Nat} {n:Option Nat} {Q':K1} {Q:P1} (h:ok (jWx R l off n st Q')) (hi:Inv G ρ st) (hR:R.sc st.n=true) (hk:∀ v st' ρ',Nx G ρ st ρ' st'→v.sc st'.n=true→ok (Q' v st')→Q (v.den ρ')):jQb (l.map (TyX.at (R.ev ρ).toNat)) off n Q:=by
 unfold jWx at h;unfold jQb;split at h
 ·rw [jZ] at h;rw [jZ,List.getElem?_map];split at h
  ·rename_i t e;rw [e];exact qFk h hi hR fun v st' ρ' n hv h=>hk v st' ρ' n hv h
  ·exact (jB h).elim
 ·split at h
  ·rename_i l' e;dsimp only;rw [bV,dS,e];exact jWy (Q:=fun l=>Q (.agg l)) h hi hR fun v st' ρ' n hv h=>by
    have:=hk _ _ _ n (by simp only [SX.sc]; exact hv) h
    simp only [SX.den] at this; exact this
  ·exact (jB h).elim
theorem qFg {n:Option Nat} {a:SX} {Q':K1} {Q:P1} (h:ok (xLd P n a st Q')) (hi:Inv G ρ st) (ha:a.sc st.n=true) (hk:HK G ρ st Q' Q):wLd (P.C G) (denH ρ st.H) n (a.den ρ) Q:=by
 unfold xLd at h;split at h
 ·rename_i i g off;simp only [SX.den,wLd];split at h
  ·rename_i hb e;refine uT e ?_;split at h
   ·rename_i l hc;show (match (HX.den ρ hb).c with | .l l=>ldS l off n Q | _=>False)
    simp only [HX.den,hc,HCX.den];unfold ldS;split at h
    ·split at h
     ·rename_i v e2;rw [pD e2];exact hk.now hi h
     ·exact (jB h).elim
    ·split at h
     ·rename_i l' e2;dsimp only;rw [tS,aG e2];have:=hk.now hi h;simp only [SX.den] at this; exact this
     ·exact (jB h).elim
   ·exact (jB h).elim
  ·exact (jB h).elim
 ·rename_i i g k off;simp only [SX.den,wLd];split at h
  ·rename_i hb e;refine uT e ?_;split at h
   ·rename_i T R m hc;show (match (HX.den ρ hb).c with | .r T r _=>jQb ((P.C G).ct T r) off n (fun v=>(P.C G).rd T off n v→Q v) | .rl T r m l=>req (Nat.beq (Nat.succ (k.ev ρ).toNat) m) (ldS l off n Q) | _=>False)
    simp only [HX.den,hc,HCX.den];have hs:=(kA hi.h (fO e).1).2;rw [hc] at hs;simp only [HCX.sc,Bool.and_eq_true] at hs;exact jQn h hi hs.1 fun v st' ρ' n1 hv h hrd=>hk _ _ _ (n1.trans (jCb n1.inv (jVv hv hrd))) h
   ·rename_i T R m l hc;show (match (HX.den ρ hb).c with | .r T r _=>jQb ((P.C G).ct T r) off n (fun v=>(P.C G).rd T off n v→Q v) | .rl T r m l=>req (Nat.beq (Nat.succ (k.ev ρ).toNat) m) (ldS l off n Q) | _=>False)
    simp only [HX.den,hc,HCX.den];obtain ⟨hk0,h⟩:=jD h hi;obtain ⟨hkm,h⟩:=jA h;have ekm:m.ev ρ=k.ev ρ+1:=by rw [←LT.beq_ok hkm,jF]
    have:Nat.beq (Nat.succ (k.ev ρ).toNat) (m.ev ρ).toNat=true:=by
     rw [ekm,uL]; simp; omega
    rw [this];simp only [req];unfold ldS;split at h
    ·split at h
     ·rename_i v e2;rw [pD e2];exact hk.now hi h
     ·exact (jB h).elim
    ·split at h
     ·rename_i l' e2;dsimp only;rw [tS,aG e2];have:=hk.now hi h;simp only [SX.den] at this; exact this
     ·exact (jB h).elim
   ·exact (jB h).elim
  ·exact (jB h).elim
 ·rename_i T R off;simp only [SX.den,wLd];exact jQn h hi ha fun v st' ρ' n1 hv h hrd=>hk _ _ _ (n1.trans (jCb n1.inv (jVv hv hrd))) h
 ·rename_i m c;simp only [SX.den,wLd];split at h
  ·intro _;have:=hk.now hi h;simp only [SX.den] at this; exact this
  ·exact (jB h).elim
 ·simp only [SX.den,wLd];split at h
  ·intro z;obtain ⟨n1,e,h⟩:=zU h hi ⟨z,[],0⟩;have:=hk _ _ _ n1 h;simp only [SX.den,qC,e] at this; exact this
  ·exact (jB h).elim
 ·exact (jB h).elim
theorem jBp {j:Nat} {n m:LT}:∀ {B:List TE},oA j B=some (n,m)→(.ln j n m:TE)∈B
 | [],h=>by cases h
 | t::r,h=>by
  simp only [oA] at h;split at h
  ·rename_i i n' m';cases q:Nat.beq i j with
   | true=>
    rw [q] at h;simp at h;obtain ⟨rfl,rfl⟩:=h;rw [←Nat.eq_of_beq_eq_true q];exact List.mem_cons_self ..
   | false=>rw [q] at h; exact List.mem_cons_of_mem _ (jBp h)
  ·exact List.mem_cons_of_mem _ (jBp h)
theorem eX (hi:Inv G ρ st) {j:Nat} {n m:LT} (h:oA j st.B=some (n,m)):((ρ j).l.length:Int)=n.ev ρ∧(∀ p,p∈(ρ j).l→(p.1:Int)≤m.ev ρ)∧n.sc st.n=true∧m.sc st.n=true∧Nat.blt j st.n=true:=by
 have h1:=hi.B _ (jBp h);have h2:=hi.b _ (jBp h);simp only [TE.sc,Bool.and_eq_true] at h2;exact ⟨h1.1,h1.2,h2.2.1,h2.2.2,h2.1⟩
theorem iT (l:List TyX) (r:Nat):nL (l.map (TyX.at r))=jZn l:=by
 match l with
 | []=>rfl
 | [.s m]=>rfl
 | [.t m]=>rfl
 | [.i k]=>rfl
 | [.b]=>rfl
 | [.q T none]=>rfl
 | [.q T (some d)]=>rfl
 | .i k::_::_=>rfl
 | .b::_::_=>rfl
 | .s m::_::_=>rfl
 | .t m::_::_=>rfl
 | .q T none::_::_=>rfl
 | .q T (some d)::_::_=>rfl
theorem qEf (l:List TyX) (r:Nat):qQj (l.map (TyX.at r))=jWh l:=by
 match l with
 | []=>rfl
 | [.s m]=>rfl
 | [.t m]=>rfl
 | [.i k]=>rfl
 | [.b]=>rfl
 | [.q T none]=>rfl
 | [.q T (some d)]=>rfl
 | .i k::_::_=>rfl
 | .b::_::_=>rfl
 | .s m::_::_=>rfl
 | .t m::_::_=>rfl
 | .q T none::_::_=>rfl
 | .q T (some d)::_::_=>rfl
theorem jYa (t:TyX) (r:Nat):jDe (t.at r)=qBv t:=by cases t with | q T d=>cases d<;>rfl | _=>rfl
theorem jDf (r:Nat):∀ l:List TyX,tY (l.map (TyX.at r))=jBm l
 | []=>rfl
 | t::l=>by simp only [List.map_cons,tY,jBm,jYa,jDf r l]
theorem jOk (r:Nat):∀ l:List TyX,jRy (l.map (TyX.at r))=qDb l
 | []=>rfl
 | t::l=>by
  have:=jOk r l;cases t with
  | q T d=>cases d<;>exact this
  | s m=>rfl
  | _=>exact this
theorem qDg (r:Nat) (ct:List TyX) (off:Nat) (l:List TyX):jYu (ct.map (TyX.at r)) off (l.map (TyX.at r))=qDf ct off l:=by
 unfold jYu qDf;rw [jOk]
 congr 1
 cases off with
 | zero=>rfl
 | succ k=>
  match l with
  | []=>rfl
  | [t]=>
   show (match zO (ct.map (TyX.at r)) k with | some .b=>true | _=>false)=(match zO ct k with | some .b=>true | _=>false)
   rw [jZ,jZ,List.getElem?_map];cases ct[k]? with
   | none=>rfl
   | some t=>cases t with
    | q T d=>cases d<;>rfl
    | _=>rfl
  | _::_::_=>rfl
theorem jUo {R:LT} {t:TyX} {v:SX} {k:An} (h:ok (qHu P st R t v k)) (hi:Inv G ρ st):jGo (P.C G) (t.at (R.ev ρ).toNat) (v.den ρ)∧ok k:=by
 unfold qHu at h;split at h
 ·obtain ⟨h1,h⟩:=jA h;exact ⟨by simp only [SX.den,TyX.at,jGo,h1,req],h⟩
 ·exact ⟨trivial,h⟩
 ·exact ⟨trivial,h⟩
 ·rename_i m n c;obtain ⟨h1,h⟩:=jD h hi;rw [jF,qY] at h1;refine ⟨?_,h⟩;show (n.ev ρ).toNat≤SS+m;have e1:SSi=22200:=rfl;have e2:SS=22200:=rfl;have e3:(Int.ofNat m:Int)=(m:Int):=rfl;omega
 ·rename_i d n c;obtain ⟨h1,h⟩:=jD h hi;obtain ⟨h2,h⟩:=jD h hi;rw [jT,jF] at h1;rw [jF,qY] at h2;refine ⟨?_,h⟩;show (n.ev ρ).toNat≤(R.ev ρ).toNat - d∧(n.ev ρ).toNat≤TB;have e3:(Int.ofNat d:Int)=(d:Int):=rfl;have e4:TBi=4000000000:=rfl;have e5:TB=4000000000:=rfl;omega
 ·refine ⟨?_,h⟩;rw [qGm]; trivial
 ·rename_i T d T' R' n;obtain ⟨h1,h⟩:=jA h;obtain ⟨h2,h⟩:=jD h hi;rw [jT] at h2;refine ⟨?_,h⟩;rw [qGm,←jKy (ρ:=ρ)];simp only [SX.den,jGo,h1,req];omega
 ·rename_i T d j;obtain ⟨h1,h⟩:=jA h;rw [Bool.and_eq_true,Bool.not_eq_true'] at h1;have h2:(P.C G).co T=0:=by
   show (bif P.cp T then 1 else 0)=0;rw [h1.2]; rfl
  split at h
  ·rename_i n m e;obtain ⟨hn3,h⟩:=jD h hi;obtain ⟨h3,h⟩:=jD h hi;rw [jF,qY] at h3 hn3;refine ⟨?_,h⟩;rw [qGm,←jKy (ρ:=ρ)];simp only [SX.den,jGo,ctC,iT,h1.1,req,qEf];have hlen:=(eX hi e).1;have hb12:jGk=1000000:=rfl;have hNB:NB=1000000:=rfl;refine ⟨h2,by omega,fun p hp=>?_⟩
   have:=(eX hi e).2.1 p hp;have e1:SSi=22200:=rfl;have e2:SS=22200:=rfl;have e3:(Int.ofNat (jWh (P.ct T)):Int)=(jWh (P.ct T):Int):=rfl;omega
  ·exact (jB h).elim
 ·exact (jB h).elim
theorem jDd {R:LT}:∀ {l:List TyX} {v:List SX} {k:An},ok (jNk P st R l v k)→Inv G ρ st→jHn (P.C G) (l.map (TyX.at (R.ev ρ).toNat)) (jR ρ v)∧ok k
 | [],[],k,h,hi=>⟨trivial,h⟩
 | [],_::_,k,h,hi=>(jB h).elim
 | _::_,[],k,h,hi=>(jB h).elim
 | t::r,v::l,k,h,hi=>by
  obtain ⟨h1,h⟩:=jUo (k:=jNk P st R r l k) h hi;obtain ⟨h2,h⟩:=jDd h hi;exact ⟨⟨h1,h2⟩,h⟩
theorem qOs {n:Nat} {a x:SX} {Q':KH} {Q:QH} (h:ok (xSt P n a x st Q')) (hi:Inv G ρ st) (ha:a.sc st.n=true) (hk:∀ st' t ρ',Ny G ρ st ρ' st'→ok (Q' st' t)→Q (denH ρ' st'.H) t):wSt (P.C G) (denH ρ st.H) n (a.den ρ) (x.den ρ) Q:=by
 unfold xSt at h;replace h:=jA h;obtain ⟨h0,h⟩:=h;unfold wSt;rw [lG,mX,pG,h0];simp only [req];split at h
 ·rename_i i g off;split at h
  ·rename_i hb e;simp only [SX.den];refine uT e ?_;split at h
   ·rename_i l hc;simp only [HX.den,hc,HCX.den];split at h
    ·rename_i l' e2;obtain ⟨h1,h⟩:=jA h;rw [jEv e2];have hg:=kA hi.h (fO e).1;have hs:scH st.n (jG st.H i ⟨hb.e,hb.g,.l l'⟩)=true:=vH (hb:=⟨hb.e,hb.g,.l l'⟩) hg.1 h1 hi.h;have:=hk _ _ ρ ((Nx.refl hi).setH hs) h;rw [show (st.setH (jG st.H i ⟨hb.e,hb.g,.l l'⟩)).H=jG st.H i ⟨hb.e,hb.g,.l l'⟩ from rfl,←uH] at this;exact this
    ·exact (jB h).elim
   ·exact (jB h).elim
  ·exact (jB h).elim
 ·rename_i i g k off;split at h
  ·rename_i hb e;simp only [SX.den];refine uT e ?_;split at h
   ·rename_i T R m hc;simp only [HX.den,hc,HCX.den];split at h
    ·rename_i l e2;obtain ⟨h1,h⟩:=jA h;obtain ⟨h2,h⟩:=jDd h hi;obtain ⟨h3,h⟩:=dX hi h;rw [lZ,ctC,bV,dS,e2,h1];rw [qR] at h2;exact ⟨⟨h2,h3⟩,hk _ _ ρ (Nx.refl hi).ny h⟩
    ·exact (jB h).elim
   ·exact (jB h).elim
  ·exact (jB h).elim
 ·rename_i T R off;simp only [SX.den];split at h
  ·rename_i l e2;obtain ⟨h1,h⟩:=jA h;obtain ⟨h2,h⟩:=jDd h hi;obtain ⟨h3,h⟩:=dX hi h;simp only [Bool.and_eq_true] at h1;rw [lZ,ctC,bV,dS,e2,iT];show req (tY (l.map (TyX.at (R.ev ρ).toNat))&&jYu ((P.ct T).map (TyX.at (R.ev ρ).toNat)) off (l.map (TyX.at (R.ev ρ).toNat)) && !jZn (P.ct T)&&Nat.ble off (jP (P.ct T))) _;rw [jDf,qDg,h1.1,h1.2.1,h1.2.2.1,h1.2.2.2];exact ⟨⟨h2,h3⟩,hk _ _ ρ (Nx.refl hi).ny h⟩
  ·exact (jB h).elim
 ·exact (jB h).elim
theorem qOn {x:SX} {Q':K1} {Q:P1} (h:ok (xNc x st Q')) (hi:Inv G ρ st) (hk:HK G ρ st Q' Q):wNc (denH ρ st.H) (x.den ρ) Q:=by
 unfold xNc at h;split at h
 ·simp only [SX.den,wNc];split at h
  ·rename_i hb e;exact uT e (hk.now hi h)
  ·exact (jB h).elim
 ·simp only [SX.den,wNc];split at h
  ·rename_i hb e;refine uT e ?_;split at h
   ·rename_i hc;simp only [HX.den,hc,HCX.den];exact hk.now hi h
   ·rename_i hc;simp only [HX.den,hc,HCX.den];exact hk.now hi h
   ·exact (jB h).elim
  ·exact (jB h).elim
 ·exact hk.now hi h
 ·exact hk.now hi h
 ·exact (jB h).elim
theorem qOf {off:Nat} {x:SX} {Q':K1} {Q:P1} (h:ok (xFa off x st Q')) (hi:Inv G ρ st) (hk:HK G ρ st Q' Q):wFa (denH ρ st.H) off (x.den ρ) Q:=by
 unfold xFa at h;split at h
 ·simp only [SX.den,wFa];split at h
  ·rename_i hb e;rw [xP] at h;exact uT e (hk.now hi h)
  ·exact (jB h).elim
 ·simp only [SX.den,wFa];split at h
  ·rename_i hb e;refine uT e ?_;split at h
   ·rename_i hc;rw [xP] at h;simp only [HX.den,hc,HCX.den];exact hk.now hi h
   ·rename_i hc;rw [xP] at h;simp only [HX.den,hc,HCX.den];exact hk.now hi h
   ·exact (jB h).elim
  ·exact (jB h).elim
 ·rw [xP] at h;exact hk.now hi h
 ·obtain ⟨h1,h⟩:=jA h;simp only [SX.den,wFa,h1,req];exact hk.now hi h
 ·exact (jB h).elim
theorem oE {j:Nat} {k n c:LT}:∀ {B:List TE},jDz j k B=some (n,c)→(.el j k n c:TE)∈B
 | [],h=>by cases h
 | t::r,h=>by
  simp only [jDz] at h;split at h
  ·rename_i i u n' c';cases q:(Nat.beq i j&&u.beq k) with
   | true=>
    rw [q] at h;simp at h;obtain ⟨rfl,rfl⟩:=h;rw [Bool.and_eq_true] at q;rw [←Nat.eq_of_beq_eq_true q.1,←LT.beq_ok q.2];exact List.mem_cons_self ..
   | false=>rw [q] at h; exact List.mem_cons_of_mem _ (oE h)
  ·exact List.mem_cons_of_mem _ (oE h)
theorem qOg {sz:Nat} {x y:SX} {Q':K1} {Q:P1} (h:ok (xIa P sz x y st Q')) (hi:Inv G ρ st) (hx:x.sc st.n=true) (hy:y.sc st.n=true) (hk:HK G ρ st Q' Q):wIa (P.C G) (denH ρ st.H) sz (x.den ρ) (y.den ρ) Q:=by
 unfold wIa;have h0:=h;clear h;refine jXc h0 hy fun k hkk h=>?_;clear h0;split at h
 ·rename_i i g n sz';obtain ⟨h1,h⟩:=jA h;obtain ⟨h2,h⟩:=jD h hi;obtain ⟨h3,h⟩:=jD h hi;rw [jF,jT] at h3;simp only [SX.den,h1,req];refine ⟨⟨h2,by omega⟩,?_⟩
  split at h
  ·rename_i hb e;refine uT e ?_;split at h
   ·rename_i l hc;simp only [HX.den,hc,HCX.den];split at h
    ·rename_i e3;rw [xP] at h;have ek:k.ev ρ=k.c:=by simp only [LT.ev,e3,evL]; omega
     have:=hk.now hi h;simp only [SX.den] at this;rw [ek];rw [ek] at h2;obtain ⟨m,hm⟩:=Int.eq_ofNat_of_zero_le h2;rw [hm] at this ⊢;exact this
    ·obtain ⟨c,h⟩:=mS h;obtain ⟨q1,h⟩:=jD h hi;obtain ⟨q2,h⟩:=jD h hi;rw [jF] at q1;rw [jF,qY] at q2;rw [xP] at h;have ek:k.ev ρ=(c:Int):=by
      have:Int.ofNat c=(c:Int):=rfl;omega
     have:=hk.now hi h;simp only [SX.den] at this;rw [ek];exact this
   ·rename_i T R m hc;simp only [HX.den,hc,HCX.den];obtain ⟨h4,h⟩:=jA h;rw [lZ,h4];have:=hk.now hi h;simp only [SX.den] at this; exact this
   ·rename_i T R m hc;simp only [HX.den,hc,HCX.den];obtain ⟨h4,h⟩:=jA h;rw [lZ,h4];have:=hk.now hi h;simp only [SX.den] at this; exact this
   ·exact (jB h).elim
  ·exact (jB h).elim
 ·rename_i T R n;obtain ⟨h1,h⟩:=jA h;obtain ⟨h2,h⟩:=jD h hi;obtain ⟨h3,h⟩:=jD h hi;rw [jF,jT] at h3;simp only [SX.den];rw [lZ,h1];refine ⟨⟨h2,by omega⟩,fun hcp=>?_⟩
  rcases zE h with ⟨e,h⟩ | ⟨e,h⟩
  ·have hcp':1≤(R.ev ρ).toNat:=by
    have:(if P.cp T=true then 1≤(R.ev ρ).toNat else True):=hcp
    rwa [if_pos e] at this
   obtain ⟨s1,n1,h⟩:=qK h hi (by rw [jF]; omega)
   have:=hk _ _ _ n1 h;simp only [SX.den] at this; exact this
  ·have:=hk.now hi h;simp only [SX.den] at this; exact this
 ·rename_i j;obtain ⟨h1,h⟩:=jA h;split at h
  ·rename_i n m e;obtain ⟨l1,l2,l3,l4,l5⟩:=eX hi e;obtain ⟨h2,h⟩:=jD h hi;obtain ⟨h3,h⟩:=jD h hi;rw [jF,jT] at h3;simp only [SX.den,h1,req];refine ⟨⟨h2,by omega⟩,fun p hp=>?_⟩
   have hpm:p∈(ρ j).l:=List.mem_of_getElem? hp;split at h
   ·rename_i a c e2;have hB:=hi.B _ (oE e2);simp only [TE.holds] at hB;rw [hB] at hp;cases hp;have:=hk.now hi h;simp only [SX.den] at this; exact this
   ·obtain ⟨h4,h⟩:=jA h;simp only [Bool.and_eq_true] at h4;obtain ⟨ρ',n1,e1,e2,h⟩:=lU h hi ⟨(p.1:Int),[],0⟩ ⟨(p.2:Int),[],0⟩;have sa:(LT.var st.n).sc (st.n+2)=true:=fJ (by omega)
    have sc':(LT.var (st.n+1)).sc (st.n+2)=true:=fJ (by omega)
    have n2:=n1.inv.addFs (l:=[.var st.n,m.sub (.var st.n),.var (st.n+1)]) (by
     intro t ht;simp only [List.mem_cons,List.not_mem_nil,or_false] at ht;rcases ht with rfl | rfl | rfl
     ·exact ⟨sa,by rw [qC,e1]; exact Int.natCast_nonneg _⟩
     ·exact ⟨pM (jE n1.n h4.2.2) sa,by rw [jT,qC,e1,n1.lt h4.2.2]; have:=l2 p hpm; show 0≤m.ev ρ - (p.1:Int); omega⟩
     ·exact ⟨sc',by rw [qC,e2]; exact Int.natCast_nonneg _⟩)
    have hj:ρ' j=ρ j:=n1.ag j (Nat.le_of_ble_eq_true h4.1);have n3:=n2.inv.addB (t:=.el j k (.var st.n) (.var (st.n+1))) (by
     have hm:=Nat.le_trans n1.n n2.n;simp only [TE.sc,Bool.and_eq_true];exact ⟨Nat.ble_eq_true_of_le (Nat.le_trans (Nat.le_of_ble_eq_true h4.1) hm),jE hm h4.2.1,jE n2.n sa,jE n2.n sc'⟩) (by
     simp only [TE.holds,hj,n1.lt h4.2.1,qC,e1,e2];exact hp)
    have:=hk _ _ _ ((n1.trans n2).trans n3) h;simp only [SX.den,qC,e1,e2] at this;exact this
  ·exact (jB h).elim
 ·rename_i n;obtain ⟨h1,h⟩:=jA h;obtain ⟨h2,h⟩:=jD h hi;obtain ⟨h3,h⟩:=jD h hi;rw [jF,jT] at h3;simp only [SX.den,h1,req];exact ⟨⟨h2,by omega⟩,hk.now hi h⟩
 ·exact (jB h).elim
theorem fV (H:List HX) (i:Nat):denH ρ (vR H i)=dead (denH ρ H) i:=by
 unfold vR dead;cases e:zO H i with
 | some hb=>
  rw [bU e];show denH ρ (jG H i ⟨hb.e,hb.g.up,.dead⟩)=jG (denH ρ H) i ⟨hb.e,Nat.succ (hb.g.den ρ),.dead⟩;rw [←uH];show jG _ _ (HX.den ρ ⟨hb.e,hb.g.up,.dead⟩)=_;simp only [HX.den,Gn.up_den,HCX.den]
 | none=>rw [lN e]
theorem gM {n:Nat} {H:List HX} {i:Nat} (h:scH n H=true):scH n (vR H i)=true:=by
 unfold vR;split
 ·rename_i hb e;exact vH (hb:=⟨hb.e,hb.g.up,.dead⟩) (kA h e).1 rfl h
 ·exact h
theorem qCs (hi:Inv G ρ st) {j:Nat} {n m a b:LT} (l1:((ρ j).l.length:Int)=n.ev ρ) (l2:∀ p,p∈(ρ j).l→(p.1:Int)≤m.ev ρ) (h1:0≤a.ev ρ) (h2:0≤b.ev ρ - a.ev ρ) (h3:0≤n.ev ρ - b.ev ρ) (sm:m.sc st.n=true) (sa:a.sc st.n=true) (sb:b.sc st.n=true) {k:LT→Sx→An} (h:ok (fresh st k)) :
  ∃ ρ',Nx G ρ st ρ' ((st.up (st.n+1)).addB (.ln st.n (b.sub a) m))∧(ρ' st.n).l=((ρ j).l.drop (a.ev ρ).toNat).take (b.ev ρ - a.ev ρ).toNat∧ok (k (.var st.n) (st.up (st.n+1))):=by
 obtain ⟨n1,e,h⟩:=zU h hi ⟨0,((ρ j).l.drop (a.ev ρ).toNat).take (b.ev ρ - a.ev ρ).toNat,0⟩;have n2:=n1.inv.addB (t:=.ln st.n (b.sub a) m) (by
  simp only [TE.sc,Bool.and_eq_true];exact ⟨Nat.ble_eq_true_of_le (Nat.le_refl _),pM (jE n1.n sb) (jE n1.n sa),jE n1.n sm⟩) (by
  simp only [TE.holds,e,jT,n1.lt sa,n1.lt sb,n1.lt sm];refine ⟨?_,fun p hp=>l2 p (List.mem_of_mem_drop (List.mem_of_mem_take hp))⟩;rw [List.length_take,List.length_drop]; omega)
 exact ⟨_,n1.trans n2,by rw [e],h⟩
theorem qOq {sz:Nat} {x:SX} {lo hi':Option X} {Q':KO} {Q:QO} (h:ok (xSl P sz x lo hi' st Q')) (hi:Inv G ρ st) (hx:x.sc st.n=true) (hk:HO G ρ st Q' Q):wSl (P.C G) (denH ρ st.H) sz (x.den ρ) lo hi' (denE ρ st.E) Q:=by
 unfold xSl at h;split at h
 ·simp only [SX.den,wSl];refine vX h hi (xT _) (by rw [qR]) fun a ha h=>?_
  refine vX h hi (xT _) (by rw [qR]) fun b hb h=>?_
  obtain ⟨h1,h⟩:=jD h hi;obtain ⟨h2,h⟩:=jD h hi;obtain ⟨h3,h⟩:=jD h hi;rw [jT] at h2; rw [qY] at h3;exact ⟨by omega,hk _ _ _ _ (Nx.refl hi).ny h⟩
 ·rename_i T R n;simp only [SX.sc,Bool.and_eq_true] at hx;obtain ⟨h0,h⟩:=jA h;obtain ⟨hn,h⟩:=jD h hi;simp only [SX.den,wSl];rw [lZ,h0];refine vX h hi (xT _) (by rw [qR]) fun a ha h=>?_
  refine vX h hi hx.2 (by omega) fun b hb h=>?_
  obtain ⟨h1,h⟩:=jD h hi;obtain ⟨h2,h⟩:=jD h hi;obtain ⟨h3,h⟩:=jD h hi;rw [jT] at h2 h3;refine ⟨by omega,fun m hm=>?_⟩
  have:=hk _ _ _ _ (Nx.refl hi).ny h;simp only [SX.den,jT] at this
  rwa [show (b.ev ρ - a.ev ρ).toNat=m by omega] at this
 ·rename_i j;obtain ⟨h0,h⟩:=jA h;split at h
  ·rename_i n m e;obtain ⟨l1,l2,l3,l4,l5⟩:=eX hi e;obtain ⟨hn,h⟩:=jD h hi;simp only [SX.den,wSl,h0,req];refine vX h hi (xT _) (by rw [qR]) fun a ha h=>?_
   refine vX h hi l3 l1 fun b hb h=>?_;obtain ⟨h1,h⟩:=jD h hi;obtain ⟨h2,h⟩:=jD h hi;obtain ⟨h3,h⟩:=jD h hi;rw [jT] at h2 h3;refine ⟨by omega,?_⟩
   obtain ⟨h4,h⟩:=jA h;obtain ⟨ρ',n1,e1,h⟩:=qCs hi l1 l2 h1 h2 h3 l4 ha hb h;have:=hk _ _ _ _ n1.ny h;rw [show (SX.qs (Nat.pred (st.up (st.n+1)).n)).den ρ' = .qs (ρ' st.n).l from rfl,e1] at this;have hH:denH ρ' ((st.up (st.n+1)).addB (.ln st.n (b.sub a) m)).H=denH ρ st.H:=n1.denH hi;rw [hH] at this;exact this
  ·exact (jB h).elim
 ·rename_i i g n sz';simp only [SX.den,wSl];split at h
  ·rename_i hb e;refine uT e ?_;split at h
   ·rename_i j hc;simp only [HX.den,hc,HCX.den];obtain ⟨h0,h⟩:=jA h;split at h
    ·rename_i n m e2;obtain ⟨l1,l2,l3,l4,l5⟩:=eX hi e2;obtain ⟨hn,h⟩:=jD h hi;simp only [h0,req];refine vX h hi (xT _) (by rw [qR]) fun a ha h=>?_
     refine vX h hi l3 l1 fun b hb2 h=>?_;obtain ⟨h1,h⟩:=jD h hi;obtain ⟨h2,h⟩:=jD h hi;obtain ⟨h3,h⟩:=jD h hi;rw [jT] at h2 h3;refine ⟨by omega,?_⟩
     obtain ⟨h4,h⟩:=jA h;obtain ⟨ρ',n1,e1,h⟩:=qCs hi l1 l2 h1 h2 h3 l4 ha hb2 h;have hs:scH ((st.up (st.n+1)).addB (.ln st.n (b.sub a) m)).n (vR st.H i)=true:=vW n1.n (gM hi.h);have:=hk _ _ _ _ (n1.setH hs) h;rw [show (SX.qs (Nat.pred (st.up (st.n+1)).n)).den ρ' = .qs (ρ' st.n).l from rfl,e1] at this;have hH:denH ρ' (vR st.H i)=dead (denH ρ st.H) i:=by rw [←fV]; exact xM n1.ag (gM hi.h)
     change Q _ (denH ρ' (vR st.H i)) _ at this;rw [hH] at this;exact this
    ·exact (jB h).elim
   ·exact (jB h).elim
  ·exact (jB h).elim
 ·exact (jB h).elim
theorem qOi {x:SX} {Q':K1} {Q:P1} (h:ok (xLm x st Q')) (hi:Inv G ρ st) (hk:HK G ρ st Q' Q):wLm (denH ρ st.H) (x.den ρ) Q:=by
 unfold xLm at h;split at h
 ·have:=hk.now hi h;simp only [SX.den,qR] at this; exact this
 ·rename_i i g n z;simp only [SX.den,wLm];split at h
  ·rename_i hb e;refine uT e ?_;split at h
   ·exact (jB h).elim
   ·rename_i hne;obtain ⟨hn,h⟩:=jD h hi;have:=hk.now hi h;simp only [SX.den] at this;have e1:(((n.ev ρ).toNat:Nat):Int)=n.ev ρ:=Int.toNat_of_nonneg hn;cases hc:hb.c with
    | dead=>exact absurd hc hne
    | l l=>simp only [HX.den,hc,HCX.den]; rw [e1]; exact this
    | r T R k=>simp only [HX.den,hc,HCX.den]; rw [e1]; exact this
    | xs j=>simp only [HX.den,hc,HCX.den]; rw [e1]; exact this
    | rl T R k m=>simp only [HX.den,hc,HCX.den]; rw [e1]; exact this
  ·exact (jB h).elim
 ·rename_i T R n;obtain ⟨hn,h⟩:=jD h hi;have:=hk.now hi h;simp only [SX.den,wLm] at this ⊢;rw [Int.toNat_of_nonneg hn]; exact this
 ·rename_i j;split at h
  ·rename_i n m e;obtain ⟨hn,h⟩:=jD h hi;have:=hk.now hi h;simp only [SX.den,wLm] at this ⊢;rw [(eX hi e).1]; exact this
  ·exact (jB h).elim
 ·obtain ⟨hn,h⟩:=jD h hi;have:=hk.now hi h;simp only [SX.den,wLm] at this ⊢;rw [Int.toNat_of_nonneg hn]; exact this
 ·exact (jB h).elim
end
end
end Go.Proofs.YtdlhiljbhepliaaGreatDoor.Ev.Rf
